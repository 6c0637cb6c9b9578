/- NegoPeer, of the plain functions: two protocols whose rules may be come to be opened. -/
import Derived.Test.YtadlndnagfnlgaaDoorP6
import Derived.Test.YtadlndnagfnlgaaDoorVNegoPeer
namespace Go.Proofs.YtadlndnagfnlgaaDoor.W
open Go
set_option linter.unusedVariables false
theorem shown_peer : portreevelaw14_shown = some true := by kernel_rfl
/-! ### Numbers -/
theorem or8 (s c : Int) (h0 : 0 ≤ c) (h1 : c < 256) : bOr .u32 (sShl .u32 s 8) (IntKind.u32.wrap c) = IntKind.u32.wrap (s * 256 + c) := by
  have hs : sShl .u32 s 8 = (s * 256) % 4294967296 := by
    rw [show sShl .u32 s 8 = IntKind.u32.wrap (s * 2 ^ 8) from rfl, wu32]; rfl
  rw [hs, wu32, wu32, bOr, wu32]
  have hc : c % 4294967296 = c := by omega
  rw [hc]
  obtain ⟨k, hk⟩ : ∃ k : Nat, (s * 256) % 4294967296 = ((k * 256 : Nat) : Int) := ⟨((s * 256) % 4294967296 / 256).toNat, by omega⟩
  obtain ⟨d, rfl⟩ := Int.eq_ofNat_of_zero_le h0
  have hk' : k * 256 < 4294967296 := by omega
  rw [hk]
  have e : (BitVec.ofInt IntKind.u32.bits ((k * 256 : Nat) : Int) ||| BitVec.ofInt IntKind.u32.bits (d : Int)).toNat = k * 256 % 2 ^ 32 ||| d % 2 ^ 32 := by
    show (BitVec.ofInt 32 ((k * 256 : Nat) : Int) ||| BitVec.ofInt 32 (d : Int)).toNat = _
    rw [BitVec.toNat_or, BitVec.ofInt_natCast, BitVec.ofInt_natCast, BitVec.toNat_ofNat, BitVec.toNat_ofNat]
  rw [e]
  rw [Nat.mod_eq_of_lt (show k * 256 < 2 ^ 32 by omega), Nat.mod_eq_of_lt (show d < 2 ^ 32 by omega)]
  have : k * 256 ||| d = k * 256 + d := by
    have := Nat.shiftLeft_add_eq_or_of_lt (show d < 2 ^ 8 by omega) k
    rw [Nat.shiftLeft_eq] at this
    exact this.symm
  rw [this]
  omega
theorem numL_b4 (m : Int) (h0 : 0 ≤ m) (h1 : m < 4294967296) : numL (b4 m) = m := by
  unfold numL b4
  simp only [List.foldl_cons, List.foldl_nil]
  rw [or8 _ _ (by omega) (by omega), or8 _ _ (by omega) (by omega), or8 _ _ (by omega) (by omega), or8 _ _ (by omega) (by omega)]
  simp only [wu32]
  omega
theorem streq_refl (a : ByteArray) : streq a a = true := by simp [streq]
/-! ### Two packets -/
def rl (m o : Int) : TRule := TRule.mk false m o 0 0
def os1 (m : Int) : List TOpt := [TOpt.mk 5 (b4 m)]
def by1 (m : Int) : List Int := 5 :: 6 :: b4 m
theorem enc1 (m : Int) : encL (os1 m) = by1 m := by kernel_rfl
theorem few1 (m : Int) : FewL (os1 m) := FewL.of (by simp [os1]) (fun o ho => by simp [os1] at ho; subst ho; simp [b4])
theorem bytes1 (m : Int) : Bytes8 (by1 m) := fun z hz => by
  simp only [by1, b4, List.mem_cons, List.not_mem_nil, or_false] at hz
  omega
theorem read1 (m : Int) : opts_Read (by1 m) = some (os1 m, 0) := by
  rw [read_spec (bytes1 m) (by simp [by1, b4]), ← enc1, readL_of_enc _ _ (few1 m).all (Nat.le_refl _)]
theorem bytes_os1 (m : Int) : opts_Bytes (os1 m) = some (by1 m, 0) := by
  rw [optsBytes_spec (by simp [os1]) (few1 m).all, enc1, if_neg (by simp [by1, b4])]
/-- The request of the other one is acknowledged. -/
theorem take_req (m o x c l i j : Int) (h0 : 0 ≤ x) (h1 : x < 4294967296) (hx : x ≠ 0) (hm : x ≠ m) :
    nego_Take (TNego.mk (TAuto.mk 6 c l i) (rl m o) (os1 m) 0 []) (TPkt.mk 1 j (by1 x)) = some (TNego.mk (TAuto.mk 8 c l i) (rl m o) (os1 m) 0 (os1 x), [TPkt.mk 2 j (by1 x)], []) := by
  have hans : rules_Answer (rl m o) (os1 x) 0 = some (2, os1 x) := by
    rw [answer_spec _ (by simp [os1]) (few1 x).all]
    have hc : cls (rl m o) (TOpt.mk 5 (b4 x)) = some none := by
      unfold cls
      rw [if_neg (by simp [rl]), if_neg (by simp), if_neg (by simp), if_pos ⟨rfl, rfl⟩, numL_b4 x h0 h1, if_neg (show ¬ (x = 0 ∨ x = (rl m o).Magic) from fun g => g.elim hx hm)]
    have e1 : rejL (rl m o) (os1 x) = [] := by simp [rejL, os1, hc]
    have e2 : sugs (rl m o) (os1 x) = [] := by
      unfold sugs
      rw [if_neg (by simp [rl])]
      simp [sugL, os1, hc]
    unfold answerL
    rw [if_neg (by decide), e1, e2]
    rfl
  have hev : nego_work_event (TNego.mk (TAuto.mk 6 c l i) (rl m o) (os1 m) 0 []) [] [] (TPkt.mk 1 j (by1 x)) 6 (TPkt.mk 2 j (by1 x)) = some ([8], TNego.mk (TAuto.mk 8 c l i) (rl m o) (os1 m) 0 [], [TPkt.mk 2 j (by1 x)], [], TPkt.mk 1 j (by1 x)) := by kernel_rfl
  have hreq : nego_work_request (TNego.mk (TAuto.mk 6 c l i) (rl m o) (os1 m) 0 []) [] [] (TPkt.mk 1 j (by1 x)) = some (TNego.mk (TAuto.mk 8 c l i) (rl m o) (os1 m) 0 (os1 x), [TPkt.mk 2 j (by1 x)], [], TPkt.mk 1 j (by1 x)) := by
    unfold nego_work_request
    rw [read1]
    simp only [Option.bind_some]
    rw [if_neg (by simp), if_neg (by simp)]
    unfold nego_work_request_j1
    simp only
    rw [hans]
    simp only [Option.bind_some, bytes_os1]
    rw [if_pos (by simp)]
    unfold nego_work_request_j2 nego_work_reply
    simp only [Option.bind_some, hev]
    rw [answers_spec (by simp)]
    rfl
  unfold nego_Take
  rw [if_neg (by simp [rl])]
  unfold nego_Take_j1
  rw [if_neg (by simp)]
  simp only
  rw [show pack_Known 49185 1 = some true by kernel_rfl]
  simp only [Option.bind_some]
  rw [if_neg (by simp), show nego_codes = some () from rfl]
  simp only [Option.bind_some]
  rw [if_pos (by decide), hreq]
  rfl
/-- The acknowledgement opens. -/
theorem take_ack (m o c l i : Int) (ps : List TOpt) : nego_Take (TNego.mk (TAuto.mk 8 c l i) (rl m o) (os1 m) 0 ps) (TPkt.mk 2 i (by1 m)) = some (TNego.mk (TAuto.mk 9 5 0 i) (rl m o) (os1 m) 0 ps, [], [1]) := by
  have hev : nego_work_event (TNego.mk (TAuto.mk 8 c l i) (rl m o) (os1 m) 0 ps) [] [] (TPkt.mk 2 i (by1 m)) 8 zTPkt = some ([5, 1], TNego.mk (TAuto.mk 9 5 0 i) (rl m o) (os1 m) 0 ps, [], [1], TPkt.mk 2 i (by1 m)) := by kernel_rfl
  unfold nego_Take
  rw [if_neg (by simp [rl])]
  unfold nego_Take_j1
  rw [if_neg (by simp)]
  simp only
  rw [show pack_Known 49185 2 = some true by kernel_rfl]
  simp only [Option.bind_some]
  rw [if_neg (by simp), show nego_codes = some () from rfl]
  simp only [Option.bind_some]
  rw [if_neg (by decide), if_pos (by decide)]
  unfold nego_work_ack
  simp only [bytes_os1, Option.bind_some]
  rw [if_pos (by simp)]
  unfold bytes_Equal
  simp only [streq_refl, Option.bind_some]
  unfold nego_work_ack_j1
  rw [if_pos (by simp), hev]
  rfl
/-! ### The rounds -/
def ng (s c l i m o : Int) (ps : List TOpt) : TNego := TNego.mk (TAuto.mk s c l i) (rl m o) (os1 m) 0 ps
abbrev pq (m : Int) : List TPkt := [TPkt.mk 1 2 (by1 m)]
abbrev pa (m : Int) : List TPkt := [TPkt.mk 2 2 (by1 m)]
theorem loop2 {S R : Type} {step : S → Option (S ⊕ R)} {s s1 : S} {r : R} (h1 : step s = some (.inl s1)) (h2 : step s1 = some (.inr r)) : loopM step s = some r := by
  show runM step (1048574 + 1 + 1) s = _
  rw [runM_inl h1, runM_inr h2]
theorem l4_one {k : Int} {n n' m' : TNego} {p : TPkt} {acc out : List TPkt} {told : List Int} (h : nego_Take m' p = some (n', out, told)) (hl : out.length ≤ 10) :
    loopM (fun s => portreevelaw14_agree_l4 [p] k n s.1 s.2.1 s.2.2.1 s.2.2.2) (([] : List TPkt), acc, 0, m') = some (.inl (out, acc, IntKind.i64.wrap (k + 1), n, n')) := by
  refine loop2 (s1 := (out, acc, 1, n')) ?_ ?_
  · simp only
    unfold portreevelaw14_agree_l4
    rw [if_pos (by simp), idx0]
    simp only [Option.bind_some, h]
    rw [app_ok (by simp; omega)]
    rfl
  · simp only
    unfold portreevelaw14_agree_l4
    rw [if_neg (by simp)]
    rfl
theorem l3_one {k : Int} {n n' m' m'' : TNego} {p q : TPkt} {out out' : List TPkt} {told told' : List Int} (h : nego_Take n p = some (n', out, told)) (hl : out.length ≤ 10) (h' : nego_Take m' q = some (m'', out', told')) (hl' : out'.length ≤ 10) :
    loopM (fun s => portreevelaw14_agree_l3 [p] [q] k m' s.1 s.2.1 s.2.2) (([] : List TPkt), 0, n) = some (.inl (out', out, IntKind.i64.wrap (k + 1), n', m'')) := by
  refine loop2 (s1 := (out, 1, n')) ?_ ?_
  · simp only
    unfold portreevelaw14_agree_l3
    rw [if_pos (by simp), idx0]
    simp only [Option.bind_some, h]
    rw [app_ok (by simp; omega)]
    rfl
  · simp only
    unfold portreevelaw14_agree_l3
    rw [if_neg (by simp), l4_one (acc := out) h' hl']
    rfl
theorem opened_spec (m o : Int) : portreevelaw14_opened (TNego.mk zTAuto (rl m o) [TOpt.mk 3 [194, 35, 5], TOpt.mk 5 (b4 m)] 0 []) = some (TNego.mk (TAuto.mk 6 4 3 1) (rl m o) [TOpt.mk 3 [194, 35, 5], TOpt.mk 5 (b4 m)] 0 [], [TPkt.mk 1 1 ([3, 5, 194, 35, 5, 5, 6] ++ b4 m)], []) := by
  have h1 : nego_Do (TNego.mk zTAuto (rl m o) [TOpt.mk 3 [194, 35, 5], TOpt.mk 5 (b4 m)] 0 []) 2 = some (TNego.mk (TAuto.mk 1 0 0 0) (rl m o) [TOpt.mk 3 [194, 35, 5], TOpt.mk 5 (b4 m)] 0 [], [], [3]) := by kernel_rfl
  have hf : FewL (TNego.mk (TAuto.mk 1 0 0 0) (rl m o) [TOpt.mk 3 [194, 35, 5], TOpt.mk 5 (b4 m)] 0 []).Ours := (ask_few (rl m o)).1
  have h2 : nego_Do (TNego.mk (TAuto.mk 1 0 0 0) (rl m o) [TOpt.mk 3 [194, 35, 5], TOpt.mk 5 (b4 m)] 0 []) 0 = some (TNego.mk (TAuto.mk 6 4 3 1) (rl m o) [TOpt.mk 3 [194, 35, 5], TOpt.mk 5 (b4 m)] 0 [], [TPkt.mk 1 1 ([3, 5, 194, 35, 5, 5, 6] ++ b4 m)], []) := by
    unfold nego_Do
    rw [if_pos (by decide)]
    unfold nego_Do_j2
    rw [if_pos (by decide), event_eq hf (l := [5, 7]) (t := 6) (by simp) (by kernel_rfl) zTPkt zTPkt]
    kernel_rfl
  unfold portreevelaw14_opened
  rw [h1]
  simp only [Option.bind_some]
  rw [h2]
  rfl
theorem opened_step (a b o k : Int) (hk : k < 12) (hk0 : 0 ≤ k) : portreevelaw14_agree_l1 k (ng 9 5 0 2 b o (os1 a)) (ng 9 5 0 2 a o (os1 b)) = some (.inl (k + 1, ng 9 5 0 2 b o (os1 a), ng 9 5 0 2 a o (os1 b))) := by
  have t (m : Int) (ps : List TOpt) : nego_Tick (ng 9 5 0 2 m o ps) = some (ng 9 5 0 2 m o ps, [], []) := by kernel_rfl
  unfold portreevelaw14_agree_l1
  rw [if_pos (by simpa using hk), t, t]
  simp only [Option.bind_some]
  have e : loopM (fun s => portreevelaw14_agree_l2 k s.1 s.2.1 s.2.2.1 s.2.2.2.1 s.2.2.2.2) (([] : List TPkt), ([] : List TPkt), 0, ng 9 5 0 2 b o (os1 a), ng 9 5 0 2 a o (os1 b)) = some (.inl (IntKind.i64.wrap (k + 1), ng 9 5 0 2 b o (os1 a), ng 9 5 0 2 a o (os1 b))) := by kernel_rfl
  rw [e, w64 (by omega) (by omega)]
theorem tick_two (m o : Int) : nego_Tick (ng 6 4 1 1 m o []) = some (ng 6 3 3 2 m o [], pq m, []) := by kernel_rfl
def gA (a b o : Int) (j : Nat) : List TPkt × List TPkt × Int × TNego × TNego :=
  if j = 0 then (pq a, pq b, 0, ng 6 3 3 2 b o [], ng 6 3 3 2 a o []) else if j = 1 then (pa b, pa a, 1, ng 8 3 3 2 b o (os1 a), ng 8 3 3 2 a o (os1 b)) else ([], [], (j : Int), ng 9 5 0 2 b o (os1 a), ng 9 5 0 2 a o (os1 b))
theorem quiet_l2 (a b o : Int) (j : Int) (h0 : 0 ≤ j) (h : j < 6) : portreevelaw14_agree_l2 2 [] [] j (ng 9 5 0 2 b o (os1 a)) (ng 9 5 0 2 a o (os1 b)) = some (.inl ([], [], IntKind.i64.wrap (j + 1), ng 9 5 0 2 b o (os1 a), ng 9 5 0 2 a o (os1 b))) := by
  unfold portreevelaw14_agree_l2
  rw [if_pos (by simpa using h)]
  kernel_rfl
theorem round_two (a b o : Int) (ha : 0 ≤ a ∧ a < 4294967296 ∧ a ≠ 0) (hb : 0 ≤ b ∧ b < 4294967296 ∧ b ≠ 0) (hab : a ≠ b) : portreevelaw14_agree_l1 2 (ng 6 4 1 1 b o []) (ng 6 4 1 1 a o []) = some (.inl (3, ng 9 5 0 2 b o (os1 a), ng 9 5 0 2 a o (os1 b))) := by
  unfold portreevelaw14_agree_l1
  rw [if_pos (by decide), tick_two, tick_two]
  simp only [Option.bind_some]
  refine run_loop (gA a b o) 6 _ rfl (by omega) (fun j hj => ?_) ?_
  · by_cases j0 : j = 0
    · subst j0
      show portreevelaw14_agree_l2 2 (pq a) (pq b) 0 (ng 6 3 3 2 b o []) (ng 6 3 3 2 a o []) = _
      unfold portreevelaw14_agree_l2
      rw [if_pos (by decide)]
      exact (l3_one (k := 0) (take_req b o a 3 3 2 2 ha.1 ha.2.1 ha.2.2 hab) (by simp) (take_req a o b 3 3 2 2 hb.1 hb.2.1 hb.2.2 (fun h => hab h.symm)) (by simp)).trans rfl
    · by_cases j1 : j = 1
      · subst j1
        show portreevelaw14_agree_l2 2 (pa b) (pa a) 1 (ng 8 3 3 2 b o (os1 a)) (ng 8 3 3 2 a o (os1 b)) = _
        unfold portreevelaw14_agree_l2
        rw [if_pos (by decide)]
        exact (l3_one (k := 1) (take_ack b o 3 3 2 (os1 a)) (by simp) (take_ack a o 3 3 2 (os1 b)) (by simp)).trans rfl
      · have e1 : gA a b o j = ([], [], (j : Int), ng 9 5 0 2 b o (os1 a), ng 9 5 0 2 a o (os1 b)) := by unfold gA; rw [if_neg j0, if_neg j1]
        have e2 : gA a b o (j + 1) = ([], [], ((j + 1 : Nat) : Int), ng 9 5 0 2 b o (os1 a), ng 9 5 0 2 a o (os1 b)) := by unfold gA; rw [if_neg (by omega), if_neg (by omega)]
        rw [e1, e2]
        simp only
        rw [quiet_l2 a b o j (by omega) (by omega), w64s (by omega)]
  · have e1 : gA a b o 6 = ([], [], 6, ng 9 5 0 2 b o (os1 a), ng 9 5 0 2 a o (os1 b)) := rfl
    rw [e1]
    simp only
    unfold portreevelaw14_agree_l2
    rw [if_neg (by decide)]
    rfl
def gB (a b o : Int) (j : Nat) : Int × TNego × TNego :=
  if j = 0 then (0, ng 6 4 3 1 b o [], ng 6 4 3 1 a o []) else if j = 1 then (1, ng 6 4 2 1 b o [], ng 6 4 2 1 a o []) else if j = 2 then (2, ng 6 4 1 1 b o [], ng 6 4 1 1 a o []) else ((j : Int), ng 9 5 0 2 b o (os1 a), ng 9 5 0 2 a o (os1 b))
theorem round_zero (a b o : Int) : portreevelaw14_agree_l1 0 (ng 6 4 3 1 b o []) (ng 6 4 3 1 a o []) = some (.inl (1, ng 6 4 2 1 b o [], ng 6 4 2 1 a o [])) := by kernel_rfl
theorem round_one (a b o : Int) : portreevelaw14_agree_l1 1 (ng 6 4 2 1 b o []) (ng 6 4 2 1 a o []) = some (.inl (2, ng 6 4 1 1 b o [], ng 6 4 1 1 a o [])) := by kernel_rfl
theorem agree_true (a b o : Int) (ha : 0 ≤ a ∧ a < 4294967296 ∧ a ≠ 0) (hb : 0 ≤ b ∧ b < 4294967296 ∧ b ≠ 0) (hab : a ≠ b) : portreevelaw14_agree (ng 6 4 3 1 a o []) (ng 6 4 3 1 b o []) = some true := by
  unfold portreevelaw14_agree
  refine run_loop (gB a b o) 12 _ rfl (by omega) (fun j hj => ?_) ?_
  · by_cases j0 : j = 0
    · subst j0; exact round_zero a b o
    by_cases j1 : j = 1
    · subst j1; exact round_one a b o
    by_cases j2 : j = 2
    · subst j2; exact round_two a b o ha hb hab
    have e1 : gB a b o j = ((j : Int), ng 9 5 0 2 b o (os1 a), ng 9 5 0 2 a o (os1 b)) := by unfold gB; rw [if_neg j0, if_neg j1, if_neg j2]
    have e2 : gB a b o (j + 1) = (((j + 1 : Nat) : Int), ng 9 5 0 2 b o (os1 a), ng 9 5 0 2 a o (os1 b)) := by unfold gB; rw [if_neg (by omega), if_neg (by omega), if_neg (by omega)]
    rw [e1, e2]
    simp only
    rw [opened_step a b o j (by omega) (by omega)]
    rfl
  · have e1 : gB a b o 12 = (12, ng 9 5 0 2 b o (os1 a), ng 9 5 0 2 a o (os1 b)) := rfl
    rw [e1]
    simp only
    unfold portreevelaw14_agree_l1
    rw [if_neg (by decide)]
    rfl
theorem u32_wf {a : Int} (h : (Lit.int .u32 a).wf = true) : 0 ≤ a ∧ a < 4294967296 := by
  unfold Lit.wf at h
  rw [Bool.and_eq_true, decide_eq_true_eq, decide_eq_true_eq, show IntKind.u32.min = 0 by kernel_rfl, show IntKind.u32.max = 4294967295 by kernel_rfl] at h
  omega
theorem new_spec (m o : Int) : nego_New (TRule.mk zTRule.Ip m o zTRule.Addr zTRule.Ours) = some (TNego.mk zTAuto (rl m o) [TOpt.mk 3 [194, 35, 5], TOpt.mk 5 (b4 m)] 0 []) := by
  unfold nego_New
  rw [ask_spec]
  rfl
theorem drop_spec (m : Int) : portreeveref10_Drop [TOpt.mk 3 [194, 35, 5], TOpt.mk 5 (b4 m)] 3 = some (os1 m) := by kernel_rfl
theorem peer_j1 (a b o : Int) (ha : 0 ≤ a ∧ a < 4294967296 ∧ a ≠ 0) (hb : 0 ≤ b ∧ b < 4294967296 ∧ b ≠ 0) (hab : a ≠ b) : portreevelaw14_NegoPeer_j1 a b o true false = some true := by
  unfold portreevelaw14_NegoPeer_j1
  rw [if_neg (by simp)]
  rw [new_spec, Option.bind_some, new_spec, Option.bind_some, opened_spec, Option.bind_some, opened_spec, Option.bind_some, drop_spec, Option.bind_some, drop_spec, Option.bind_some, if_pos rfl]
  have h := agree_true a b o ha hb hab
  unfold ng at h
  rw [h]
  rfl
theorem negoPeer_true {a b o : Int} (w0 : (Lit.int .u32 a).wf = true) (w1 : (Lit.int .u32 b).wf = true) (w2 : (Lit.int .u32 o).wf = true) : portreevelaw14_NegoPeer a b o = some true := by
  have w0 := u32_wf w0
  have w1 := u32_wf w1
  unfold portreevelaw14_NegoPeer
  rw [shown_peer]
  simp only [Option.bind_some]
  have up : portreevelaw14_NegoPeer_j1 a b o true true = some true := by unfold portreevelaw14_NegoPeer_j1; simp
  by_cases g1 : a = b
  · rw [if_pos (by simpa using g1)]; exact up
  rw [if_neg (by simpa using g1)]
  by_cases g2 : a = 0
  · rw [if_pos (by simpa using g2)]; exact up
  rw [if_neg (by simpa using g2)]
  by_cases g3 : b = 0
  · rw [if_pos (by simpa using g3)]; exact up
  rw [if_neg (by simpa using g3)]
  by_cases g4 : o = 0
  · rw [if_pos (by simpa using g4)]; exact up
  rw [if_neg (by simpa using g4)]
  by_cases g5 : o = a
  · rw [if_pos (by simpa using g5)]; exact up
  rw [if_neg (by simpa using g5)]
  by_cases g6 : o = b
  · rw [show (o == b) = true by simpa using g6]; exact up
  rw [show (o == b) = false by simpa using g6]
  exact peer_j1 a b o ⟨by omega, by omega, g2⟩ ⟨by omega, by omega, g3⟩ g1
end Go.Proofs.YtadlndnagfnlgaaDoor.W
