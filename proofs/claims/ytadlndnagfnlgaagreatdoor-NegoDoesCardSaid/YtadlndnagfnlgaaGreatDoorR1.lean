/- Plain lemmas: the references of options and rules compute as the program does. -/
import Derived.Test.YtadlndnagfnlgaaGreatDoorP7
import Derived.Test.YtadlndnagfnlgaaGreatDoorPS
namespace Go.Proofs.YtadlndnagfnlgaaGreatDoor.W
open Go
set_option linter.unusedVariables false
set_option linter.unusedSimpArgs false
theorem or8 (s c : Int) (h0 : 0 ≤ c) (h1 : c < 256) : bOr .u32 (sShl .u32 s 8) (IntKind.u32.wrap c) = IntKind.u32.wrap (s * 256 + c) := by
  have hs : sShl .u32 s 8 = (s * 256) % 4294967296 := by
    rw [show sShl .u32 s 8 = IntKind.u32.wrap (s * 2 ^ 8) from rfl, wu32]; rfl
  rw [hs, wu32, wu32, bOr, wu32]
  have hc : c % 4294967296 = c := by omega
  rw [hc]
  obtain ⟨k, hk⟩ : ∃ k : Nat, (s * 256) % 4294967296 = ((k * 256 : Nat) : Int) := ⟨((s * 256) % 4294967296 / 256).toNat, by omega⟩
  obtain ⟨d, rfl⟩ := Int.eq_ofNat_of_zero_le h0
  have hk' : k * 256 < 4294967296 := by omega
  rw [hk]
  have e : (BitVec.ofInt IntKind.u32.bits ((k * 256 : Nat) : Int) ||| BitVec.ofInt IntKind.u32.bits (d : Int)).toNat = k * 256 % 2 ^ 32 ||| d % 2 ^ 32 := by
    show (BitVec.ofInt 32 ((k * 256 : Nat) : Int) ||| BitVec.ofInt 32 (d : Int)).toNat = _
    rw [BitVec.toNat_or, BitVec.ofInt_natCast, BitVec.ofInt_natCast, BitVec.toNat_ofNat, BitVec.toNat_ofNat]
  rw [e]
  rw [Nat.mod_eq_of_lt (show k * 256 < 2 ^ 32 by omega), Nat.mod_eq_of_lt (show d < 2 ^ 32 by omega)]
  have : k * 256 ||| d = k * 256 + d := by
    have := Nat.shiftLeft_add_eq_or_of_lt (show d < 2 ^ 8 by omega) k
    rw [Nat.shiftLeft_eq] at this
    exact this.symm
  rw [this]
  omega
theorem refNum {l : List Int} (hl : l.length ≤ 4) (hb : xE l) : xb l = some (numL l) := by
  unfold xb
  rw [w64 (by omega) (by omega), if_neg (show ¬ 0 < (l.length : Int) - 4 by omega)]
  unfold numL
  refine run_loop (fun k => ((l.take k).foldl (fun s c => bOr .u32 (sShl .u32 s 8) (IntKind.u32.wrap c)) 0, (k : Int))) l.length _ (by simp) (by omega) (fun k hk => ?_) ?_
  · have hz := hb _ (List.getElem_mem hk)
    unfold pr10_Number_l1
    simp only
    rw [if_pos (by simpa using hk), zW hk, foldl_take_succ _ _ hk, or8 _ _ (by omega) (by omega)]
    simp only [Option.bind_some, w64s (show k < 1000000000 by omega), wu32]
    congr 3
    omega
  · unfold pr10_Number_l1
    simp only
    rw [if_neg (by simp), List.take_length]
    rfl
theorem refFour {m : Int} (h0 : 0 ≤ m) (h1 : m < 4294967296) : zI m = some (b4 m) := by
  unfold zI b4
  simp only [Int.tdiv_eq_ediv_of_nonneg h0]
  rw [wu32, wu32, wu32, wu8, wu8, wu8, wu8]
  rw [Int.tmod_eq_emod_of_nonneg (by omega), Int.tmod_eq_emod_of_nonneg (by omega), Int.tmod_eq_emod_of_nonneg h0]
  congr 1
  congr 1
  · omega
  congr 1
  · omega
  congr 1
  · omega
  congr 1
  omega
structure RuleOk (r : TRule) : Prop where
  m0 : 0 ≤ r.Magic
  m1 : r.Magic < 4294967296
  o0 : 0 ≤ r.Other
  o1 : r.Other < 4294967296
  a0 : 0 ≤ r.Addr
  a1 : r.Addr < 4294967296
  u0 : 0 ≤ r.Ours
  u1 : r.Ours < 4294967296
theorem refAsk {r : TRule} (h : RuleOk r) : pr13_Ask r = some (askL r) := by
  unfold pr13_Ask askL
  rw [refFour h.m0 h.m1, refFour h.u0 h.u1]
  split <;> rfl
theorem refFind {l : List TOpt} (h : l.length ≤ 1000000) (t : Int) : jE l t = some (getO l (fidx l t), hasT l t) := by
  have key : jE l t = some ((fun o : Option Nat => (getO l o, o.isSome)) (fidx l t)) := by
    unfold jE
    refine find_loopM (fun o : TOpt => o.Typ == t) (fun o : Option Nat => (getO l o, o.isSome)) l (fun k => (k : Int)) rfl (by omega) (fun k hk hp => ?_) (fun k hk hp => ?_) ?_
    · unfold pr10_Find_l1
      rw [if_pos (by simpa using hk), zW hk]
      simp only [Option.bind_some]
      rw [if_neg (by simp [hp]), w64s (by omega)]
    · unfold pr10_Find_l1
      rw [if_pos (by simpa using hk), zW hk]
      simp only [Option.bind_some]
      rw [if_pos (by simpa using hp)]
      simp [getO, List.getElem?_eq_getElem hk]
    · unfold pr10_Find_l1
      rw [if_neg (by simp)]; rfl
  rw [key, ← fidx_some]
theorem refDrop {l : List TOpt} (h : l.length ≤ 1000) (t : Int) : pr10_Drop l t = some (l.filter (fun o => o.Typ != t)) := by
  unfold pr10_Drop
  refine run_loop (fun k => ((l.take k).filter (fun o => o.Typ != t), (k : Int))) l.length _ rfl (by omega) (fun k hk => ?_) ?_
  · have h1 := List.length_filter_le (fun o : TOpt => o.Typ != t) (l.take k)
    have h2 : (l.take k).length ≤ 1000 := by rw [List.length_take]; omega
    unfold pr10_Drop_l1 pr10_Drop_j2
    simp only
    rw [if_pos (by simpa using hk), zW hk, List.take_succ_eq_append_getElem hk, List.filter_append]
    simp only [Option.bind_some, w64s (show k < 1000000000 by omega)]
    by_cases hp : (l[k].Typ != t) = true
    · rw [if_pos hp, xf (by simp only [List.length_singleton]; omega)]
      simp [hp]
    · rw [if_neg hp]
      simp [hp]
  · unfold pr10_Drop_l1
    simp only
    rw [if_neg (by simp), List.take_length]
    rfl
def preL (l : List TOpt) (o : TOpt) : List TOpt := match fidx l o.Typ with | none => l | some i => l.set i o
theorem fidx_snoc (l : List TOpt) (x : TOpt) (t : Int) : fidx (l ++ [x]) t = match fidx l t with | some i => some i | none => if (x.Typ == t) = true then some l.length else none := by
  unfold fidx
  rw [List.findIdx?_append]
  cases hf : l.findIdx? (fun o => o.Typ == t) with
  | some i => rfl
  | none =>
    simp only [List.findIdx?_cons, List.findIdx?_nil]
    cases x.Typ == t <;> simp
theorem refPut {l : List TOpt} (h : l.length ≤ 1000) (o : TOpt) : pr10_Put l o = some (putL l o) := by
  have pl (m : List TOpt) : (preL m o).length = m.length := by unfold preL; split <;> simp
  unfold pr10_Put
  refine run_loop (fun k => (preL (l.take k) o, hasT (l.take k) o.Typ, (k : Int))) l.length _ rfl (by omega) (fun k hk => ?_) ?_
  · have h2 : (l.take k).length = k := by rw [List.length_take]; omega
    have hpl := pl (l.take k)
    have j3f : xa l o (hasT (l.take k) o.Typ) k (preL (l.take k) o) false = some (.inl (preL (l.take k) o ++ [l[k]], hasT (l.take k) o.Typ, ((k + 1 : Nat) : Int))) := by
      unfold xa pr10_Put_j2
      rw [if_neg (by simp), zW hk]
      simp only [Option.bind_some]
      rw [xf (by simp only [List.length_singleton]; omega), w64s (by omega)]
      rfl
    have j3t : xa l o (hasT (l.take k) o.Typ) k (preL (l.take k) o) true = some (.inl (preL (l.take k) o ++ [o], true, ((k + 1 : Nat) : Int))) := by
      unfold xa pr10_Put_j2
      rw [if_pos rfl, xf (by simp only [List.length_singleton]; omega), w64s (by omega)]
      rfl
    unfold pr10_Put_l1
    simp only
    rw [if_pos (by simpa using hk), List.take_succ_eq_append_getElem hk]
    have ht : hasT (l.take k ++ [l[k]]) o.Typ = (hasT (l.take k) o.Typ || (l[k].Typ == o.Typ)) := by unfold hasT; rw [List.any_append]; simp only [List.any_cons, List.any_nil, Bool.or_false]
    rw [ht]
    unfold preL
    rw [fidx_snoc]
    have hfs := fidx_some (l.take k) o.Typ
    unfold preL at j3f j3t
    cases hf : fidx (l.take k) o.Typ with
    | some i =>
      rw [hf] at hfs j3f
      obtain ⟨hi, _⟩ := fidx_lt hf
      have : hasT (l.take k) o.Typ = true := by rw [← hfs]; rfl
      rw [this] at j3f ⊢
      rw [if_neg (by simp), j3f]
      simp only [Bool.true_or]
      rw [List.set_append_left _ _ hi]
    | none =>
      rw [hf] at hfs j3f j3t
      have : hasT (l.take k) o.Typ = false := by rw [← hfs]; rfl
      rw [this] at j3f j3t ⊢
      rw [if_pos (by simp), zW hk]
      simp only [Option.bind_some, Bool.false_or]
      cases hx : l[k].Typ == o.Typ with
      | true =>
        rw [j3t]
        simp only [if_pos]
        rw [List.set_append_right _ _ (Nat.le_refl _), Nat.sub_self]
        rfl
      | false =>
        rw [j3f]
        simp
  · have hpl := pl l
    unfold pr10_Put_l1
    simp only
    rw [if_neg (by simp), List.take_length]
    have hfs := fidx_some l o.Typ
    unfold putL preL
    unfold preL at hpl
    cases hf : fidx l o.Typ with
    | some i =>
      rw [hf] at hfs
      have : hasT l o.Typ = true := by rw [← hfs]; rfl
      rw [this, if_neg (by simp)]
      rfl
    | none =>
      rw [hf] at hfs
      have : hasT l o.Typ = false := by rw [← hfs]; rfl
      rw [this, if_pos (by simp)]
      simp only
      rw [xf (by simp only [List.length_singleton]; omega)]
      rfl
theorem refTurn {r : TRule} (hr : RuleOk r) {ours ps : List TOpt} (h1 : ours.length ≤ 1000) (h2 : ps.length ≤ 1000) {code : Int} (hc : code = 3 ∨ code = 4) : pr13_Turn r ours code ps = some (turnL r ours code ps) := by
  have hj : zF r ours code ps false = some (if code = 4 then (dropL ours ps, true) else if r.Ip = false ∧ hasT ps 5 = true ∧ hasT ours 5 = true then (putL ours (TOpt.mk 5 (b4 r.Other)), true) else (ours, true)) := by
    unfold zF
    rw [if_neg (by simp)]
    by_cases c4 : code = 4
    · rw [if_pos (show (code == 4) = true by simpa using c4), if_pos c4]
      refine run_loop (fun k => (ours.filter (fun o => !hasT (ps.take k) o.Typ), (k : Int))) ps.length _ (by simp only [List.take_zero]; rw [show ours.filter (fun o => !hasT [] o.Typ) = ours from List.filter_eq_self.2 (fun o _ => rfl)]; rfl) (by omega) (fun k hk => ?_) ?_
      · have h3 := List.length_filter_le (fun o : TOpt => !hasT (ps.take k) o.Typ) ours
        unfold pr13_Turn_l2
        simp only
        rw [if_pos (by simpa using hk), zW hk]
        simp only [Option.bind_some]
        rw [refDrop (by omega), List.filter_filter, w64s (by omega)]
        simp only [Option.bind_some]
        congr 4
        funext o
        rw [List.take_succ_eq_append_getElem hk]
        unfold hasT
        simp only [List.any_append, List.any_cons, List.any_nil, Bool.or_false, Bool.not_or]
        rw [Bool.and_comm]
        congr 1
        rw [Bool.eq_iff_iff]
        simp only [bne_iff_ne, ne_eq, Bool.not_eq_true', beq_eq_false_iff_ne]
        exact not_congr eq_comm
      · unfold pr13_Turn_l2
        simp only
        rw [if_neg (by simp), List.take_length]
        rfl
    · rw [if_neg (show ¬ (code == 4) = true by simpa using c4), if_neg c4, refFind (by omega), refFind (by omega)]
      simp only [Option.bind_some]
      have jt : jQ r ours true = some (ours, true) := rfl
      have jf : jQ r ours false = some (putL ours (TOpt.mk 5 (b4 r.Other)), true) := by
        unfold jQ
        rw [if_neg (by simp), refFour hr.o0 hr.o1]
        simp only [Option.bind_some]
        rw [refPut h1]
        rfl
      by_cases hi : r.Ip = true
      · rw [if_pos hi, jt, if_neg (by simp [hi])]
      · rw [if_neg hi]
        by_cases h5 : hasT ps 5 = true
        · rw [if_neg (by simp [h5])]
          by_cases h6 : hasT ours 5 = true
          · rw [h6, if_pos (show r.Ip = false ∧ hasT ps 5 = true ∧ true = true from ⟨by simpa using hi, h5, rfl⟩)]; exact jf
          · rw [show hasT ours 5 = false by simpa using h6, if_neg (by simp)]; exact jt
        · rw [if_pos (by simpa using h5), jt, if_neg (by simp [h5])]
  have hc' : ((if (code != 3) = true then (zF r ours code ps (code != 4)) else (zF r ours code ps false)) : Option (List TOpt × Bool)) = zF r ours code ps false := by
    rcases hc with rfl | rfl <;> rfl
  have hfin : (if code = 4 then (dropL ours ps, true) else if r.Ip = false ∧ hasT ps 5 = true ∧ hasT ours 5 = true then (putL ours (TOpt.mk 5 (b4 r.Other)), true) else (ours, true)) = (if code = 4 then (dropL ours ps, true) else if code ≠ 3 then (ours, false) else if r.Ip = false ∧ hasT ps 5 = true ∧ hasT ours 5 = true then (putL ours (TOpt.mk 5 (b4 r.Other)), true) else (ours, true)) := by
    rcases hc with rfl | rfl
    · simp
    · simp
  unfold pr13_Turn turnL
  rw [refFind (show ps.length ≤ 1000000 by omega)]
  simp only [Option.bind_some]
  by_cases h3 : hasT ps 3 = true
  · rw [if_pos h3]
    by_cases hi : r.Ip = true
    · rw [if_neg (show ¬ (!r.Ip) = true by simp [hi]), if_neg (show ¬ (r.Ip = false ∧ hasT ps 3 = true) by simp [hi]), ← hfin]
      exact hc'.trans hj
    · rw [if_pos (show (!r.Ip) = true by simpa using hi), if_pos (show r.Ip = false ∧ hasT ps 3 = true from ⟨by simpa using hi, h3⟩)]
      rfl
  · rw [if_neg h3, if_neg (show ¬ (r.Ip = false ∧ hasT ps 3 = true) from fun g => h3 g.2), ← hfin]
    exact hc'.trans hj
theorem len_beq (o : TOpt) (k : Nat) : ((o.Data.length : Int) == (k : Int)) = decide (o.Data.length = k) := by
  by_cases g : o.Data.length = k
  · rw [decide_eq_true g, g]; simp
  · rw [decide_eq_false g, beq_eq_false_iff_ne]; omega
def knownB (r : TRule) (o : TOpt) : Bool :=
  if r.Ip = true then decide (o.Typ = 3) && decide (o.Data.length = 4)
  else if o.Typ = 1 then decide (o.Data.length = 2) else if o.Typ = 2 ∨ o.Typ = 5 then decide (o.Data.length = 4) else if o.Typ = 7 ∨ o.Typ = 8 then decide (o.Data.length = 0) else false
theorem known_cls (r : TRule) (o : TOpt) : (cls r o).isSome = knownB r o := by
  obtain ⟨t, d⟩ := o
  unfold cls knownB
  simp only
  by_cases hi : r.Ip = true
  · rw [if_pos hi, if_pos hi]
    by_cases h3 : t = 3 ∧ d.length = 4
    · rw [if_pos h3, h3.1, h3.2]
      split <;> rfl
    · rw [if_neg h3]
      by_cases g : t = 3
      · have : ¬ d.length = 4 := fun x => h3 ⟨g, x⟩
        simp [g, this]
      · simp [g]
  · rw [if_neg hi, if_neg hi]
    by_cases h1 : t = 1
    · subst h1
      by_cases g : d.length = 2
      · rw [if_pos ⟨rfl, g⟩, if_pos rfl, decide_eq_true g]
        split <;> rfl
      · rw [if_neg (show ¬ ((1 : Int) = 1 ∧ d.length = 2) from fun x => g x.2), if_pos rfl, decide_eq_false g]
        simp
    by_cases h2 : t = 2
    · subst h2
      by_cases g : d.length = 4 <;> simp [g]
    by_cases h5 : t = 5
    · subst h5
      by_cases g : d.length = 4
      · simp only [g]
        simp only [show ¬ ((5 : Int) = 1) by decide, show ¬ ((5 : Int) = 2) by decide, false_and, if_false, if_true, and_self, or_true, decide_true]
        split <;> rfl
      · simp [g]
    by_cases h7 : t = 7 ∨ t = 8
    · by_cases g : d.length = 0 <;> simp [h1, h2, h5, h7, g]
    · simp [h1, h2, h5, h7]
theorem refKnown (r : TRule) (o : TOpt) : pr13_Known r.Ip o = some (cls r o).isSome := by
  rw [known_cls]
  have l0 := len_beq o 0
  have l2 := len_beq o 2
  have l4 := len_beq o 4
  have k4 : xg o true = some (decide (o.Data.length = 4)) := by unfold xg; rw [if_pos rfl, ← l4]; rfl
  have k0 : yh o true = some (decide (o.Data.length = 0)) := by unfold yh; rw [if_pos rfl, ← l0]; rfl
  unfold knownB pr13_Known
  by_cases hi : r.Ip = true
  · rw [if_pos hi, if_pos hi]
    by_cases h3 : o.Typ = 3
    · rw [if_pos (show (o.Typ == 3) = true by simpa using h3), decide_eq_true h3, ← l4]; rfl
    · rw [if_neg (show ¬ (o.Typ == 3) = true by simpa using h3), decide_eq_false h3]; rfl
  · rw [if_neg hi, if_neg hi]
    by_cases h1 : o.Typ = 1
    · rw [if_pos (show (o.Typ == 1) = true by simpa using h1), if_pos h1, ← l2]; rfl
    rw [if_neg (show ¬ (o.Typ == 1) = true by simpa using h1), if_neg h1]
    by_cases h2 : o.Typ = 2
    · rw [if_pos (show (o.Typ == 2) = true by simpa using h2), show (o.Typ == 2) = true by simpa using h2, k4, if_pos (show o.Typ = 2 ∨ o.Typ = 5 from .inl h2)]
    rw [if_neg (show ¬ (o.Typ == 2) = true by simpa using h2)]
    by_cases h5 : o.Typ = 5
    · rw [show (o.Typ == 5) = true by simpa using h5, k4, if_pos (show o.Typ = 2 ∨ o.Typ = 5 from .inr h5)]
    rw [show (o.Typ == 5) = false by simpa using h5, if_neg (show ¬ (o.Typ = 2 ∨ o.Typ = 5) from fun g => g.elim h2 h5)]
    unfold xg
    rw [if_neg (show ¬ false = true by simp)]
    by_cases h7 : o.Typ = 7
    · rw [if_pos (show (o.Typ == 7) = true by simpa using h7), show (o.Typ == 7) = true by simpa using h7, k0, if_pos (show o.Typ = 7 ∨ o.Typ = 8 from .inl h7)]
    rw [if_neg (show ¬ (o.Typ == 7) = true by simpa using h7)]
    by_cases h8 : o.Typ = 8
    · rw [show (o.Typ == 8) = true by simpa using h8, k0, if_pos (show o.Typ = 7 ∨ o.Typ = 8 from .inr h8)]
    · rw [show (o.Typ == 8) = false by simpa using h8, if_neg (show ¬ (o.Typ = 7 ∨ o.Typ = 8) from fun g => g.elim h7 h8)]
      rfl
theorem cls_len {r : TRule} {o : TOpt} {y : Option TOpt} (h : cls r o = some y) : o.Data.length ≤ 4 := by
  unfold cls at h
  repeat' split at h
  all_goals first
    | (simp at h; done)
    | omega
theorem refShould {r : TRule} (hr : RuleOk r) {o : TOpt} (hb : xE o.Data) {y : Option TOpt} (h : cls r o = some y) : ∃ o', pr13_should r o = some (o', y.isSome) ∧ (∀ x, y = some x → o' = x) := by
  have hl := cls_len h
  unfold pr13_should
  rw [refNum hl hb]
  simp only [Option.bind_some]
  unfold cls at h
  by_cases hi : r.Ip = true
  · rw [if_pos hi] at h ⊢
    rw [refFour hr.a0 hr.a1]
    simp only [Option.bind_some]
    by_cases h3 : o.Typ = 3 ∧ o.Data.length = 4
    · rw [if_pos h3] at h
      by_cases hn : numL o.Data = r.Addr
      · rw [if_pos hn] at h
        obtain rfl := Option.some.inj h
        exact ⟨TOpt.mk 3 (b4 r.Addr), by simp [hn], by simp⟩
      · rw [if_neg hn] at h
        obtain rfl := Option.some.inj h
        exact ⟨TOpt.mk 3 (b4 r.Addr), by simp [hn], by simp⟩
    · rw [if_neg h3] at h
      simp at h
  · rw [if_neg hi] at h ⊢
    by_cases h1 : o.Typ = 1 ∧ o.Data.length = 2
    · rw [if_pos h1] at h
      rw [if_pos (by simpa using h1.1)]
      unfold ju
      by_cases hn : numL o.Data < 64
      · rw [if_pos hn] at h
        obtain rfl := Option.some.inj h
        rw [if_pos (by simpa using hn)]
        exact ⟨_, rfl, by simp⟩
      · rw [if_neg hn] at h
        obtain rfl := Option.some.inj h
        rw [if_neg (by simpa using hn), if_neg (by simp [h1.1])]
        exact ⟨_, rfl, by simp⟩
    · rw [if_neg h1] at h
      have jq : ∀ b : Bool, b = false → o.Typ ≠ 5 → ju r o (numL o.Data) b = some (o, false) := fun b hb h5 => by
        subst hb
        unfold ju
        rw [if_neg (by simp), if_neg (by simpa using h5)]
        rfl
      by_cases h2 : o.Typ = 2 ∧ o.Data.length = 4
      · rw [if_pos h2] at h
        obtain rfl := Option.some.inj h
        rw [if_neg (by simp [h2.1]), jq false rfl (by omega)]
        exact ⟨_, rfl, by simp⟩
      · rw [if_neg h2] at h
        by_cases h5 : o.Typ = 5 ∧ o.Data.length = 4
        · rw [if_pos h5] at h
          rw [if_neg (by simp [h5.1])]
          have j2 : jV r o true = some (TOpt.mk 5 (b4 r.Other), true) := by
            unfold jV
            rw [if_pos rfl, refFour hr.o0 hr.o1]
            rfl
          unfold ju
          rw [if_neg (by simp), if_pos (by simpa using h5.1)]
          by_cases h0 : numL o.Data = 0
          · rw [if_pos (.inl h0)] at h
            obtain rfl := Option.some.inj h
            rw [if_pos (by simpa using h0), j2]
            exact ⟨_, rfl, by simp⟩
          · rw [if_neg (by simpa using h0)]
            by_cases hm : numL o.Data = r.Magic
            · rw [if_pos (.inr hm)] at h
              obtain rfl := Option.some.inj h
              rw [show (numL o.Data == r.Magic) = true by simpa using hm, j2]
              exact ⟨_, rfl, by simp⟩
            · rw [if_neg (fun g => g.elim h0 hm)] at h
              obtain rfl := Option.some.inj h
              rw [show (numL o.Data == r.Magic) = false by simpa using hm]
              exact ⟨_, rfl, by simp⟩
        · rw [if_neg h5] at h
          by_cases h7 : (o.Typ = 7 ∨ o.Typ = 8) ∧ o.Data.length = 0
          · rw [if_pos h7] at h
            obtain rfl := Option.some.inj h
            rw [if_neg (by simp; omega), jq false rfl (by omega)]
            exact ⟨_, rfl, by simp⟩
          · rw [if_neg h7] at h
            simp at h
theorem refAddress {os : List TOpt} (hl : os.length ≤ 100000) (hb : ∀ o, o ∈ os → xE o.Data) : ∃ m, xr os = some (m, os.any isAddr) := by
  have key : xr os = some ((fun o : Option Nat => match o with | none => (0, false) | some k => (numL (os[k]?.getD zTOpt).Data, true)) (os.findIdx? isAddr)) := by
    unfold xr
    refine find_loopM isAddr (fun o : Option Nat => match o with | none => (0, false) | some k => (numL (os[k]?.getD zTOpt).Data, true)) os (fun k => (k : Int)) rfl (by omega) (fun k hk hp => ?_) (fun k hk hp => ?_) ?_
    · unfold pr13_Address_l1
      rw [if_pos (by simpa using hk), zW hk]
      simp only [Option.bind_some]
      have jn : jN os k false = some (.inl ((k + 1 : Nat) : Int)) := by
        unfold jN
        rw [if_neg (by simp), w64s (by omega)]
      by_cases h3 : os[k].Typ = 3
      · rw [if_pos (by simpa using h3)]
        have : ((os[k].Data.length : Int) == 4) = false := by
          have e := len_beq os[k] 4
          unfold isAddr at hp
          rw [decide_eq_true h3, Bool.true_and] at hp
          exact e.trans hp
        rw [this, jn]
      · rw [if_neg (by simpa using h3), jn]
    · have h3 : os[k].Typ = 3 ∧ os[k].Data.length = 4 := by simpa [isAddr] using hp
      unfold pr13_Address_l1
      rw [if_pos (by simpa using hk), zW hk]
      simp only [Option.bind_some]
      rw [if_pos (by simpa using h3.1)]
      unfold jN
      rw [if_pos (by simp [h3.2]), zW hk]
      simp only [Option.bind_some]
      rw [refNum (by omega) (hb _ (List.getElem_mem hk))]
      simp [List.getElem?_eq_getElem hk]
    · unfold pr13_Address_l1
      rw [if_neg (by simp)]; rfl
  rw [key, ← List.findIdx?_isSome]
  cases os.findIdx? isAddr with
  | none => exact ⟨_, rfl⟩
  | some k => exact ⟨_, rfl⟩
theorem refAnswer {r : TRule} (hr : RuleOk r) {os : List TOpt} (hl : os.length ≤ 100000) (hb : ∀ o, o ∈ os → xE o.Data) (naks : Int) : pr13_Answer r os naks = some (answerL r os naks) := by
  obtain ⟨m, hm⟩ := refAddress hl hb
  have j5f (sg : List TOpt) : xR os naks sg = some (if naks < 3 then pickL os [] sg else (2, os)) := by
    unfold xR pr13_Answer_j5 pickL
    by_cases hn : naks < 3
    · rw [if_pos (show decide (naks < 3) = true by simpa using hn), if_pos hn, if_neg (show ¬ ([] : List TOpt).length > 0 by simp)]
      by_cases hs : sg.length > 0
      · rw [if_pos (show decide ((sg.length : Int) > 0) = true by simpa using hs), if_pos hs]
      · rw [if_neg (show ¬ decide ((sg.length : Int) > 0) = true by simpa using hs), if_neg hs]
    · rw [if_neg (show ¬ decide (naks < 3) = true by simpa using hn), if_neg hn]
      rfl
  unfold pr13_Answer answerL
  refine run_loop (fun k => (rejL r (os.take k), nakL r (os.take k), sugL r (os.take k), (k : Int))) os.length _ rfl (by omega) (fun k hk => ?_) ?_
  · have ho := hb _ (List.getElem_mem hk)
    have l0 : (os.take k).length ≤ 100000 := by rw [List.length_take]; omega
    have l1 : (rejL r (os.take k)).length ≤ 100000 := Nat.le_trans (List.length_filter_le _ _) l0
    have l2 : (nakL r (os.take k)).length ≤ 100000 := Nat.le_trans (List.length_filter_le _ _) l0
    have l3 : (sugL r (os.take k)).length ≤ 100000 := Nat.le_trans (List.length_filterMap_le _ _) l0
    unfold pr13_Answer_l1
    simp only
    rw [if_pos (by simpa using hk), zW hk]
    simp only [Option.bind_some]
    have e1 : rejL r (os.take (k + 1)) = rejL r (os.take k) ++ rejL r [os[k]] := by rw [List.take_succ_eq_append_getElem hk]; unfold rejL; rw [List.filter_append]
    have e2 : nakL r (os.take (k + 1)) = nakL r (os.take k) ++ nakL r [os[k]] := by rw [List.take_succ_eq_append_getElem hk]; unfold nakL; rw [List.filter_append]
    have e3 : sugL r (os.take (k + 1)) = sugL r (os.take k) ++ sugL r [os[k]] := by rw [List.take_succ_eq_append_getElem hk]; unfold sugL; rw [List.filterMap_append]
    rw [e1, e2, e3, refKnown]
    simp only [Option.bind_some]
    cases hc : cls r os[k] with
    | none =>
      rw [if_pos (by simp), xf (by simp; omega)]
      simp [jr, w64s (show k < 1000000000 by omega), rejL, nakL, sugL, hc]
    | some y =>
      obtain ⟨o', hs, hx⟩ := refShould hr ho hc
      rw [if_neg (by simp), hs]
      simp only [Option.bind_some]
      cases y with
      | none =>
        rw [if_neg (by simp)]
        simp [jr, w64s (show k < 1000000000 by omega), rejL, nakL, sugL, hc]
      | some x =>
        obtain rfl := hx x rfl
        rw [if_pos (by simp), xf (by simp; omega)]
        simp only [Option.bind_some]
        rw [xf (by simp; omega)]
        simp [jr, w64s (show k < 1000000000 by omega), rejL, nakL, sugL, hc]
  · have l3 : (sugL r os).length ≤ 100000 := Nat.le_trans (List.length_filterMap_le _ _) hl
    unfold pr13_Answer_l1
    simp only
    rw [if_neg (by simp), List.take_length]
    have j3f : xP r os naks (nakL r os) (sugL r os) false = some (if naks < 3 then pickL os [] (sugs r os) else (2, os)) := by
      unfold xP
      rw [if_neg (by simp), hm]
      simp only [Option.bind_some]
      unfold pr13_Answer_j6 sugs
      by_cases hi : r.Ip = true
      · rw [if_pos hi]
        cases hA : os.any isAddr with
        | true => rw [if_neg (by simp), j5f]; simp
        | false =>
          rw [if_pos (by simp), refFour hr.a0 hr.a1]
          simp only [Option.bind_some]
          rw [xf (by simp; omega)]
          simp only [Option.bind_some, j5f]
          simp [hi]
      · rw [if_neg hi, if_neg (by simp), j5f]
        simp [hi]
    by_cases hrej : (rejL r os).length > 0
    · rw [if_pos (show decide (((rejL r os).length : Int) > 0) = true by simpa using hrej)]
      have : pickL os (rejL r os) (sugs r os) = (4, rejL r os) := by unfold pickL; rw [if_pos hrej]
      have : pickL os (rejL r os) [] = (4, rejL r os) := by unfold pickL; rw [if_pos hrej]
      rw [if_neg (show ¬ (rejL r os).length = 0 by omega)]
      split <;> simp only [*] <;> rfl
    · rw [if_neg (show ¬ decide (((rejL r os).length : Int) > 0) = true by simpa using hrej)]
      have hr0 : rejL r os = [] := by
        cases h : rejL r os with
        | nil => rfl
        | cons a b => rw [h] at hrej; simp at hrej
      rw [hr0]
      by_cases hn : naks ≥ 3
      · rw [if_pos (show decide (naks ≥ 3) = true by simpa using hn), if_pos hn, if_pos (show ([] : List TOpt).length = 0 from rfl)]
        by_cases hk : (nakL r os).length > 0
        · rw [show decide (((nakL r os).length : Int) > 0) = true by simpa using hk]
          unfold pickL
          rw [if_pos hk]
          rfl
        · rw [show decide (((nakL r os).length : Int) > 0) = false by simpa using hk, j3f, if_neg (by omega)]
          unfold pickL
          rw [if_neg hk]
          rfl
      · rw [if_neg (show ¬ decide (naks ≥ 3) = true by simpa using hn), if_neg hn, j3f, if_pos (by omega)]
        rfl
end Go.Proofs.YtadlndnagfnlgaaGreatDoor.W
