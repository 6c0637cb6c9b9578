/- Plain lemmas: the answer to a request; what an event, a tick and a packet bring. -/
import Derived.Test.YtadlndnagfnlgaaGreatDoorP4
namespace Go.Proofs.YtadlndnagfnlgaaGreatDoor.W
open Go
set_option linter.unusedVariables false
def numL (l : List Int) : Int := l.foldl (fun s c => bOr .u32 (sShl .u32 s 8) (IntKind.u32.wrap c)) 0
theorem num_spec {l : List Int} (h : l.length ≤ 1000000) : opts_Number l = some (numL l) := by
  unfold opts_Number numL
  refine run_loop (fun k => ((l.take k).foldl (fun s c => bOr .u32 (sShl .u32 s 8) (IntKind.u32.wrap c)) 0, (k : Int))) l.length _ (by simp) (by omega) (fun k hk => ?_) ?_
  · unfold opts_Number_l1
    simp only
    rw [if_pos (by simpa using hk), zW hk, foldl_take_succ _ _ hk]
    simp only [Option.bind_some, w64s (show k < 1000000000 by omega)]
  · unfold opts_Number_l1
    simp only
    rw [if_neg (by simp), List.take_length]
    rfl
def cls (r : TRule) (o : TOpt) : Option (Option TOpt) :=
  if r.Ip = true then (if o.Typ = 3 ∧ o.Data.length = 4 then (if numL o.Data = r.Addr then some none else some (some (TOpt.mk 3 (b4 r.Addr)))) else none)
  else if o.Typ = 1 ∧ o.Data.length = 2 then (if numL o.Data < 64 then some (some (TOpt.mk 1 [0, 64])) else some none)
  else if o.Typ = 2 ∧ o.Data.length = 4 then some none
  else if o.Typ = 5 ∧ o.Data.length = 4 then (if numL o.Data = 0 ∨ numL o.Data = r.Magic then some (some (TOpt.mk 5 (b4 r.Other))) else some none)
  else if (o.Typ = 7 ∨ o.Typ = 8) ∧ o.Data.length = 0 then some none else none
def kindOk (r : TRule) (o : TOpt) (kd : Trules_kind) : Prop :=
  (cls r o = some none ∧ ap kd.Not (numL o.Data) = some false) ∨ ∃ o', cls r o = some (some o') ∧ ap kd.Not (numL o.Data) = some true ∧ rules_number o.Typ kd.Long kd.Should = some o'
theorem j1_spec {kd : Trules_kind} (o : TOpt) {k : Nat} (h : kd.Long = (k : Int)) : jB o kd true = some (kd, decide (o.Data.length = k)) := by
  unfold jB
  rw [if_pos rfl, h]
  congr 2
  by_cases g : o.Data.length = k
  · rw [decide_eq_true g, g]; simp
  · rw [decide_eq_false g, beq_eq_false_iff_ne]; omega
theorem of_ip {r : TRule} (hi : r.Ip = true) (o : TOpt) : rules_of r o = some (if o.Typ = 3 then (Trules_kind.mk 4 (FV.rules_kinds_1 r) r.Addr, decide (o.Data.length = 4)) else (qL, false)) := by
  unfold rules_of
  rw [if_pos hi]
  simp only [rules_kinds_k1, Option.bind_some]
  by_cases h3 : o.Typ = 3
  · rw [if_pos (by simpa using h3), if_pos h3]
    exact j1_spec (k := 4) o rfl
  · rw [if_neg (by simpa using h3), if_neg h3]
    rfl
def kds (r : TRule) : List (Int × Trules_kind) := [(1, (Trules_kind.mk 2 FV.rules_kinds_2 64)), (2, (Trules_kind.mk 4 FV.rules_never 0)), (5, (Trules_kind.mk 4 (FV.rules_kinds_3 r) r.Other)), (7, (Trules_kind.mk 0 FV.rules_never 0)), (8, (Trules_kind.mk 0 FV.rules_never 0))]
theorem body_spec (r : TRule) (o : TOpt) : (cls r o = none ∧ ∃ kd, rules_of r o = some (kd, false)) ∨ ∃ kd, rules_of r o = some (kd, true) ∧ kindOk r o kd := by
  by_cases hi : r.Ip = true
  · rw [of_ip hi]
    unfold kindOk cls
    rw [if_pos hi]
    by_cases h3 : o.Typ = 3
    · by_cases h4 : o.Data.length = 4
      · right
        rw [if_pos h3, if_pos ⟨h3, h4⟩, decide_eq_true h4]
        refine ⟨_, rfl, ?_⟩
        by_cases hn : numL o.Data = r.Addr
        · left
          rw [if_pos hn]
          exact ⟨rfl, by simp [ap, rules_kinds_1, hn]⟩
        · right
          rw [if_neg hn]
          exact ⟨_, rfl, by simp [ap, rules_kinds_1, hn], by rw [rnumber4, h3]⟩
      · left
        rw [if_pos h3, if_neg (fun g => h4 g.2), decide_eq_false h4]
        exact ⟨rfl, _, rfl⟩
    · left
      rw [if_neg h3, if_neg (fun g => h3 g.1)]
      exact ⟨rfl, _, rfl⟩
  · have he : rules_of r o = jB o ((lkK (kds r) o.Typ).getD qL) (lkK (kds r) o.Typ).isSome := by
      unfold rules_of
      rw [if_neg hi]
      rfl
    rw [he]
    obtain ⟨t, d⟩ := o
    unfold kindOk cls
    rw [if_neg hi]
    simp only
    by_cases h1 : t = 1
    · subst h1
      show (_ ∧ ∃ kd, jB _ (Trules_kind.mk 2 FV.rules_kinds_2 64) true = _) ∨ ∃ kd, jB _ (Trules_kind.mk 2 FV.rules_kinds_2 64) true = _ ∧ _
      rw [j1_spec (k := 2) (TOpt.mk _ d) rfl]
      by_cases hl : d.length = 2
      · right
        rw [if_pos ⟨rfl, hl⟩, decide_eq_true hl]
        refine ⟨_, rfl, ?_⟩
        by_cases hn : numL d < 64
        · right
          rw [if_pos hn]
          exact ⟨_, rfl, by simp [ap, rules_kinds_2, hn], by kernel_rfl⟩
        · left
          rw [if_neg hn]
          exact ⟨rfl, by simp [ap, rules_kinds_2]; omega⟩
      · left
        rw [if_neg (fun g => hl g.2), if_neg (by simp), if_neg (by simp), if_neg (by simp), decide_eq_false hl]
        exact ⟨rfl, _, rfl⟩
    rw [if_neg (fun g => h1 g.1)]
    by_cases h2 : t = 2
    · subst h2
      show (_ ∧ ∃ kd, jB _ (Trules_kind.mk 4 FV.rules_never 0) true = _) ∨ ∃ kd, jB _ (Trules_kind.mk 4 FV.rules_never 0) true = _ ∧ _
      rw [j1_spec (k := 4) (TOpt.mk _ d) rfl]
      by_cases hl : d.length = 4
      · right
        rw [if_pos ⟨rfl, hl⟩, decide_eq_true hl]
        exact ⟨_, rfl, .inl ⟨rfl, rfl⟩⟩
      · left
        rw [if_neg (fun g => hl g.2), if_neg (by simp), if_neg (by simp), decide_eq_false hl]
        exact ⟨rfl, _, rfl⟩
    rw [if_neg (fun g => h2 g.1)]
    by_cases h5 : t = 5
    · subst h5
      show (_ ∧ ∃ kd, jB _ (Trules_kind.mk 4 (FV.rules_kinds_3 r) r.Other) true = _) ∨ ∃ kd, jB _ (Trules_kind.mk 4 (FV.rules_kinds_3 r) r.Other) true = _ ∧ _
      rw [j1_spec (k := 4) (TOpt.mk _ d) rfl]
      by_cases hl : d.length = 4
      · right
        rw [if_pos ⟨rfl, hl⟩, decide_eq_true hl]
        refine ⟨_, rfl, ?_⟩
        by_cases h0 : numL d = 0
        · right
          rw [if_pos (.inl h0)]
          exact ⟨_, rfl, by simp [ap, rules_kinds_3, h0], rnumber4 _ _⟩
        · by_cases hm : numL d = r.Magic
          · right
            rw [if_pos (.inr hm)]
            exact ⟨_, rfl, by simp [ap, rules_kinds_3, hm], rnumber4 _ _⟩
          · left
            rw [if_neg (fun g => g.elim h0 hm)]
            exact ⟨rfl, by simp [ap, rules_kinds_3, h0, hm]⟩
      · left
        rw [if_neg (fun g => hl g.2), if_neg (by simp), decide_eq_false hl]
        exact ⟨rfl, _, rfl⟩
    rw [if_neg (fun g => h5 g.1)]
    by_cases h7 : t = 7
    · subst h7
      show (_ ∧ ∃ kd, jB _ (Trules_kind.mk 0 FV.rules_never 0) true = _) ∨ ∃ kd, jB _ (Trules_kind.mk 0 FV.rules_never 0) true = _ ∧ _
      rw [j1_spec (k := 0) (TOpt.mk _ d) rfl]
      by_cases hl : d.length = 0
      · right
        rw [if_pos ⟨.inl rfl, hl⟩, decide_eq_true hl]
        exact ⟨_, rfl, .inl ⟨rfl, rfl⟩⟩
      · left
        rw [if_neg (fun g => hl g.2), decide_eq_false hl]
        exact ⟨rfl, _, rfl⟩
    by_cases h8 : t = 8
    · subst h8
      show (_ ∧ ∃ kd, jB _ (Trules_kind.mk 0 FV.rules_never 0) true = _) ∨ ∃ kd, jB _ (Trules_kind.mk 0 FV.rules_never 0) true = _ ∧ _
      rw [j1_spec (k := 0) (TOpt.mk _ d) rfl]
      by_cases hl : d.length = 0
      · right
        rw [if_pos ⟨.inr rfl, hl⟩, decide_eq_true hl]
        exact ⟨_, rfl, .inl ⟨rfl, rfl⟩⟩
      · left
        rw [if_neg (fun g => hl g.2), decide_eq_false hl]
        exact ⟨rfl, _, rfl⟩
    left
    rw [if_neg (fun g => g.1.elim h7 h8)]
    refine ⟨rfl, qL, ?_⟩
    have e : lkK (kds r) t = none := by
      unfold lkK
      rw [List.find?_eq_none.2 (fun p hp => ?_)]
      · rfl
      · simp only [kds, List.mem_cons, List.not_mem_nil, or_false] at hp
        rcases hp with rfl | rfl | rfl | rfl | rfl <;> simpa using ‹_›
    show jB _ ((lkK (kds r) t).getD qL) (lkK (kds r) t).isSome = _
    rw [e]; rfl
def rejL (r : TRule) (os : List TOpt) : List TOpt := os.filter (fun o => (cls r o).isNone)
def nakL (r : TRule) (os : List TOpt) : List TOpt := os.filter (fun o => (cls r o).join.isSome)
def sugL (r : TRule) (os : List TOpt) : List TOpt := os.filterMap (fun o => (cls r o).join)
def isAddr (o : TOpt) : Bool := decide (o.Typ = 3) && decide (o.Data.length = 4)
theorem addr1_spec (o : TOpt) : rules_Address_1 o = some (isAddr o) := by
  unfold rules_Address_1 isAddr
  rw [of_ip rfl]
  by_cases h : o.Typ = 3
  · rw [if_pos h, decide_eq_true h]; rfl
  · rw [if_neg h, decide_eq_false h]; rfl
theorem address_spec {os : List TOpt} (hl : os.length ≤ 100000) (hd : ∀ o, o ∈ os → o.Data.length ≤ 253) : ∃ m, rules_Address os = some (m, os.any isAddr) := by
  have key : xC os = some (ixI (os.findIdx? isAddr)) := by
    unfold xC
    refine find_loopM isAddr ixI os (fun k => (k : Int)) rfl (by omega) (fun k hk hp => ?_) (fun k hk hp => ?_) ?_
    · unfold jk
      rw [if_pos (by simpa using hk), zW hk]
      simp only [Option.bind_some, addr1_spec]
      rw [if_neg (by simp [hp]), w64s (by omega)]
    · unfold jk
      rw [if_pos (by simpa using hk), zW hk]
      simp only [Option.bind_some, addr1_spec]
      rw [if_pos hp]; rfl
    · unfold jk
      rw [if_neg (by simp)]; rfl
  unfold rules_Address
  rw [key]
  simp only [Option.bind_some]
  rw [← List.findIdx?_isSome]
  cases hf : os.findIdx? isAddr with
  | none => exact ⟨0, rfl⟩
  | some k =>
    rw [List.findIdx?_eq_some_iff_getElem] at hf
    obtain ⟨hk, hp, _⟩ := hf
    rw [if_neg (ixI_nneg k), show ixI (some k) = (k : Int) from rfl, zW hk]
    simp only [Option.bind_some, num_spec (show (os[k]).Data.length ≤ 1000000 by have := hd _ (List.getElem_mem hk); omega)]
    exact ⟨_, rfl⟩
def pickL (os xs ys : List TOpt) : Int × List TOpt := if xs.length > 0 then (4, xs) else if ys.length > 0 then (3, ys) else (2, os)
def sugs (r : TRule) (os : List TOpt) : List TOpt := sugL r os ++ (if r.Ip = true ∧ os.any isAddr = false then [TOpt.mk 3 (b4 r.Addr)] else [])
def answerL (r : TRule) (os : List TOpt) (naks : Int) : Int × List TOpt :=
  if naks ≥ 3 then (if (rejL r os).length = 0 then pickL os (nakL r os) [] else pickL os (rejL r os) []) else pickL os (rejL r os) (sugs r os)
theorem pick_spec (os xs ys : List TOpt) : rules_Answer_j4 os xs ys = some (pickL os xs ys) := by
  unfold rules_Answer_j4 pickL
  by_cases h1 : xs.length > 0
  · rw [if_pos (by simpa using h1), if_pos h1]
  · rw [if_neg (by simpa using h1), if_neg h1]
    by_cases h2 : ys.length > 0
    · rw [if_pos (by simpa using h2), if_pos h2]
    · rw [if_neg (by simpa using h2), if_neg h2]
theorem answer_spec (r : TRule) {os : List TOpt} (hl : os.length ≤ 100000) (hd : ∀ o, o ∈ os → o.Data.length ≤ 253) (naks : Int) : rules_Answer r os naks = some (answerL r os naks) := by
  obtain ⟨m, hm⟩ := address_spec hl hd
  have j3 (a b c : List TOpt) : rules_Answer_j3 os naks a b c = some (if naks ≥ 3 then (if a.length = 0 then pickL os b [] else pickL os a []) else pickL os a c) := by
    unfold rules_Answer_j3
    by_cases hn : naks ≥ 3
    · rw [if_pos (by simpa using hn), if_pos hn]
      by_cases ha : a.length = 0
      · rw [if_pos (by simpa using ha), if_pos ha, pick_spec]
      · rw [if_neg (by simpa using ha), if_neg ha, pick_spec]
    · rw [if_neg (by simpa using hn), if_neg hn, pick_spec]
  unfold rules_Answer answerL
  refine run_loop (fun k => (rejL r (os.take k), nakL r (os.take k), sugL r (os.take k), (k : Int))) os.length _ rfl (by omega) (fun k hk => ?_) ?_
  · have ho := hd _ (List.getElem_mem hk)
    have l0 : (os.take k).length ≤ 100000 := by rw [List.length_take]; omega
    have l1 : (rejL r (os.take k)).length ≤ 100000 := Nat.le_trans (List.length_filter_le _ _) l0
    have l2 : (nakL r (os.take k)).length ≤ 100000 := Nat.le_trans (List.length_filter_le _ _) l0
    have l3 : (sugL r (os.take k)).length ≤ 100000 := Nat.le_trans (List.length_filterMap_le _ _) l0
    unfold rules_Answer_l1
    simp only
    rw [if_pos (by simpa using hk), zW hk]
    simp only [Option.bind_some]
    have e1 : rejL r (os.take (k + 1)) = rejL r (os.take k) ++ rejL r [os[k]] := by rw [List.take_succ_eq_append_getElem hk]; unfold rejL; rw [List.filter_append]
    have e2 : nakL r (os.take (k + 1)) = nakL r (os.take k) ++ nakL r [os[k]] := by rw [List.take_succ_eq_append_getElem hk]; unfold nakL; rw [List.filter_append]
    have e3 : sugL r (os.take (k + 1)) = sugL r (os.take k) ++ sugL r [os[k]] := by rw [List.take_succ_eq_append_getElem hk]; unfold sugL; rw [List.filterMap_append]
    rw [e1, e2, e3]
    rcases body_spec r os[k] with ⟨hc, kd, hk'⟩ | ⟨kd, hk', ⟨hc, ha⟩ | ⟨o', hc, ha, hn⟩⟩
    · rw [hk']
      simp only [Option.bind_some]
      rw [if_pos (by simp), xf (by simp; omega)]
      simp [rules_Answer_j2, w64s (show k < 1000000000 by omega), rejL, nakL, sugL, hc]
    · rw [hk']
      simp only [Option.bind_some]
      rw [if_neg (by simp), num_spec (by omega)]
      simp only [Option.bind_some, ha]
      rw [if_neg (by simp)]
      simp [rules_Answer_j2, w64s (show k < 1000000000 by omega), rejL, nakL, sugL, hc]
    · rw [hk']
      simp only [Option.bind_some]
      rw [if_neg (by simp), num_spec (by omega)]
      simp only [Option.bind_some, ha]
      rw [if_pos trivial, xf (by simp; omega), hn]
      simp only [Option.bind_some]
      rw [xf (by simp; omega)]
      simp [rules_Answer_j2, w64s (show k < 1000000000 by omega), rejL, nakL, sugL, hc]
  · have l3 : (sugL r os).length ≤ 100000 := Nat.le_trans (List.length_filterMap_le _ _) hl
    unfold rules_Answer_l1
    simp only
    rw [if_neg (by simp), List.take_length, hm]
    simp only [Option.bind_some]
    have j5f (b : Bool) : rules_Answer_j5 r os naks (rejL r os) (nakL r os) (sugL r os) b = some (if naks ≥ 3 then (if (rejL r os).length = 0 then pickL os (nakL r os) [] else pickL os (rejL r os) []) else pickL os (rejL r os) (sugL r os ++ (if b = true then [TOpt.mk 3 (b4 r.Addr)] else []))) := by
      unfold rules_Answer_j5
      cases b with
      | true =>
        rw [if_pos rfl, rnumber4]
        simp only [Option.bind_some]
        rw [xf (by simp; omega)]
        simp only [Option.bind_some, j3]
        rw [if_pos trivial]
      | false => rw [if_neg (by simp), j3]; simp
    unfold sugs
    by_cases hi : r.Ip = true
    · rw [if_pos hi, j5f]
      cases hA : os.any isAddr <;> simp [hi]
    · rw [if_neg hi, j5f, if_neg (show ¬ (r.Ip = true ∧ os.any isAddr = false) from fun g => hi g.1)]
      simp
end Go.Proofs.YtadlndnagfnlgaaGreatDoor.W
