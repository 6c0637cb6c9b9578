/- Plain lemmas: loops told by their states; the automaton; what is sent and told behind an event. -/
import Derived.Test.YtadlndnagfnlgaaGreatDoorP2
namespace Go.Proofs.YtadlndnagfnlgaaGreatDoor.W
open Go
set_option linter.unusedVariables false
theorem run_loop_aux {S R : Type} {step : S → Option (S ⊕ R)} (g : Nat → S) (N : Nat) (r : R) (h : ∀ k, k < N → step (g k) = some (.inl (g (k + 1)))) (he : step (g N) = some (.inr r)) : ∀ (j k f : Nat), k + j = N → j < f → runM step f (g k) = some r
  | j, k, 0, _, hf => by omega
  | 0, k, f + 1, hk, _ => by
    obtain rfl : k = N := by omega
    simp only [runM, he]
  | j + 1, k, f + 1, hk, hf => by
    simp only [runM, h k (by omega)]
    exact run_loop_aux g N r h he j (k + 1) f (by omega) (by omega)
theorem run_loop {S R : Type} {step : S → Option (S ⊕ R)} (g : Nat → S) (N : Nat) (r : R) {x : S} (hx : x = g 0) (hN : N < 1048576) (h : ∀ k, k < N → step (g k) = some (.inl (g (k + 1)))) (he : step (g N) = some (.inr r)) : xL step x = some r := by
  subst hx
  exact run_loop_aux g N r h he N 0 _ (by omega) hN
theorem find_loop {α S R : Type} {step : S → Option (S ⊕ R)} (p : α → Bool) (r : Option Nat → R) : ∀ (l : List α) (g : Nat → S) (i : Nat), (∀ k (hk : k < l.length), p l[k] = false → step (g (i + k)) = some (.inl (g (i + k + 1)))) → (∀ k (hk : k < l.length), p l[k] = true → step (g (i + k)) = some (.inr (r (some (i + k))))) →
    (step (g (i + l.length)) = some (.inr (r none))) → ∀ f, l.length < f → runM step f (g i) = some (r ((l.findIdx? p).map (i + ·)))
  | _, _, _, _, _, _, 0, hf => by omega
  | [], g, i, _, _, he, f + 1, hf => by
    simp only [List.length_nil, Nat.add_zero] at he
    simp [runM, he]
  | x :: l, g, i, hn, hy, he, f + 1, hf => by
    cases hp : p x with
    | true =>
      have := hy 0 (by simp) (by simpa using hp)
      simp only [Nat.add_zero] at this
      simp [runM, this, List.findIdx?_cons, hp]
    | false =>
      have h0 := hn 0 (by simp) (by simpa using hp)
      simp only [Nat.add_zero] at h0
      simp only [runM, h0]
      have ih := find_loop p r l g (i + 1) (fun k hk hk' => by
          have := hn (k + 1) (by simpa using hk) (by simpa using hk')
          rw [show i + 1 + k = i + (k + 1) by omega]; exact this) (fun k hk hk' => by
          have := hy (k + 1) (by simpa using hk) (by simpa using hk')
          rw [show i + 1 + k = i + (k + 1) by omega]; exact this) (by
          rw [show i + 1 + l.length = i + (x :: l).length by simp; omega]; exact he) f (by simpa using hf)
      rw [ih]
      simp only [List.findIdx?_cons, hp]
      congr 2
      cases l.findIdx? p with
      | none => rfl
      | some v => simp; omega
theorem find_loopM {α S R : Type} {step : S → Option (S ⊕ R)} (p : α → Bool) (r : Option Nat → R) (l : List α) (g : Nat → S) {x : S} (hx : x = g 0) (hl : l.length < 1048576) (hn : ∀ k (hk : k < l.length), p l[k] = false → step (g k) = some (.inl (g (k + 1)))) (hy : ∀ k (hk : k < l.length), p l[k] = true → step (g k) = some (.inr (r (some k))))
    (he : step (g l.length) = some (.inr (r none))) : xL step x = some (r (l.findIdx? p)) := by
  subst hx
  have := find_loop p r l g 0 (fun k hk h => by simpa using hn k hk h) (fun k hk h => by simpa using hy k hk h) (by simpa using he) _ hl
  rw [xL, this]
  congr 2
  cases l.findIdx? p <;> simp
theorem w64s {k : Nat} (h : k < 1000000000) : IntKind.i64.wrap ((k : Int) + 1) = ((k + 1 : Nat) : Int) := by
  rw [w64 (by omega) (by omega)]; omega
def has (l : List Int) (x : Int) : Bool := l.any (x == ·)
def ixI : Option Nat → Int | some k => k | none => -1
theorem ixI_ge (o : Option Nat) : decide (ixI o ≥ 0) = o.isSome := by cases o <;> simp [ixI]
theorem contains_spec {l : List Int} (h : l.length < 1000000) (x : Int) : jC l x = some (has l x) := by
  unfold jC slices_Index_int
  have key : xL (fun s => slices_Index_int_l1 l x s) 0 = some (ixI (l.findIdx? (x == ·))) := find_loopM (x == ·) ixI l (fun k => (k : Int)) rfl (by omega) (fun k hk hp => ?_) (fun k hk hp => ?_) ?_
  · rw [key]
    simp only [Option.bind_some, ixI_ge, List.findIdx?_isSome]; rfl
  · unfold slices_Index_int_l1
    rw [if_pos (by simpa using hk), zW hk]
    simp only [Option.bind_some]
    rw [if_neg (by simp [hp]), w64s (by omega)]
  · unfold slices_Index_int_l1
    rw [if_pos (by simpa using hk), zW hk]
    simp only [Option.bind_some]
    rw [if_pos (by simpa using hp)]; rfl
  · unfold slices_Index_int_l1
    rw [if_neg (by simp)]; rfl
def sendA (a : TAuto) : TAuto := TAuto.mk a.State (if IntKind.i64.wrap (a.Count - 1) < 0 then 0 else IntKind.i64.wrap (a.Count - 1)) 3 (IntKind.u8.wrap (a.Id + 1))
def actA (h : Bool) (a : TAuto) (x : Int) : TAuto :=
  if x = 5 then TAuto.mk a.State (if h then 2 else 5) a.Left a.Id else if x = 6 then TAuto.mk a.State 0 3 a.Id else if x = 7 ∨ x = 10 then sendA a else a
def finA (t : Int) (a : TAuto) : TAuto := TAuto.mk t a.Count (if 4 ≤ t ∧ t ≤ 8 then a.Left else 0) a.Id
theorem timed_spec (t : Int) : fsm_Timed t = some (decide (4 ≤ t ∧ t ≤ 8)) := by
  unfold fsm_Timed
  by_cases h : 4 ≤ t
  · rw [if_pos (by simpa using h)]; simp [h]
  · rw [if_neg (by simpa using h)]; simp [h]
theorem auto_Do_no {a : TAuto} {e : Int} {l : List Int} {t : Int} (h : fsm_Next a.State e = some (l, t, false)) : auto_Do a e = some (a, [], 1) := by
  unfold auto_Do
  rw [h]; rfl
theorem foldl_take_succ {α σ : Type} (f : σ → α → σ) (s : σ) {l : List α} {k : Nat} (h : k < l.length) : (l.take (k + 1)).foldl f s = f ((l.take k).foldl f s) l[k] := by
  rw [List.take_succ_eq_append_getElem h, List.foldl_append]; rfl
theorem auto_Do_eq {a : TAuto} {e : Int} {l : List Int} {t : Int} (hl : l.length < 1000000) (h : fsm_Next a.State e = some (l, t, true)) : auto_Do a e = some (finA t (l.foldl (actA (has l 10)) a), l, 0) := by
  unfold auto_Do
  rw [h]
  simp only [Option.bind_some]
  rw [if_neg (by simp)]
  refine run_loop (fun k => ((k : Int), Tauto_work.mk ((l.take k).foldl (actA (has l 10)) a) l)) l.length _ rfl (by omega) (fun k hk => ?_) ?_
  · unfold auto_Do_l1
    simp only
    rw [if_pos (by simpa using hk), zW hk, foldl_take_succ _ _ hk]
    simp only [Option.bind_some]
    generalize (l.take k).foldl (actA (has l 10)) a = b
    generalize l[k] = x
    unfold actA auto_Do_j2
    by_cases h5 : x = 5
    · rw [if_pos (by simpa using h5), if_pos h5]
      unfold auto_work_begin
      simp only [contains_spec hl, Option.bind_some]
      cases has l 10 <;> simp [w64s (show k < 1000000000 by omega)]
    · rw [if_neg (by simpa using h5), if_neg h5]
      by_cases h6 : x = 6
      · rw [if_pos (by simpa using h6), if_pos h6]
        simp [auto_work_nought, w64s (show k < 1000000000 by omega)]
      · rw [if_neg (by simpa using h6), if_neg h6]
        by_cases h7 : x = 7
        · rw [if_pos (by simpa using h7), if_pos (.inl h7)]
          simp [auto_work_send, sendA, w64s (show k < 1000000000 by omega)]
        · rw [if_neg (by simpa using h7)]
          by_cases h10 : x = 10
          · rw [if_pos (by simpa using h10), if_pos (.inr h10)]
            simp [auto_work_send, sendA, w64s (show k < 1000000000 by omega)]
          · rw [if_neg (by simpa using h10), if_neg (by simp [h7, h10])]
            simp [w64s (show k < 1000000000 by omega)]
  · unfold auto_Do_l1
    simp only
    rw [if_neg (by simp), List.take_length, timed_spec]
    simp only [Option.bind_some, finA]
    by_cases ht : 4 ≤ t ∧ t ≤ 8
    · rw [if_neg (by simp [ht]), if_pos ht]; rfl
    · rw [if_pos (by simp only [decide_eq_false ht]; rfl), if_neg ht]; rfl
def sends (x : Int) : Bool := x == 7 || (x == 8 || (x == 9 || (x == 10 || (x == 11 || (x == 12 || x == 13)))))
def jS (x : Int) : Bool := x == 1 || (x == 2 || (x == 3 || x == 4))
def timed (t : Int) : Bool := decide (4 ≤ t) && decide (t ≤ 8)
def sets (l : List Int) : Bool := l.any fun x => x == 6 || (x == 7 || x == 10)
def tabOk (s e : Int) : Bool :=
  match fsm_Next s e with
  | none => false
  | some (l, t, ok) => !ok || (decide (l.length ≤ 8) && (decide (0 ≤ t) && (decide (t ≤ 9) && ((has l 1 == (!(s == 9) && t == 9)) && ((has l 2 == (s == 9 && !(t == 9))) && (decide ((l.filter sends).length ≤ 2) && (!timed t || (sets l || (timed s && !(e == 4 || e == 5)))))))))) 
theorem tab_all : ((List.range 10).all fun s => (List.range 16).all fun e => tabOk (s : Int) (e : Int)) = true := by kernel_rfl
structure TabOk (s e : Int) (l : List Int) (t : Int) : Prop where
  len : l.length ≤ 8
  t0 : 0 ≤ t
  t9 : t ≤ 9
  up : has l 1 = true ↔ s ≠ 9 ∧ t = 9
  down : has l 2 = true ↔ s = 9 ∧ t ≠ 9
  two : (l.filter sends).length ≤ 2
  left : 4 ≤ t ∧ t ≤ 8 → sets l = true ∨ ((4 ≤ s ∧ s ≤ 8) ∧ e ≠ 4 ∧ e ≠ 5)
theorem next_spec {s e : Int} (h0 : 0 ≤ s) (h9 : s ≤ 9) (e0 : 0 ≤ e) (e15 : e ≤ 15) : ∃ l t, fsm_Next s e = some (l, t, false) ∨ (fsm_Next s e = some (l, t, true) ∧ TabOk s e l t) := by
  have h := tab_all
  rw [List.all_eq_true] at h
  have h1 := h s.toNat (by simp; omega)
  rw [List.all_eq_true] at h1
  have h2 := h1 e.toNat (by simp; omega)
  rw [show ((s.toNat : Nat) : Int) = s by omega, show ((e.toNat : Nat) : Int) = e by omega] at h2
  unfold tabOk at h2
  split at h2
  · simp at h2
  · rename_i l t ok he
    cases ok with
    | false => exact ⟨l, t, .inl he⟩
    | true =>
      refine ⟨l, t, .inr ⟨he, ?_⟩⟩
      simp only [Bool.not_true, Bool.false_or, Bool.and_eq_true, decide_eq_true_eq, beq_iff_eq] at h2
      obtain ⟨g1, g2, g3, g4, g5, g6, g7⟩ := h2
      refine ⟨g1, g2, g3, ?_, ?_, g6, fun ht => ?_⟩
      · rw [g4]; simp
      · rw [g5]; simp
      · have : timed t = true := by simp [timed, ht]
        rw [this] at g7
        simp only [Bool.not_true, Bool.false_or, Bool.or_eq_true, Bool.and_eq_true, timed, decide_eq_true_eq, Bool.not_eq_true', Bool.or_eq_false_iff, beq_eq_false_iff_ne] at g7
        exact g7
theorem foldA (h : Bool) : ∀ (l : List Int) (a : TAuto), 0 ≤ a.Count → a.Count ≤ 5 → 0 ≤ (l.foldl (actA h) a).Count ∧ (l.foldl (actA h) a).Count ≤ 5 ∧ (l.foldl (actA h) a).Left = (if sets l then 3 else a.Left)
  | [], a, h0, h5 => ⟨h0, h5, by simp [sets]⟩
  | x :: l, a, h0, h5 => by
    have hc : 0 ≤ (actA h a x).Count ∧ (actA h a x).Count ≤ 5 ∧ (actA h a x).Left = (if x = 6 ∨ x = 7 ∨ x = 10 then 3 else a.Left) := by
      unfold actA
      by_cases g5 : x = 5
      · subst g5; cases h <;> simp
      · rw [if_neg g5]
        by_cases g6 : x = 6
        · subst g6; simp
        · rw [if_neg g6]
          by_cases g7 : x = 7 ∨ x = 10
          · rw [if_pos g7, if_pos (.inr g7)]
            simp only [sendA]
            rw [w64 (by omega) (by omega)]
            refine ⟨?_, ?_, trivial⟩ <;> split <;> omega
          · rw [if_neg g7, if_neg (by omega)]
            exact ⟨h0, h5, rfl⟩
    obtain ⟨i0, i5, il⟩ := foldA h l (actA h a x) hc.1 hc.2.1
    refine ⟨i0, i5, ?_⟩
    rw [List.foldl_cons, il, hc.2.2]
    by_cases hs : sets l = true
    · have : sets (x :: l) = true := by unfold sets at *; simp [hs]
      rw [if_pos hs, if_pos this]
    · rw [if_neg hs]
      by_cases hx : x = 6 ∨ x = 7 ∨ x = 10
      · have : sets (x :: l) = true := by unfold sets; rcases hx with rfl | rfl | rfl <;> simp
        rw [if_pos hx, if_pos this]
      · have : ¬ sets (x :: l) = true := by unfold sets at *; simp at hx ⊢; simp at hs; exact ⟨by simpa using hx, hs⟩
        rw [if_neg hx, if_neg this]
theorem right_fin {a : TAuto} {e : Int} {l : List Int} {t : Int} (h : TabOk a.State e l t) (c0 : 0 ≤ a.Count) (c5 : a.Count ≤ 5) (hl : (4 ≤ a.State ∧ a.State ≤ 8 ∧ 1 ≤ a.Left ∧ a.Left ≤ 3) ∨ ¬ (4 ≤ a.State ∧ a.State ≤ 8) ∨ e = 4 ∨ e = 5) : RightA (finA t (l.foldl (actA (has l 10)) a)) := by
  obtain ⟨i0, i5, il⟩ := foldA (has l 10) l a c0 c5
  refine ⟨h.t0, h.t9, i0, i5, ?_⟩
  simp only [finA]
  by_cases ht : 4 ≤ t ∧ t ≤ 8
  · left
    rw [if_pos ht, il]
    rcases h.left ht with hs | hs
    · rw [if_pos hs]; exact ⟨ht.1, ht.2, by decide, by decide⟩
    · split
      · exact ⟨ht.1, ht.2, by decide, by decide⟩
      · exact ⟨ht.1, ht.2, by omega, by omega⟩
  · right
    rw [if_neg ht]
    exact ⟨ht, rfl⟩
def askL (r : TRule) : List TOpt := if r.Ip = true then [TOpt.mk 3 (b4 r.Ours)] else [TOpt.mk 3 [194, 35, 5], TOpt.mk 5 (b4 r.Magic)]
theorem rnumber4 (t m : Int) : rules_number t 4 m = some (TOpt.mk t (b4 m)) := by
  unfold rules_number
  rw [four_spec]
  rfl
theorem ask_spec (r : TRule) : rules_Ask r = some (askL r) := by
  unfold rules_Ask askL
  rw [rnumber4, rnumber4]
  split <;> rfl
theorem ask_few (r : TRule) : FewL (askL r) ∧ (jK (askL r)).length ≤ 1496 ∧ ∀ o, o ∈ askL r → o.Typ = 5 → o.Data.length = 4 := by
  unfold askL
  split
  · refine ⟨⟨by simp, fun k hk => ?_⟩, by simp [jK, encO, b4], fun o ho => ?_⟩
    · obtain rfl : k = 0 := by simp at hk; exact hk
      simp [b4]
    · simp at ho; subst ho; simp
  · refine ⟨⟨by simp, fun k hk => ?_⟩, by simp [jK, encO, b4], fun o ho => ?_⟩
    · simp at hk
      have : k = 0 ∨ k = 1 := by omega
      rcases this with rfl | rfl <;> simp [b4]
    · simp at ho
      rcases ho with rfl | rfl <;> simp [b4]
def bytesOf (l : List TOpt) : List Int := if (jK l).length > 1496 then [] else jK l
theorem encL_le {l : List TOpt} (h : ∀ o, o ∈ l → o.Data.length ≤ 253) : (jK l).length ≤ l.length * 255 := by
  induction l with
  | nil => simp [jK]
  | cons o l ih =>
    have h1 := h o (by simp)
    have h2 := ih (fun x hx => h x (by simp [hx]))
    have : (jK (o :: l)).length = o.Data.length + 2 + (jK l).length := by simp only [jK, List.flatMap_cons, List.length_append, encO_len]
    rw [this, List.length_cons]
    omega
theorem optsBytes_spec {l : List TOpt} (hl : l.length ≤ 1000) (hd : ∀ o, o ∈ l → o.Data.length ≤ 253) : opts_Bytes l = some (if (jK l).length > 1496 then ([], 1) else (jK l, 0)) := by
  unfold opts_Bytes
  refine run_loop (fun k => (jK (l.take k), (k : Int))) l.length _ (by simp [jK]) (by omega) (fun k hk => ?_) ?_
  · have h1 := encL_le (l := l.take k) (fun o ho => hd o (List.mem_of_mem_take ho))
    have h2 : (l.take k).length ≤ 1000 := by rw [List.length_take]; omega
    have h3 := hd l[k] (List.getElem_mem hk)
    unfold opts_Bytes_l1
    rw [if_pos (by simpa using hk), zW hk]
    simp only [Option.bind_some]
    rw [if_neg (by simp; omega), xf (by simp; omega)]
    simp only [Option.bind_some]
    rw [xf (by simp; omega)]
    simp only [Option.bind_some]
    rw [w64s (by omega), List.take_succ_eq_append_getElem hk, encL_snoc]
    simp [encO, Int.add_comm]
  · unfold opts_Bytes_l1
    rw [if_neg (by simp)]
    simp only [List.take_length]
    by_cases hb : (jK l).length > 1496
    · rw [if_pos (by simp; omega), if_pos hb]; rfl
    · rw [if_neg (by simp; omega), if_neg hb]; rfl
theorem FewL.all {l : List TOpt} (h : FewL l) : ∀ o, o ∈ l → o.Data.length ≤ 253 := fun o ho => by
  obtain ⟨k, hk, rfl⟩ := List.getElem_of_mem ho
  exact h.data k hk
theorem FewL.of {l : List TOpt} (h1 : l.length ≤ 30) (h2 : ∀ o, o ∈ l → o.Data.length ≤ 253) : FewL l := ⟨h1, fun k hk => h2 _ (List.getElem_mem hk)⟩
theorem few_bytes {l : List TOpt} (h : FewL l) : ∃ b, opts_Bytes l = some (bytesOf l, b) := by
  rw [optsBytes_spec (by have := h.len; omega) h.all]
  unfold bytesOf
  split
  · exact ⟨1, rfl⟩
  · exact ⟨0, rfl⟩
def snd1 (n : TNego) (p q : TPkt) (x : Int) : List TPkt :=
  if x = 7 then [TPkt.mk 1 n.A.Id (bytesOf n.Ours)] else if x = 10 then [TPkt.mk 5 n.A.Id []] else if x = 11 then [TPkt.mk 6 p.Id []] else if x = 8 ∨ x = 9 ∨ x = 12 ∨ x = 13 then [q] else []
def askN (was : Int) (l : List Int) (n : TNego) : TNego := if was ≤ 3 ∧ has l 5 = true ∧ has l 7 = true then TNego.mk n.A n.R (askL n.R) 0 [] else n
theorem flatMap_le {α β : Type} (f : α → List β) (h : ∀ x, (f x).length ≤ 1) : ∀ l : List α, (l.flatMap f).length ≤ l.length
  | [] => by simp
  | x :: l => by
    have := flatMap_le f h l
    have := h x
    simp only [List.flatMap_cons, List.length_append, List.length_cons]
    omega
theorem snd1_le (n : TNego) (p q : TPkt) (x : Int) : (snd1 n p q x).length ≤ 1 := by
  unfold snd1
  repeat' split
  all_goals simp
theorem acts_j1_spec {n : TNego} (h : FewL n.Ours) (p q : TPkt) {l : List Int} (hl : l.length ≤ 1000) : nego_work_acts_j1 l q n [] [] p = some (n, l.flatMap (snd1 n p q), l.filter jS, p) := by
  unfold nego_work_acts_j1
  refine run_loop (fun k => ((k : Int), n, (l.take k).flatMap (snd1 n p q), (l.take k).filter jS, p)) l.length _ (by simp) (by omega) (fun k hk => ?_) ?_
  · have h1 := flatMap_le (snd1 n p q) (snd1_le n p q) (l.take k)
    have h2 := List.length_filter_le jS (l.take k)
    have h3 : (l.take k).length ≤ 1000 := by rw [List.length_take]; omega
    unfold nego_work_acts_l2
    simp only
    rw [if_pos (by simpa using hk), zW hk, List.take_succ_eq_append_getElem hk, List.flatMap_append, List.filter_append]
    simp only [Option.bind_some, jm, w64s (show k < 1000000000 by omega)]
    generalize l[k] = x
    obtain ⟨b, hb⟩ := few_bytes h
    by_cases g7 : x = 7
    · subst g7
      rw [if_pos (by simp), hb]
      simp only [Option.bind_some]
      rw [xf (by simp only [List.length_singleton]; omega)]
      simp [snd1, jS]
    rw [if_neg (by simpa using g7)]
    by_cases g10 : x = 10
    · subst g10
      rw [if_pos (by simp), xf (by simp only [List.length_singleton]; omega)]
      simp [snd1, jS, zj]
    rw [if_neg (by simpa using g10)]
    by_cases g11 : x = 11
    · subst g11
      rw [if_pos (by simp), xf (by simp only [List.length_singleton]; omega)]
      simp [snd1, jS, zj]
    rw [if_neg (by simpa using g11)]
    have yes : (x = 8 ∨ x = 9 ∨ x = 12 ∨ x = 13) → xd q k x true n ((l.take k).flatMap (snd1 n p q)) ((l.take k).filter jS) p = some (.inl (((k + 1 : Nat) : Int), n, (l.take k).flatMap (snd1 n p q) ++ [x].flatMap (snd1 n p q), (l.take k).filter jS ++ [x].filter jS, p)) := fun hx => by
      unfold xd
      rw [if_pos rfl, xf (by simp only [List.length_singleton]; omega)]
      simp only [Option.bind_some, jm, w64s (show k < 1000000000 by omega)]
      have e1 : snd1 n p q x = [q] := by unfold snd1; rw [if_neg g7, if_neg g10, if_neg g11, if_pos hx]
      have e2 : jS x = false := by unfold jS; rcases hx with rfl | rfl | rfl | rfl <;> rfl
      simp [e1, e2]
    have no : ¬ (x = 8 ∨ x = 9 ∨ x = 12 ∨ x = 13) → xd q k x false n ((l.take k).flatMap (snd1 n p q)) ((l.take k).filter jS) p = some (.inl (((k + 1 : Nat) : Int), n, (l.take k).flatMap (snd1 n p q) ++ [x].flatMap (snd1 n p q), (l.take k).filter jS ++ [x].filter jS, p)) := fun hx => by
      have e1 : snd1 n p q x = [] := by unfold snd1; rw [if_neg g7, if_neg g10, if_neg g11, if_neg hx]
      have j5t : jS x = true → xH k x true n ((l.take k).flatMap (snd1 n p q)) ((l.take k).filter jS) p = some (.inl (((k + 1 : Nat) : Int), n, (l.take k).flatMap (snd1 n p q) ++ [x].flatMap (snd1 n p q), (l.take k).filter jS ++ [x].filter jS, p)) := fun ht => by
        unfold xH
        rw [if_pos rfl, xf (by simp only [List.length_singleton]; omega)]
        simp only [Option.bind_some, jm, w64s (show k < 1000000000 by omega)]
        simp [e1, ht]
      unfold xd
      rw [if_neg (by simp)]
      by_cases t1 : x = 1
      · rw [if_pos (by simpa using t1), show (x == 1) = true by simpa using t1]; exact j5t (by simp [jS, t1])
      rw [if_neg (by simpa using t1)]
      by_cases t2 : x = 2
      · rw [if_pos (by simpa using t2), show (x == 2) = true by simpa using t2]; exact j5t (by simp [jS, t2])
      rw [if_neg (by simpa using t2)]
      by_cases t3 : x = 3
      · rw [if_pos (by simpa using t3), show (x == 3) = true by simpa using t3]; exact j5t (by simp [jS, t3])
      rw [if_neg (by simpa using t3)]
      by_cases t4 : x = 4
      · rw [show (x == 4) = true by simpa using t4]; exact j5t (by simp [jS, t4])
      rw [show (x == 4) = false by simpa using t4]
      unfold xH
      rw [if_neg (by simp)]
      simp only [jm, w64s (show k < 1000000000 by omega)]
      simp [e1, jS, t1, t2, t3, t4]
    by_cases g8 : x = 8
    · rw [if_pos (by simpa using g8), show (x == 8) = true by simpa using g8]; exact yes (.inl g8)
    rw [if_neg (by simpa using g8)]
    by_cases g9 : x = 9
    · rw [if_pos (by simpa using g9), show (x == 9) = true by simpa using g9]; exact yes (.inr (.inl g9))
    rw [if_neg (by simpa using g9)]
    by_cases g12 : x = 12
    · rw [if_pos (by simpa using g12), show (x == 12) = true by simpa using g12]; exact yes (.inr (.inr (.inl g12)))
    rw [if_neg (by simpa using g12)]
    by_cases g13 : x = 13
    · rw [show (x == 13) = true by simpa using g13]; exact yes (.inr (.inr (.inr g13)))
    rw [show (x == 13) = false by simpa using g13]
    exact no (by simp [g8, g9, g12, g13])
  · unfold nego_work_acts_l2
    simp only
    rw [if_neg (by simp), List.take_length]
    rfl
theorem acts_spec {n : TNego} (h : FewL n.Ours) (p q : TPkt) (was : Int) {l : List Int} (hl : l.length ≤ 1000) : xQ n [] [] p was l q = some (askN was l n, l.flatMap (snd1 (askN was l n) p q), l.filter jS, p) := by
  have yes : (was ≤ 3 ∧ has l 5 = true ∧ has l 7 = true) → xJ l q true n [] [] p = some (askN was l n, l.flatMap (snd1 (askN was l n) p q), l.filter jS, p) := fun hx => by
    unfold xJ
    rw [if_pos rfl, ask_spec]
    simp only [Option.bind_some]
    rw [acts_j1_spec (ask_few _).1 p q hl]
    unfold askN
    rw [if_pos hx]
  have no : ¬ (was ≤ 3 ∧ has l 5 = true ∧ has l 7 = true) → xJ l q false n [] [] p = some (askN was l n, l.flatMap (snd1 (askN was l n) p q), l.filter jS, p) := fun hx => by
    unfold xJ
    rw [if_neg (by simp), acts_j1_spec h p q hl]
    unfold askN
    rw [if_neg hx]
  unfold xQ
  by_cases h3 : was ≤ 3
  · rw [if_pos (by simpa using h3), contains_spec (by omega)]
    simp only [Option.bind_some]
    cases h5 : has l 5 with
    | false => rw [if_neg (by simp)]; exact no (by simp [h5])
    | true =>
      rw [if_pos rfl, contains_spec (by omega)]
      simp only [Option.bind_some]
      cases h7 : has l 7 with
      | false => exact no (by simp [h7])
      | true => exact yes ⟨h3, h5, h7⟩
  · rw [if_neg (by simpa using h3)]
    exact no (fun g => h3 g.1)
theorem askN_few {was : Int} {l : List Int} {n : TNego} (h : FewL n.Ours) : FewL (askN was l n).Ours := by
  unfold askN
  split
  · exact (ask_few _).1
  · exact h
theorem askN_A (was : Int) (l : List Int) (n : TNego) : (askN was l n).A = n.A := by unfold askN; split <;> rfl
theorem askN_R (was : Int) (l : List Int) (n : TNego) : (askN was l n).R = n.R := by unfold askN; split <;> rfl
def evN (n : TNego) (l : List Int) (t : Int) : TNego := askN n.A.State l (TNego.mk (finA t (l.foldl (actA (has l 10)) n.A)) n.R n.Ours n.Naks n.Peer)
theorem event_no {n : TNego} {e : Int} {l : List Int} {t : Int} (h : fsm_Next n.A.State e = some (l, t, false)) (p q : TPkt) : ze n [] [] p e q = some ([], n, [], [], p) := by
  unfold ze
  rw [auto_Do_no h]
  rfl
theorem event_eq {n : TNego} (hf : FewL n.Ours) {e : Int} {l : List Int} {t : Int} (hl : l.length ≤ 1000) (h : fsm_Next n.A.State e = some (l, t, true)) (p q : TPkt) : ze n [] [] p e q = some (l, evN n l t, l.flatMap (snd1 (evN n l t) p q), l.filter jS, p) := by
  unfold ze
  rw [auto_Do_eq (by omega) h]
  simp only [Option.bind_some]
  rw [if_neg (by simp), acts_spec (n := TNego.mk (finA t (l.foldl (actA (has l 10)) n.A)) n.R n.Ours n.Naks n.Peer) hf p q n.A.State hl]
  rfl
end Go.Proofs.YtadlndnagfnlgaaGreatDoor.W
