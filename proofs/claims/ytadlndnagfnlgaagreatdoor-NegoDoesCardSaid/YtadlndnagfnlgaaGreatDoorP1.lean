/- Plain lemmas: words for loops, rows and wraps; the references' Few, Small, Bytes, Right, Row and Same at protocols of few options. -/
import Derived.Test.YtadlndnagfnlgaaGreatDoorG
namespace Go.Proofs.YtadlndnagfnlgaaGreatDoor.W
open Go
set_option linter.unusedVariables false
theorem runM_spec {σ R : Type} {step : σ → Option (σ ⊕ R)} (I : σ → Prop) (μ : σ → Nat) (Post : R → Prop)
    (h : ∀ s, I s → (∃ s', step s = some (.inl s') ∧ I s' ∧ μ s' < μ s) ∨ (∃ r, step s = some (.inr r) ∧ Post r)) : ∀ (k : Nat) (s : σ), I s → μ s < k → ∃ r, runM step k s = some r ∧ Post r
  | 0, _, _, hk => by omega
  | k + 1, s, hI, hk => by
    rcases h s hI with ⟨s', hs, hI', hm⟩ | ⟨r, hs, hr⟩
    · obtain ⟨r, hr, hp⟩ := runM_spec I μ Post h k s' hI' (by omega)
      exact ⟨r, by simp only [runM, hs]; exact hr, hp⟩
    · exact ⟨r, by simp only [runM, hs], hr⟩
theorem loopM_spec {σ R : Type} {step : σ → Option (σ ⊕ R)} (I : σ → Prop) (μ : σ → Nat) (Post : R → Prop) {s : σ} (h0 : I s) (hm : μ s < 1048576)
    (h : ∀ s, I s → (∃ s', step s = some (.inl s') ∧ I s' ∧ μ s' < μ s) ∨ (∃ r, step s = some (.inr r) ∧ Post r)) : ∃ r, xL step s = some r ∧ Post r :=
  runM_spec I μ Post h _ s h0 hm
theorem loopM_eq {σ R : Type} {step : σ → Option (σ ⊕ R)} (I : σ → Prop) (μ : σ → Nat) (r : R) {s : σ} (h0 : I s) (hm : μ s < 1048576)
    (h : ∀ s, I s → (∃ s', step s = some (.inl s') ∧ I s' ∧ μ s' < μ s) ∨ step s = some (.inr r)) : xL step s = some r := by
  obtain ⟨x, hx, e⟩ := loopM_spec I μ (fun x => x = r) h0 hm (fun s hs => (h s hs).imp id (fun h => ⟨r, h, rfl⟩))
  rw [hx, e]
theorem w64 {x : Int} (h : -9223372036854775808 ≤ x) (h' : x ≤ 9223372036854775807) : IntKind.i64.wrap x = x := by
  simp only [IntKind.wrap]
  simp [IntKind.signed, IntKind.bits] at *
  omega
theorem idx_nat {α : Type} (l : List α) (k : Nat) : idx l (k : Int) = l[k]? := by simp [idx]
theorem zW {α : Type} {l : List α} {k : Nat} (h : k < l.length) : idx l (k : Int) = some l[k] := by rw [idx_nat, List.getElem?_eq_getElem h]
theorem xf {α : Type} {l m : List α} (h : l.length + m.length ≤ 1000000) : app l m = some (l ++ m) := by simp [app, h]
structure FewL (l : List TOpt) : Prop where
  len : l.length ≤ 30
  data : ∀ k (h : k < l.length), (l[k]).Data.length ≤ 253
theorem few_spec (l : List TOpt) : ∃ b, pr10_Few l = some b ∧ (b = true → FewL l) := by
  unfold pr10_Few
  refine loopM_spec (fun (x : Int) => ∃ k : Nat, x = (k : Int) ∧ k ≤ 30 ∧ k ≤ l.length ∧ ∀ j (h : j < l.length), j < k → (l[j]).Data.length ≤ 253) (fun (x : Int) => 40 - x.toNat) _ ⟨0, rfl, by omega, by omega, fun j _ h => by omega⟩ (by simp) ?_
  rintro _ ⟨k, rfl, h1, h2, h3⟩
  unfold pr10_Few_l1
  by_cases hk : k < l.length
  · rw [if_pos (by simpa using hk)]
    by_cases h30 : k = 30
    · right
      rw [if_pos (by simp; omega)]
      exact ⟨false, rfl, by simp⟩
    · rw [if_neg (by simp; omega), zW hk]
      simp only [Option.bind_some, pr10_Few_j2]
      by_cases hd : (l[k]).Data.length > 253
      · right
        rw [if_pos (by simp; omega)]
        exact ⟨false, rfl, by simp⟩
      · left
        rw [if_neg (by simp; omega)]
        refine ⟨_, rfl, ⟨k + 1, by rw [w64 (by omega) (by omega)]; omega, by omega, by omega, fun j hj hjk => ?_⟩, by rw [w64 (by omega) (by omega)]; omega⟩
        by_cases e : j = k
        · subst e; omega
        · exact h3 j hj (by omega)
  · right
    rw [if_neg (by simpa using hk)]
    exact ⟨true, rfl, fun _ => ⟨by omega, fun j hj => h3 j hj (by omega)⟩⟩
theorem small_spec (n : TNego) : ∃ b, pr14_Small n = some b ∧ (b = true → FewL n.Ours ∧ FewL n.Peer) := by
  obtain ⟨b1, h1, hb1⟩ := few_spec n.Ours
  obtain ⟨b2, h2, hb2⟩ := few_spec n.Peer
  unfold pr14_Small
  rw [h1, h2]
  simp only [Option.bind_some]
  cases b1 with
  | false => exact ⟨false, rfl, by simp⟩
  | true => exact ⟨b2, rfl, fun h => ⟨hb1 rfl, hb2 h⟩⟩
def encO (o : TOpt) : List Int := o.Typ :: IntKind.u8.wrap (IntKind.i64.wrap (2 + (o.Data.length : Int))) :: o.Data
def jK (l : List TOpt) : List Int := l.flatMap encO
theorem encL_snoc (l : List TOpt) (o : TOpt) : jK (l ++ [o]) = jK l ++ encO o := by simp [jK]
theorem encO_len (o : TOpt) : (encO o).length = o.Data.length + 2 := rfl
theorem encL_len {l : List TOpt} (h : FewL l) : ∀ k, (jK (l.take k)).length ≤ k * 255
  | 0 => by simp [jK]
  | k + 1 => by
    have ih := encL_len h k
    by_cases hk : k < l.length
    · have hd := h.data k hk
      rw [List.take_succ_eq_append_getElem hk, encL_snoc, List.length_append, encO_len]
      omega
    · rw [List.take_of_length_le (show l.length ≤ k by omega)] at ih
      rw [List.take_of_length_le (show l.length ≤ k + 1 by omega)]
      exact Nat.le_trans ih (Nat.mul_le_mul_right _ (Nat.le_succ k))
theorem refBytes_spec {l : List TOpt} (h : FewL l) : zL l = some (if (jK l).length > 1496 then ([], 1) else (jK l, 0)) := by
  unfold zL
  have hl := h.len
  refine loopM_eq (fun (s : List Int × Int) => ∃ k : Nat, s.2 = (k : Int) ∧ k ≤ l.length ∧ s.1 = jK (l.take k)) (fun (s : List Int × Int) => 40 - s.2.toNat) _ ⟨0, rfl, by omega, by simp [jK]⟩ (by simp) ?_
  rintro ⟨out, _⟩ ⟨k, rfl, hk, rfl⟩
  have hout := encL_len h k
  unfold pr10_Bytes_l1
  by_cases hlt : k < l.length
  · left
    have hd := h.data k hlt
    rw [if_pos (by simpa using hlt)]
    simp only [zW hlt, Option.bind_some]
    rw [if_neg (by simp; omega), xf (by simp; omega)]
    simp only [Option.bind_some]
    rw [xf (by simp; omega)]
    refine ⟨_, rfl, ⟨k + 1, by simp only; rw [w64 (by omega) (by omega)]; omega, by omega, ?_⟩, by simp only; rw [w64 (by omega) (by omega)]; omega⟩
    rw [List.take_succ_eq_append_getElem hlt, encL_snoc]
    simp [encO]
  · right
    have e : k = l.length := by omega
    subst e
    rw [if_neg (by simp), List.take_length]
    by_cases hb : (jK l).length > 1496
    · rw [if_pos (by simp; omega), if_pos hb]; rfl
    · rw [if_neg (by simp; omega), if_neg hb]; rfl
theorem autoRight_spec (a : TAuto) : ∃ b, pr12_Right a = some b ∧ (b = true → 0 ≤ a.State ∧ a.State ≤ 9 ∧ 0 ≤ a.Count ∧ a.Count ≤ 5 ∧ ((4 ≤ a.State ∧ a.State ≤ 8 ∧ 1 ≤ a.Left ∧ a.Left ≤ 3) ∨ (¬ (4 ≤ a.State ∧ a.State ≤ 8) ∧ a.Left = 0))) := by
  unfold pr12_Right xh xl
  by_cases h1 : a.State < 0
  · exact ⟨false, by simp [h1], by simp⟩
  by_cases h2 : a.State > 9
  · exact ⟨false, by simp [h1, h2], by simp⟩
  by_cases h3 : a.Count < 0
  · exact ⟨false, by simp [h1, h2, h3], by simp⟩
  by_cases h4 : a.Count > 5
  · exact ⟨false, by simp [h1, h2, h3, h4], by simp⟩
  by_cases h5 : a.State ≥ 4
  · by_cases h6 : a.State ≤ 8
    · by_cases h7 : a.Left ≥ 1
      · by_cases h8 : a.Left ≤ 3
        · exact ⟨true, by simp [h1, h2, h3, h4, h5, h6, h7, h8], fun _ => ⟨by omega, by omega, by omega, by omega, .inl ⟨by omega, by omega, by omega, by omega⟩⟩⟩
        · exact ⟨false, by simp [h1, h2, h3, h4, h5, h6, h7, h8], by simp⟩
      · exact ⟨false, by simp [h1, h2, h3, h4, h5, h6, h7], by simp⟩
    · exact ⟨a.Left == 0, by simp [h1, h2, h3, h4, h5, h6], fun h => ⟨by omega, by omega, by omega, by omega, .inr ⟨by omega, by simpa using h⟩⟩⟩
  · exact ⟨a.Left == 0, by simp [h1, h2, h3, h4, h5], fun h => ⟨by omega, by omega, by omega, by omega, .inr ⟨by omega, by simpa using h⟩⟩⟩
structure RightA (a : TAuto) : Prop where
  s0 : 0 ≤ a.State
  s9 : a.State ≤ 9
  c0 : 0 ≤ a.Count
  c5 : a.Count ≤ 5
  left : (4 ≤ a.State ∧ a.State ≤ 8 ∧ 1 ≤ a.Left ∧ a.Left ≤ 3) ∨ (¬ (4 ≤ a.State ∧ a.State ≤ 8) ∧ a.Left = 0)
structure RightN (n : TNego) : Prop where
  a : RightA n.A
  naks0 : 0 ≤ n.Naks
  naks3 : n.Naks ≤ 3
  len : (jK n.Ours).length ≤ 1496
  magic : ∀ o, o ∈ n.Ours → o.Typ = 5 → o.Data.length = 4
theorem right_spec {n : TNego} (hs : FewL n.Ours) : ∃ b, pr14_Right n = some b ∧ (b = true → RightN n) := by
  obtain ⟨b1, h1, hb1⟩ := autoRight_spec n.A
  have hl := hs.len
  unfold pr14_Right
  rw [h1, refBytes_spec hs]
  simp only [Option.bind_some]
  generalize hr : (if (jK n.Ours).length > 1496 then ([], 1) else (jK n.Ours, 0) : List Int × Int) = r19
  refine loopM_spec (fun (x : Int) => ∃ k : Nat, x = (k : Int) ∧ k ≤ n.Ours.length ∧ ∀ j (h : j < n.Ours.length), j < k → (n.Ours[j]).Typ = 5 → (n.Ours[j]).Data.length = 4) (fun (x : Int) => 40 - x.toNat) _ ⟨0, rfl, by omega, fun j _ h => by omega⟩ (by simp) ?_
  rintro _ ⟨k, rfl, hk, h3⟩
  unfold pr14_Right_l1
  by_cases hlt : k < n.Ours.length
  · rw [if_pos (by simpa using hlt)]
    simp only [zW hlt, Option.bind_some, pr14_Right_j2]
    have next : ∀ (hm : (n.Ours[k]).Typ = 5 → (n.Ours[k]).Data.length = 4), ∃ s', (some (Sum.inl (IntKind.i64.wrap ((k : Int) + 1))) : Option (Int ⊕ Bool)) = some (.inl s') ∧ (∃ q : Nat, s' = q ∧ q ≤ n.Ours.length ∧ ∀ j (h : j < n.Ours.length), j < q → (n.Ours[j]).Typ = 5 → (n.Ours[j]).Data.length = 4) ∧ 40 - s'.toNat < 40 - (k : Int).toNat := fun hm => by
      refine ⟨_, rfl, ⟨k + 1, by rw [w64 (by omega) (by omega)]; omega, by omega, fun j hj hjk => ?_⟩, by rw [w64 (by omega) (by omega)]; omega⟩
      by_cases e : j = k
      · subst e; exact hm
      · exact h3 j hj (by omega)
    by_cases ht : (n.Ours[k]).Typ = 5
    · rw [if_pos (by simpa using ht)]
      by_cases hd : (n.Ours[k]).Data.length = 4
      · left
        rw [if_neg (by simp; omega)]
        exact next (fun _ => hd)
      · right
        rw [if_pos (by simp; omega)]
        exact ⟨false, rfl, by simp⟩
    · left
      rw [if_neg (by simpa using ht), if_neg (by simp)]
      exact next (fun h => absurd h ht)
  · right
    rw [if_neg (by simpa using hlt)]
    cases b1 with
    | false => exact ⟨false, rfl, by simp⟩
    | true =>
      by_cases g1 : n.Naks ≥ 0
      · by_cases g2 : n.Naks ≤ 3
        · refine ⟨r19.2 == 0, by simp [g1, g2], fun hz => ?_⟩
          obtain ⟨q1, q2, q3, q4, q5⟩ := hb1 rfl
          refine ⟨⟨q1, q2, q3, q4, q5⟩, g1, g2, ?_, fun o ho ht => ?_⟩
          · by_cases hb : (jK n.Ours).length > 1496
            · rw [if_pos hb] at hr; subst hr; simp at hz
            · omega
          · obtain ⟨j, hj, rfl⟩ := List.getElem_of_mem ho
            exact h3 j hj (by omega) ht
        · exact ⟨false, by simp [g1, g2], by simp⟩
      · exact ⟨false, by simp [g1], by simp⟩
theorem row_self {l : List Int} (h : l.length ≤ 100000) : jz l l = some true := by
  unfold jz
  rw [if_neg (by simp)]
  refine loopM_eq (fun (x : Int) => ∃ k : Nat, x = (k : Int) ∧ k ≤ l.length) (fun (x : Int) => 100001 - x.toNat) _ ⟨0, rfl, by omega⟩ (by simp) ?_
  rintro _ ⟨k, rfl, hk⟩
  unfold pr01_Row_l1
  by_cases hlt : k < l.length
  · left
    rw [if_pos (by simpa using hlt)]
    simp only [zW hlt, Option.bind_some]
    rw [if_neg (by simp)]
    exact ⟨_, rfl, ⟨k + 1, by rw [w64 (by omega) (by omega)]; omega, by omega⟩, by rw [w64 (by omega) (by omega)]; omega⟩
  · right
    rw [if_neg (by simpa using hlt)]
    rfl
theorem one_self {o : TOpt} (h : o.Data.length ≤ 253) : pr10_One o o = some true := by
  unfold pr10_One
  rw [row_self (by omega)]
  simp
theorem sameL_self {l : List TOpt} (h : FewL l) : jY l l = some true := by
  unfold jY
  have hl := h.len
  rw [if_neg (by simp)]
  refine loopM_eq (fun (x : Int) => ∃ k : Nat, x = (k : Int) ∧ k ≤ l.length) (fun (x : Int) => 40 - x.toNat) _ ⟨0, rfl, by omega⟩ (by simp) ?_
  rintro _ ⟨k, rfl, hk⟩
  unfold pr10_Same_l1
  by_cases hlt : k < l.length
  · left
    rw [if_pos (by simpa using hlt)]
    simp only [zW hlt, Option.bind_some, one_self (h.data k hlt)]
    rw [if_neg (by simp)]
    exact ⟨_, rfl, ⟨k + 1, by rw [w64 (by omega) (by omega)]; omega, by omega⟩, by rw [w64 (by omega) (by omega)]; omega⟩
  · right
    rw [if_neg (by simpa using hlt)]
    rfl
end Go.Proofs.YtadlndnagfnlgaaGreatDoor.W
