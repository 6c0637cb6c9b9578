/- Plain lemmas: numbers as bytes, options looked for, magic numbers. -/
import Derived.Test.YtadlndnagfnlgaaGreatDoorP1
namespace Go.Proofs.YtadlndnagfnlgaaGreatDoor.W
open Go
set_option linter.unusedVariables false
theorem wu8 (x : Int) : IntKind.u8.wrap x = x % 256 := by simp [IntKind.wrap, IntKind.signed, IntKind.bits]
theorem wu32 (x : Int) : IntKind.u32.wrap x = x % 4294967296 := by simp [IntKind.wrap, IntKind.signed, IntKind.bits]
theorem cut_from {α : Type} {l : List α} {k : Nat} (h : k ≤ l.length) : cut l (some (k : Int)) none = some (l.drop k) := by
  simp only [cut]
  rw [if_pos (by simp; omega)]
  simp
theorem cut_to {α : Type} {l : List α} {k : Nat} (h : k ≤ l.length) : cut l none (some (k : Int)) = some (l.take k) := by
  simp only [cut]
  rw [if_pos (by simp; omega)]
  simp
def b4 (m : Int) : List Int := [m / 16777216 % 256, m / 65536 % 256, m / 256 % 256, m % 256]
theorem shr24 (m : Int) : sShr .u32 m 24 = m / 16777216 := by
  rw [show sShr .u32 m 24 = m.fdiv (2 ^ 24) from rfl, Int.fdiv_eq_ediv_of_nonneg _ (by decide)]; rfl
theorem shr16 (m : Int) : sShr .u32 m 16 = m / 65536 := by
  rw [show sShr .u32 m 16 = m.fdiv (2 ^ 16) from rfl, Int.fdiv_eq_ediv_of_nonneg _ (by decide)]; rfl
theorem shr8 (m : Int) : sShr .u32 m 8 = m / 256 := by
  rw [show sShr .u32 m 8 = m.fdiv (2 ^ 8) from rfl, Int.fdiv_eq_ediv_of_nonneg _ (by decide)]; rfl
theorem four_spec (m : Int) : opts_Four m = some (b4 m) := by
  unfold opts_Four b4
  rw [shr24, shr16, shr8, wu8, wu8, wu8, wu8]
theorem number_spec (l : List Int) (h : l.length ≤ 100000) : ∃ m, opts_Number l = some m ∧ 0 ≤ m ∧ m < 4294967296 := by
  unfold opts_Number
  refine loopM_spec (fun (s : Int × Int) => ∃ k : Nat, s.2 = (k : Int) ∧ k ≤ l.length ∧ 0 ≤ s.1 ∧ s.1 < 4294967296) (fun (s : Int × Int) => 100001 - s.2.toNat) _ ⟨0, rfl, by omega, by decide, by decide⟩ (by simp) ?_
  rintro ⟨x, _⟩ ⟨k, rfl, hk, h0, h1⟩
  unfold opts_Number_l1
  by_cases hlt : k < l.length
  · left
    rw [if_pos (by simpa using hlt)]
    simp only [zW hlt, Option.bind_some]
    refine ⟨_, rfl, ⟨k + 1, by simp only; rw [w64 (by omega) (by omega)]; omega, by omega, ?_⟩, by simp only; rw [w64 (by omega) (by omega)]; omega⟩
    simp only [bOr, wu32]
    omega
  · right
    rw [if_neg (by simpa using hlt)]
    exact ⟨x, rfl, h0, h1⟩
theorem indexOf_spec {l : List TOpt} (h : l.length ≤ 1000) (t : Int) : ∃ r, jG l t = some r ∧ ((r = (-1, t) ∧ ∀ o, o ∈ l → o.Typ ≠ t) ∨ ∃ k : Nat, ∃ hk : k < l.length, r = ((k : Int), t) ∧ (l[k]).Typ = t ∧ ∀ j (hj : j < l.length), j < k → (l[j]).Typ ≠ t) := by
  unfold jG
  refine loopM_spec (fun (s : Int × Int) => ∃ k : Nat, s = ((k : Int), t) ∧ k ≤ l.length ∧ ∀ j (hj : j < l.length), j < k → (l[j]).Typ ≠ t) (fun (s : Int × Int) => 1001 - s.1.toNat) _ ⟨0, rfl, by omega, fun j _ h => by omega⟩ (by simp) ?_
  rintro _ ⟨k, rfl, hk, hn⟩
  unfold jj opts_of_1
  by_cases hlt : k < l.length
  · rw [if_pos (by simpa using hlt)]
    simp only [zW hlt, Option.bind_some]
    by_cases ht : (l[k]).Typ = t
    · right
      rw [if_pos (by simpa using ht)]
      exact ⟨_, rfl, .inr ⟨k, hlt, rfl, ht, hn⟩⟩
    · left
      rw [if_neg (by simpa using ht)]
      refine ⟨_, rfl, ⟨k + 1, by rw [w64 (by omega) (by omega)]; simp, by omega, fun j hj hjk => ?_⟩, by simp only; rw [w64 (by omega) (by omega)]; omega⟩
      by_cases e : j = k
      · subst e; exact ht
      · exact hn j hj (by omega)
  · right
    rw [if_neg (by simpa using hlt)]
    refine ⟨_, rfl, .inl ⟨rfl, fun o ho => ?_⟩⟩
    obtain ⟨j, hj, rfl⟩ := List.getElem_of_mem ho
    exact hn j hj (by omega)
theorem find_spec {l : List TOpt} (h : l.length ≤ 1000) (t : Int) : ∃ r, opts_Find l t = some r ∧ ((r = (zTOpt, false) ∧ ∀ o, o ∈ l → o.Typ ≠ t) ∨ ∃ k : Nat, ∃ hk : k < l.length, r = (l[k], true) ∧ (l[k]).Typ = t ∧ ∀ j (hj : j < l.length), j < k → (l[j]).Typ ≠ t) := by
  obtain ⟨r, hr, hc⟩ := indexOf_spec h t
  unfold opts_Find opts_of xS
  simp only [Option.bind_some, hr]
  rcases hc with ⟨rfl, hn⟩ | ⟨k, hk, rfl, ht, hn⟩
  · exact ⟨_, rfl, .inl ⟨rfl, hn⟩⟩
  · simp only
    rw [if_neg (by simp), zW hk]
    refine ⟨_, rfl, .inr ⟨k, hk, ?_, ht, hn⟩⟩
    simp
theorem magic_spec {n : TNego} (h : FewL n.Ours) : ∃ m, nego_Magic n = some m ∧ 0 ≤ m ∧ m < 4294967296 := by
  have hl := h.len
  obtain ⟨r, hr, hc⟩ := find_spec (l := n.Ours) (by omega) 5
  unfold nego_Magic
  rw [hr]
  simp only [Option.bind_some]
  by_cases hip : n.R.Ip = true
  · rw [if_pos hip]; exact ⟨0, rfl, by decide, by decide⟩
  · rw [if_neg hip]
    have hd : r.1.Data.length ≤ 253 := by
      rcases hc with ⟨rfl, _⟩ | ⟨k, hk, rfl, _⟩
      · simp [zTOpt]
      · exact h.data k hk
    obtain ⟨m, hm, h0, h1⟩ := number_spec r.1.Data (by omega)
    rw [hm]
    exact ⟨m, rfl, h0, h1⟩
end Go.Proofs.YtadlndnagfnlgaaGreatDoor.W
