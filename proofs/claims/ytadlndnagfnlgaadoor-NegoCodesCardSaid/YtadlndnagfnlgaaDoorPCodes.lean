/- NegoCodes, of the plain functions: whatever the protocol and the packet, the answer is true. -/
import Derived.Test.YtadlndnagfnlgaaDoorP1
namespace Go.Proofs.YtadlndnagfnlgaaDoor.W
open Go
theorem shown_true : portreevelaw14_shown = some true := by kernel_rfl
/-- An unknown code's event (12), in each state in which packets are heard. -/
theorem event12 (n : TNego) (p q : TPkt) (h2 : 2 ≤ n.A.State) (h9 : n.A.State ≤ 9) : ∃ l, nego_work_event n [] [] p 12 q = some ([12], TNego.mk (TAuto.mk n.A.State n.A.Count l n.A.Id) n.R n.Ours n.Naks n.Peer, [q], [], p) := by
  obtain ⟨⟨s, c, l, i⟩, r, o, k, e⟩ := n
  have : s = 2 ∨ s = 3 ∨ s = 4 ∨ s = 5 ∨ s = 6 ∨ s = 7 ∨ s = 8 ∨ s = 9 := by simp at h2 h9; omega
  rcases this with rfl | rfl | rfl | rfl | rfl | rfl | rfl | rfl
  · exact ⟨0, by kernel_rfl⟩
  · exact ⟨0, by kernel_rfl⟩
  · exact ⟨l, by kernel_rfl⟩
  · exact ⟨l, by kernel_rfl⟩
  · exact ⟨l, by kernel_rfl⟩
  · exact ⟨l, by kernel_rfl⟩
  · exact ⟨l, by kernel_rfl⟩
  · exact ⟨0, by kernel_rfl⟩
theorem packBytes_spec (p : TPkt) (h : p.Data.length ≤ 1400) : ∃ x y : Int, pack_Bytes p = some (p.Code :: p.Id :: x :: y :: p.Data, 0) := by
  unfold pack_Bytes
  have hw : IntKind.i64.wrap ((p.Data.length : Int) + 4) = (p.Data.length : Int) + 4 := w64 (by omega) (by omega)
  rw [if_neg (by simp only [hw, decide_eq_true_eq]; omega), app_ok (by simp; omega)]
  exact ⟨_, _, rfl⟩
theorem reject_spec (p : TPkt) (i : Int) (h : p.Data.length ≤ 1400) : ∃ x y : Int, pack_Reject p i = some (TPkt.mk 7 i (p.Code :: p.Id :: x :: y :: p.Data)) := by
  obtain ⟨x, y, hb⟩ := packBytes_spec p h
  refine ⟨x, y, ?_⟩
  unfold pack_Reject pack_short
  rw [hb]
  simp only [Option.bind_some]
  rw [if_neg (by simp; omega)]
  simp only [cut]
  rw [if_pos (by simp; omega)]
  simp only [Option.bind_some, Option.getD_none, Option.getD_some]
  rw [List.take_of_length_le (by simp; omega)]
  rfl
theorem known_no {k c : Int} (hk : k = 32801 ∨ k = 49185) (hc : ¬ (c ≥ 1 ∧ c ≤ 11)) : pack_Known k c = some false := by
  unfold pack_Known pack_codes
  rcases hk with rfl | rfl
  · simp only [Option.bind_some, lkK, List.find?, Option.map, Option.isSome, Option.getD]
    simp
    omega
  · simp only [Option.bind_some, lkK, List.find?, Option.map, Option.isSome, Option.getD]
    simp
    omega
theorem take_unknown (n : TNego) (p : TPkt) (h2 : 2 ≤ n.A.State) (h9 : n.A.State ≤ 9) (hc : ¬ (p.Code ≥ 1 ∧ p.Code ≤ 11)) (hl : p.Data.length ≤ 1400) :
    ∃ x y l, nego_Take n p = some (TNego.mk (TAuto.mk n.A.State n.A.Count l n.A.Id) n.R n.Ours n.Naks n.Peer, [TPkt.mk 7 n.A.Id (p.Code :: p.Id :: x :: y :: p.Data)], []) := by
  obtain ⟨x, y, hr⟩ := reject_spec p n.A.Id hl
  obtain ⟨l, he⟩ := event12 n p (TPkt.mk 7 n.A.Id (p.Code :: p.Id :: x :: y :: p.Data)) h2 h9
  refine ⟨x, y, l, ?_⟩
  have key : ∀ k : Int, (k = 32801 ∨ k = 49185) → nego_Take_j1 n p k n [] [] p = some (TNego.mk (TAuto.mk n.A.State n.A.Count l n.A.Id) n.R n.Ours n.Naks n.Peer, [TPkt.mk 7 n.A.Id (p.Code :: p.Id :: x :: y :: p.Data)], []) := fun k hk => by
    unfold nego_Take_j1
    rw [if_neg (by simp; omega), known_no hk hc]
    simp only [Option.bind_some]
    rw [if_pos (by simp), hr]
    simp only [Option.bind_some, he]
    rfl
  unfold nego_Take
  split
  · exact key _ (.inl rfl)
  · exact key _ (.inr rfl)
theorem take_deaf (n : TNego) (p : TPkt) (h2 : n.A.State < 2) : nego_Take n p = some (n, [], []) := by
  have key : ∀ k : Int, nego_Take_j1 n p k n [] [] p = some (n, [], []) := fun k => by
    unfold nego_Take_j1
    rw [if_pos (by simp; omega)]
    rfl
  unfold nego_Take
  split <;> exact key _
theorem negoCodes_true (n : TNego) (p : TPkt) : portreevelaw14_NegoCodes n p = some true := by
  unfold portreevelaw14_NegoCodes
  rw [shown_true]
  obtain ⟨b1, h1, hb1⟩ := small_spec n
  rw [h1]
  simp only [Option.bind_some]
  have up : portreevelaw14_NegoCodes_j1 n p true true = some true := by unfold portreevelaw14_NegoCodes_j1; simp
  cases b1 with
  | false => simpa using up
  | true =>
    obtain ⟨hs1, hs2⟩ := hb1 rfl
    obtain ⟨b2, h2, hb2⟩ := right_spec hs1
    rw [if_neg (by simp), h2]
    simp only [Option.bind_some]
    cases b2 with
    | false => simpa using up
    | true =>
      have hr := hb2 rfl
      rw [if_neg (by simp)]
      by_cases hl : (p.Data.length : Int) > 1400
      · rw [if_pos (by simpa using hl)]; exact up
      rw [if_neg (by simpa using hl)]
      have main : ¬ (p.Code ≥ 1 ∧ p.Code ≤ 11) → portreevelaw14_NegoCodes_j1 n p true false = some true := fun hc => by
        unfold portreevelaw14_NegoCodes_j1
        rw [if_neg (by simp)]
        have h9 := hr.a.s9
        have h0 := hr.a.s0
        by_cases hst : n.A.State < 2
        · rw [take_deaf n p hst]
          simp only [Option.bind_some]
          rw [if_pos (by simpa using hst), if_pos trivial, same_self hs1 hs2]
          simp
        · obtain ⟨x, y, l, ht⟩ := take_unknown n p (by omega) h9 hc (by omega)
          rw [ht]
          simp only [Option.bind_some]
          have hw : IntKind.i64.wrap (4 + (p.Data.length : Int)) = 4 + (p.Data.length : Int) := w64 (by omega) (by omega)
          rw [if_neg (by simpa using hst), if_pos trivial]
          simp only [idx0, Option.bind_some, hw]
          simp
          omega
      by_cases hc1 : p.Code ≥ 1
      · rw [if_pos (by simpa using hc1)]
        by_cases hc2 : p.Code ≤ 11
        · rw [show decide (p.Code ≤ 11) = true by simpa using hc2]; exact up
        · rw [show decide (p.Code ≤ 11) = false by simpa using hc2]; exact main (fun h => hc2 h.2)
      · rw [if_neg (by simpa using hc1)]; exact main (fun h => hc1 h.1)
end Go.Proofs.YtadlndnagfnlgaaDoor.W
