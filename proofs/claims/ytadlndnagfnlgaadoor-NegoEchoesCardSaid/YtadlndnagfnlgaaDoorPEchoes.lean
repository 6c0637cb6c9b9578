/- NegoEchoes, of the plain functions: whatever the protocol, the packet's number and its bytes, the answer is true. -/
import Derived.Test.YtadlndnagfnlgaaDoorP2
namespace Go.Proofs.YtadlndnagfnlgaaDoor.W
open Go
set_option linter.unusedVariables false
theorem shown_true : portreevelaw14_shown = some true := by kernel_rfl
theorem event15 (n : TNego) (p q : TPkt) (hr : RightA n.A) (h2 : 2 ≤ n.A.State) : ∃ l, nego_work_event n [] [] p 15 q = some (l, n, (if n.A.State = 9 then [q] else []), [], p) := by
  have h9 := hr.s9
  have hl := hr.left
  obtain ⟨⟨s, c, l, i⟩, r, o, k, e⟩ := n
  simp only at h2 h9 hl
  have : s = 2 ∨ s = 3 ∨ s = 4 ∨ s = 5 ∨ s = 6 ∨ s = 7 ∨ s = 8 ∨ s = 9 := by omega
  rcases this with rfl | rfl | rfl | rfl | rfl | rfl | rfl | rfl
  · obtain rfl : l = 0 := by omega
    exact ⟨[], by kernel_rfl⟩
  · obtain rfl : l = 0 := by omega
    exact ⟨[], by kernel_rfl⟩
  · exact ⟨[], by kernel_rfl⟩
  · exact ⟨[], by kernel_rfl⟩
  · exact ⟨[], by kernel_rfl⟩
  · exact ⟨[], by kernel_rfl⟩
  · exact ⟨[], by kernel_rfl⟩
  · obtain rfl : l = 0 := by omega
    exact ⟨[13], by kernel_rfl⟩
/-- What an echo's request brings: nothing, or the answer. -/
theorem take_echo (n : TNego) (i : Int) (d : List Int) (hs : FewL n.Ours) (hr : RightA n.A) (hip : n.R.Ip = false) (hd : d.length ≤ 1000) (m : Int) (hm : nego_Magic n = some m) :
    nego_Take n (TPkt.mk 9 i d) = some (n, (if 2 ≤ n.A.State ∧ n.A.State = 9 ∧ 4 ≤ d.length then [TPkt.mk 10 i (b4 m ++ d.drop 4)] else []), []) := by
  unfold nego_Take
  rw [if_neg (by simp [hip])]
  unfold nego_Take_j1
  by_cases h2 : n.A.State ≤ 1
  · rw [if_pos (by simpa using h2), if_neg (by omega)]
    rfl
  · rw [if_neg (by simpa using h2)]
    simp only
    rw [show pack_Known 49185 9 = some true by kernel_rfl]
    simp only [Option.bind_some]
    rw [if_neg (by simp), show nego_codes = some () from rfl]
    simp only [Option.bind_some]
    iterate 8 rw [if_neg (by decide)]
    rw [if_pos (by decide)]
    unfold nego_work_echo
    by_cases h4 : 4 ≤ d.length
    · rw [if_pos (by simp; omega), hm]
      simp only [Option.bind_some, four_spec]
      rw [show (4 : Int) = ((4 : Nat) : Int) from rfl, cut_from h4]
      simp only [Option.bind_some]
      rw [app_ok (by simp [b4]; omega)]
      simp only [Option.bind_some, nego_work_reply]
      obtain ⟨l, he⟩ := event15 n (TPkt.mk 9 i d) (TPkt.mk 10 i (b4 m ++ d.drop 4)) hr (by omega)
      rw [he]
      simp only [Option.bind_some, nego_Take_j2, nego_work_told]
      by_cases h9 : n.A.State = 9
      · rw [if_pos h9, if_pos ⟨by omega, h9, h4⟩]
      · rw [if_neg h9, if_neg (fun h => h9 h.2.1)]
    · rw [if_neg (by simp; omega), if_neg (fun h => h4 h.2.2)]
      rfl
theorem streq_self (a : ByteArray) : streq a a = true := by simp [streq]
theorem negoEchoes_true (n : TNego) (i : Int) (d : List Int) : portreevelaw14_NegoEchoes n i d = some true := by
  unfold portreevelaw14_NegoEchoes
  rw [shown_true]
  obtain ⟨b1, h1, hb1⟩ := small_spec n
  rw [h1]
  simp only [Option.bind_some]
  have up : portreevelaw14_NegoEchoes_j1 n i d true true = some true := by unfold portreevelaw14_NegoEchoes_j1; simp
  cases b1 with
  | false => simpa using up
  | true =>
    obtain ⟨hs1, hs2⟩ := hb1 rfl
    obtain ⟨b2, h2, hb2⟩ := right_spec hs1
    rw [if_neg (by simp), h2]
    simp only [Option.bind_some]
    cases b2 with
    | false => simpa using up
    | true =>
      have hr := hb2 rfl
      rw [if_neg (by simp)]
      by_cases hip : n.R.Ip = true
      · rw [if_pos hip]; exact up
      rw [if_neg hip]
      have hip : n.R.Ip = false := by simpa using hip
      by_cases hd : (d.length : Int) > 1000
      · rw [show decide ((d.length : Int) > 1000) = true by simpa using hd]; exact up
      rw [show decide ((d.length : Int) > 1000) = false by simpa using hd]
      obtain ⟨m, hm, hm0, hm1⟩ := magic_spec (n := n) hs1
      have ht := take_echo n i d hs1 hr.a hip (by omega) m hm
      have hsame := same_self hs1 hs2
      unfold portreevelaw14_NegoEchoes_j1
      rw [if_neg (by simp), ht]
      simp only [Option.bind_some]
      by_cases h9 : n.A.State = 9
      · rw [if_neg (by simp [h9])]
        by_cases h4 : 4 ≤ d.length
        · rw [if_pos ⟨by omega, h9, h4⟩]
          rw [show decide ((d.length : Int) < 4) = false by simp; omega]
          unfold portreevelaw14_NegoEchoes_j2
          rw [if_neg (by simp), if_neg (by simp)]
          simp only [idx0, Option.bind_some]
          unfold portreevelaw14_NegoEchoes_j3
          rw [if_neg (by simp [b4]; omega)]
          simp only [idx0, Option.bind_some]
          rw [if_pos trivial, if_pos (by simp), if_pos (by simp)]
          rw [show (4 : Int) = ((4 : Nat) : Int) from rfl, cut_to (by simp [b4])]
          simp only [Option.bind_some]
          rw [show (b4 m ++ d.drop 4).take 4 = b4 m from rfl, number_b4 m hm0 hm1]
          simp only [Option.bind_some, hm]
          rw [if_pos (by simp), cut_from (by simp [b4]), cut_from h4]
          simp only [Option.bind_some]
          rw [show (b4 m ++ d.drop 4).drop 4 = d.drop 4 from rfl, streq_self, if_pos rfl, hsame]
          rfl
        · rw [if_neg (fun h => h4 h.2.2)]
          rw [show decide ((d.length : Int) < 4) = true by simp; omega]
          unfold portreevelaw14_NegoEchoes_j2
          rw [if_pos rfl, if_pos rfl, if_pos (by simp), hsame]
          rfl
      · rw [if_pos (by simpa using h9), if_neg (fun h => h9 h.2.1)]
        unfold portreevelaw14_NegoEchoes_j2
        rw [if_pos rfl, if_pos rfl, if_pos (by simp), hsame]
        rfl
end Go.Proofs.YtadlndnagfnlgaaDoor.W
