/- NegoAcks, of the plain functions: what is sent behind a packet. -/
import Derived.Test.YtadlndnagfnlgaaDoorP7
import Derived.Test.YtadlndnagfnlgaaDoorVNegoAcks
namespace Go.Proofs.YtadlndnagfnlgaaDoor.W
open Go
set_option linter.unusedVariables false
theorem shown_acks : portreevelaw14_shown = some true := by kernel_rfl
theorem u8_bytes' {l : List Int} (h : ∀ z, z ∈ l → (Lit.int .u8 z).wf = true) : Bytes8 l := fun z hz => by
  have := h z hz
  simp [Lit.wf, IntKind.min, IntKind.max, IntKind.signed, IntKind.bits] at this
  omega
theorem enc_bytes {l : List TOpt} (h : BytesL l) : Bytes8 (encL l) := fun z hz => by
  obtain ⟨o, ho, hz⟩ := List.mem_flatMap.1 hz
  obtain ⟨h1, h2⟩ := h o ho
  simp only [encO, List.mem_cons] at hz
  rcases hz with rfl | rfl | hz
  · exact h1
  · rw [wu8]; omega
  · exact h2 z hz
theorem refRead_enc {l : List TOpt} (hf : FewL l) (hb : BytesL l) (hl : (encL l).length ≤ 1496) : portreeveref10_Read (encL l) = some (l, 0) := by
  rw [refRead_spec (enc_bytes hb) (by omega), readL_of_enc _ _ hf.all (Nat.le_refl _)]
theorem acks_loop {n' : TNego} {p : TPkt} {out : List TPkt} {told : List Int} (hpl : p.Data.length ≤ 1496) (hr : RightN n') (hf : FewL n'.Ours) (hb : BytesL n'.Ours) (h2 : out.length ≤ 2) (ho : ∀ x, x ∈ out → OutOk p n'.A.Id n'.Ours x) : loopM (fun s => portreevelaw14_NegoAcks_l2 p true (n', out, told) s) 0 = some true := by
  refine run_loop (fun k => (k : Int)) out.length _ rfl (by omega) (fun k hk => ?_) ?_
  · obtain ⟨hd, hx⟩ := ho _ (List.getElem_mem hk)
    unfold portreevelaw14_NegoAcks_l2
    simp only
    rw [if_pos (by simpa using hk), idx_lt hk]
    simp only [Option.bind_some]
    generalize out[k] = x at hd hx
    have j3 : portreevelaw14_NegoAcks_j3 (k : Int) x = some (.inl ((k + 1 : Nat) : Int)) := by
      unfold portreevelaw14_NegoAcks_j3
      rw [if_neg (by simp; omega), w64s (by omega)]
    have j6t (hi : x.Id = p.Id) (b : Bool) : portreevelaw14_NegoAcks_j6 p k x b = some (.inl ((k + 1 : Nat) : Int)) := by
      unfold portreevelaw14_NegoAcks_j6
      rw [j3, if_neg (show ¬ (x.Id != p.Id) = true by simpa using hi)]
      split <;> rfl
    have j6f : portreevelaw14_NegoAcks_j6 p k x false = some (.inl ((k + 1 : Nat) : Int)) := by
      unfold portreevelaw14_NegoAcks_j6
      rw [if_neg (by simp), j3]
    have quiet (h1 : x.Code ≠ 1) (h2 : x.Code ≠ 2) (h3 : (x.Code ≠ 3 ∧ x.Code ≠ 4 ∧ x.Code ≠ 6 ∧ x.Code ≠ 10) ∨ x.Id = p.Id) : (if (x.Code == 2) = true then (if (p.Code != 1) = true then (portreevelaw14_NegoAcks_j4 k x true) else (if (x.Id != p.Id) = true then (portreevelaw14_NegoAcks_j4 k x true) else ((portreeveref01_Row x.Data p.Data).bind fun r277 => (portreevelaw14_NegoAcks_j4 k x (!r277))))) else (if (x.Code == 1) = true then ((portreeveref10_Read x.Data).bind fun r290 => (if (x.Id != n'.A.Id) = true then (portreevelaw14_NegoAcks_j5 k x true) else (if (r290.2 != 0) = true then (portreevelaw14_NegoAcks_j5 k x true) else ((portreeveref10_Same r290.1 n'.Ours).bind fun r326 => (portreevelaw14_NegoAcks_j5 k x (!r326)))))) else (if (x.Code == 6) = true then (portreevelaw14_NegoAcks_j6 p k x (x.Code == 6)) else (if (x.Code == 10) = true then (portreevelaw14_NegoAcks_j6 p k x (x.Code == 10)) else (if (x.Code == 3) = true then (portreevelaw14_NegoAcks_j6 p k x (x.Code == 3)) else (portreevelaw14_NegoAcks_j6 p k x (x.Code == 4))))))) = some (.inl ((k + 1 : Nat) : Int)) := by
      rw [if_neg (show ¬ (x.Code == 2) = true by simpa using h2), if_neg (show ¬ (x.Code == 1) = true by simpa using h1)]
      rcases h3 with ⟨g3, g4, g6, g10⟩ | hi
      · rw [if_neg (show ¬ (x.Code == 6) = true by simpa using g6), if_neg (show ¬ (x.Code == 10) = true by simpa using g10), if_neg (show ¬ (x.Code == 3) = true by simpa using g3), show (x.Code == 4) = false by simpa using g4]
        exact j6f
      · simp only [j6t hi]
        repeat' split
        all_goals rfl
    rcases hx with h | h | h | ⟨h, hi, hdat⟩ | ⟨h, hc, hi, hdat⟩ | ⟨h, hi⟩
    · exact quiet (by omega) (by omega) (.inl (by omega))
    · exact quiet (by omega) (by omega) (.inl (by omega))
    · exact quiet (by omega) (by omega) (.inl (by omega))
    · rw [if_neg (show ¬ (x.Code == 2) = true by simp [h]), if_pos (show (x.Code == 1) = true by simp [h]), hdat, refRead_enc hf hb hr.len]
      simp only [Option.bind_some]
      rw [if_neg (show ¬ (x.Id != n'.A.Id) = true by simp [hi]), if_neg (by simp), sameL_self hf]
      simp only [Option.bind_some]
      unfold portreevelaw14_NegoAcks_j5
      rw [if_neg (by simp), j3]
    · rw [if_pos (show (x.Code == 2) = true by simp [h]), if_neg (show ¬ (p.Code != 1) = true by simp [hc]), if_neg (show ¬ (x.Id != p.Id) = true by simp [hi]), hdat, row_self (by omega)]
      simp only [Option.bind_some]
      unfold portreevelaw14_NegoAcks_j4
      rw [if_neg (by simp), j3]
    · exact quiet (by omega) (by omega) (.inr hi)
  · unfold portreevelaw14_NegoAcks_l2
    simp only
    rw [if_neg (by simp), if_pos trivial, decide_eq_true (show (out.length : Int) ≤ 2 by omega)]
    rfl
theorem negoAcks_true {n : TNego} {p : TPkt} (w0 : wfTNego n) (w1 : wfTPkt p) : portreevelaw14_NegoAcks n p = some true := by
  unfold portreevelaw14_NegoAcks
  rw [shown_acks]
  obtain ⟨b1, h1, hb1⟩ := small_spec n
  rw [h1]
  simp only [Option.bind_some]
  have up : portreevelaw14_NegoAcks_j1 n p true true = some true := by unfold portreevelaw14_NegoAcks_j1; simp
  cases b1 with
  | false => simpa using up
  | true =>
    obtain ⟨hf, _⟩ := hb1 rfl
    obtain ⟨b2, h2, hb2⟩ := right_spec hf
    rw [if_neg (by simp), h2]
    simp only [Option.bind_some]
    cases b2 with
    | false => simpa using up
    | true =>
      have hr := hb2 rfl
      rw [if_neg (by simp)]
      by_cases hl : (p.Data.length : Int) > 1496
      · rw [decide_eq_true hl]; exact up
      rw [decide_eq_false hl]
      unfold portreevelaw14_NegoAcks_j1
      rw [if_neg (by simp)]
      have hbo : BytesL n.Ours := fun o ho => by
        obtain ⟨g1, g2⟩ := w0.2.2.1.2 o ho
        simp [Lit.wf, IntKind.min, IntKind.max, IntKind.signed, IntKind.bits] at g1
        exact ⟨by omega, u8_bytes' g2.2⟩
      obtain ⟨n3, o3, t3, e3, k3⟩ := take_ok hf hr (p := p) (u8_bytes' w1.2.2.2) (by omega)
      rw [e3]
      simp only [Option.bind_some]
      exact acks_loop (by omega) k3.right k3.few (k3.bytes hbo) k3.two k3.outs
end Go.Proofs.YtadlndnagfnlgaaDoor.W
