/- NegoRight, of the plain functions: what comes of what a layer does, of a tick and of a packet is right, and is told just when Opened is come to or left. -/
import Derived.Test.YtadlndnagfnlgaaDoorP6
import Derived.Test.YtadlndnagfnlgaaDoorVNegoRight
namespace Go.Proofs.YtadlndnagfnlgaaDoor.W
open Go
set_option linter.unusedVariables false
theorem shown_right : portreevelaw14_shown = some true := by kernel_rfl
theorem autoRight_true {a : TAuto} (h : RightA a) : portreeveref12_Right a = some true := by
  have hs0 := h.s0
  have hs9 := h.s9
  have hc0 := h.c0
  have hc5 := h.c5
  unfold portreeveref12_Right
  rw [if_neg (by simp; omega), if_neg (by simp; omega), if_neg (by simp; omega), decide_eq_false (show ¬ a.Count > 5 by omega)]
  unfold portreeveref12_Right_j1 portreeveref11_Timed
  rw [if_neg (by simp)]
  rcases h.left with ⟨h4, h8, h1, h3⟩ | ⟨ht, hl⟩
  · rw [if_pos (show decide (a.State ≥ 4) = true by simpa using h4), decide_eq_true h8]
    simp only [Option.bind_some]
    rw [if_pos trivial, if_pos (show decide (a.Left ≥ 1) = true by simpa using h1), decide_eq_true h3]
    rfl
  · by_cases h4 : a.State ≥ 4
    · rw [if_pos (show decide (a.State ≥ 4) = true by simpa using h4), decide_eq_false (show ¬ a.State ≤ 8 by omega)]
      simp [hl]
    · rw [if_neg (show ¬ decide (a.State ≥ 4) = true by simpa using h4)]
      simp [hl]
theorem right_true {n : TNego} (hf : FewL n.Ours) (h : RightN n) : portreeveref14_Right n = some true := by
  have hl := hf.len
  unfold portreeveref14_Right
  rw [autoRight_true h.a, refBytes_spec hf, if_neg (show ¬ (encL n.Ours).length > 1496 by have := h.len; omega)]
  simp only [Option.bind_some]
  refine run_loop (fun k => (k : Int)) n.Ours.length _ rfl (by omega) (fun k hk => ?_) ?_
  · unfold portreeveref14_Right_l1
    rw [if_pos (by simpa using hk)]
    simp only [idx_lt hk, Option.bind_some, portreeveref14_Right_j2]
    by_cases ht : (n.Ours[k]).Typ = 5
    · have hd := h.magic _ (List.getElem_mem hk) ht
      rw [if_pos (by simpa using ht), if_neg (by simp [hd]), w64s (by omega)]
    · rw [if_neg (by simpa using ht), if_neg (by simp), w64s (by omega)]
  · have h0 := h.naks0
    have h3 := h.naks3
    unfold portreeveref14_Right_l1
    rw [if_neg (by simp)]
    simp [h0, h3]
theorem has_take {l : List Int} {k : Nat} (h : k < l.length) (x : Int) : has (l.take (k + 1)) x = (has (l.take k) x || l[k] == x) := by
  unfold has
  rw [List.take_succ_eq_append_getElem h, List.any_append]
  simp only [List.any_cons, List.any_nil, Bool.or_false]
  congr 1
  rw [Bool.eq_iff_iff]
  simp only [beq_iff_eq]
  exact eq_comm
theorem up2_true {a : Bool} {n : TNego} {l : List Int} (hl : l.length ≤ 1000) (up : has l 1 = (!a && n.A.State == 9)) (down : has l 2 = (a && !(n.A.State == 9))) : portreevelaw14_up2 a n l = some true := by
  unfold portreevelaw14_up2
  refine run_loop (fun k => (has (l.take k) 1, has (l.take k) 2, (k : Int))) l.length _ rfl (by omega) (fun k hk => ?_) ?_
  · unfold portreevelaw14_up2_l1
    simp only
    rw [if_pos (by simpa using hk), has_take hk, has_take hk]
    have j3 (b : Bool) : portreevelaw14_up2_j3 l (has (l.take k) 2) k b = some (.inl (b, has (l.take k) 2 || l[k] == 2, ((k + 1 : Nat) : Int))) := by
      unfold portreevelaw14_up2_j3 portreevelaw14_up2_j2
      rw [w64s (by omega)]
      cases has (l.take k) 2 with
      | true => rfl
      | false => rw [if_neg (by simp), idx_lt hk]; rfl
    cases h1 : has (l.take k) 1 with
    | true => rw [if_pos rfl, j3]; rfl
    | false => rw [if_neg (by simp), idx_lt hk]; simp only [Option.bind_some, j3]; rfl
  · unfold portreevelaw14_up2_l1
    simp only
    rw [if_neg (by simp), List.take_length, up, down]
    cases hs : n.A.State == 9 <;> cases a <;> rfl
theorem up2_ok {s : Int} {n' : TNego} {told : List Int} (hl : told.length ≤ 8) (up : has told 1 = true ↔ s ≠ 9 ∧ n'.A.State = 9) (down : has told 2 = true ↔ s = 9 ∧ n'.A.State ≠ 9) : portreevelaw14_up2 (s == 9) n' told = some true := by
  refine up2_true (by omega) ?_ ?_
  · rw [Bool.eq_iff_iff, up]; simp
  · rw [Bool.eq_iff_iff, down]; simp
theorem u8_bytes {l : List Int} (h : ∀ z, z ∈ l → (Lit.int .u8 z).wf = true) : Bytes8 l := fun z hz => by
  have := h z hz
  simp [Lit.wf, IntKind.min, IntKind.max, IntKind.signed, IntKind.bits] at this
  omega
theorem negoRight_true {n : TNego} {e : Int} {p : TPkt} (w0 : wfTNego n) (w1 : (Lit.int .i64 e).wf = true) (w2 : wfTPkt p) : portreevelaw14_NegoRight n e p = some true := by
  unfold portreevelaw14_NegoRight
  rw [shown_right]
  obtain ⟨b1, h1, hb1⟩ := small_spec n
  rw [h1]
  simp only [Option.bind_some]
  have up : portreevelaw14_NegoRight_j1 n e p true true = some true := by unfold portreevelaw14_NegoRight_j1; simp
  cases b1 with
  | false => simpa using up
  | true =>
    obtain ⟨hf, _⟩ := hb1 rfl
    obtain ⟨b2, h2, hb2⟩ := right_spec hf
    rw [if_neg (by simp), h2]
    simp only [Option.bind_some]
    cases b2 with
    | false => simpa using up
    | true =>
      have hr := hb2 rfl
      rw [if_neg (by simp)]
      by_cases hl : (p.Data.length : Int) > 1496
      · rw [decide_eq_true hl]; exact up
      rw [decide_eq_false hl]
      unfold portreevelaw14_NegoRight_j1
      rw [if_neg (by simp)]
      obtain ⟨n1, o1, t1, e1, k1⟩ := do_ok hf hr e
      obtain ⟨n2, o2, t2, e2, k2⟩ := tick_ok hf hr
      obtain ⟨n3, o3, t3, e3, k3⟩ := take_ok hf hr (p := p) (u8_bytes w2.2.2.2) (by omega)
      rw [e1]
      simp only [Option.bind_some]
      rw [e2]
      simp only [Option.bind_some]
      rw [e3]
      simp only [Option.bind_some]
      rw [if_pos trivial, right_true k1.few k1.right]
      simp only [Option.bind_some]
      rw [if_pos trivial, right_true k2.few k2.right]
      simp only [Option.bind_some]
      rw [if_pos trivial, right_true k3.few k3.right]
      simp only [Option.bind_some]
      rw [if_pos trivial, up2_ok k1.len k1.up k1.down]
      simp only [Option.bind_some]
      rw [if_pos trivial, up2_ok k2.len k2.up k2.down]
      simp only [Option.bind_some]
      rw [if_pos trivial, up2_ok k3.len k3.up k3.down]
      rfl
end Go.Proofs.YtadlndnagfnlgaaDoor.W
