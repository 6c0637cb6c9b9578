/- Plain lemmas: the reference's Read. -/
import Derived.Test.YtadlndnagfnlgaaGreatDoorP6
namespace Go.Proofs.YtadlndnagfnlgaaGreatDoor.W
open Go
set_option linter.unusedVariables false
theorem refRead_loop {d : List Int} (hd : xE d) (hl : d.length ≤ 100000) : ∀ (f k : Nat) (x : List TOpt) (fuel : Nat), k ≤ d.length → d.length - k ≤ f → f < fuel → x.length + (d.length - k) ≤ 200000 →
    runM (fun s : List TOpt × Int => xu d s.1 s.2) fuel (x, (k : Int)) = some (match readL f (d.drop k) with | some os => (x ++ os, 0) | none => ([], 2))
  | f, k, x, 0, _, _, hf, _ => by omega
  | f, k, x, fuel + 1, hk, hkf, hf, hx => by
    have w1 (j : Nat) (hj : j < 1000000) : IntKind.i64.wrap ((k : Int) + (j : Int)) = ((k + j : Nat) : Int) := by rw [w64 (by omega) (by omega)]; omega
    cases hdk : d.drop k with
    | nil =>
      have hlen : d.length = k := by
        have := congrArg List.length hdk
        simp only [List.length_drop, List.length_nil] at this
        omega
      have e : readL f [] = some [] := by cases f <;> rfl
      rw [e, runM_inr (r := (x, 0)) (by
        simp only
        unfold xu
        rw [if_neg (by simp; omega)]
        rfl)]
      simp
    | cons t r0 =>
      have hlen : d.length - k = r0.length + 1 := by
        have := congrArg List.length hdk
        simpa only [List.length_drop, List.length_cons] using this
      have hidx : idx d (k : Int) = some t := by
        rw [idx_nat]
        have : (d.drop k)[0]? = some t := by rw [hdk]; rfl
        rwa [List.getElem?_drop, Nat.add_zero] at this
      cases f with
      | zero => omega
      | succ f =>
      cases r0 with
      | nil =>
        simp only [readL]
        rw [runM_inr (r := ([], 2)) (by
          simp only
          unfold xu
          simp only [List.length_nil] at hlen
          rw [if_pos (by simp; omega), show ((k : Int) + 1) = (k : Int) + ((1 : Nat) : Int) from rfl, w1 1 (by omega), if_pos (by simp; omega)]
          rfl)]
      | cons b r =>
        simp only [List.length_cons] at hlen
        have hb8 : 0 ≤ b ∧ b ≤ 255 := hd.drop k b (by rw [hdk]; simp)
        have hidx1 : idx d ((k + 1 : Nat) : Int) = some b := by
          rw [idx_nat]
          have : (d.drop k)[1]? = some b := by rw [hdk]; rfl
          rwa [List.getElem?_drop] at this
        have e0 : xu d x k = xt d k b x (decide (¬ (2 ≤ b ∧ b ≤ (r.length : Int) + 2))) := by
          unfold xu
          rw [if_pos (by simp; omega), show ((k : Int) + 1) = (k : Int) + ((1 : Nat) : Int) from rfl, w1 1 (by omega), if_neg (by simp; omega), hidx1]
          simp only [Option.bind_some]
          rw [w64 (x := b) (by omega) (by omega)]
          by_cases h2 : b < 2
          · rw [if_pos (by simpa using h2), decide_eq_true (by omega)]
          · rw [if_neg (by simpa using h2), w64 (by omega) (by omega)]
            congr 1
            by_cases h3 : b ≤ (r.length : Int) + 2
            · rw [decide_eq_false (by omega), decide_eq_false (by omega)]
            · rw [decide_eq_true (by omega), decide_eq_true (by omega)]
        simp only [readL]
        by_cases hb : 2 ≤ b ∧ b ≤ (r.length : Int) + 2
        · rw [if_pos hb]
          rw [decide_eq_false (by simpa using hb)] at e0
          have hr : d.drop (k + 2) = r := by rw [← List.drop_drop, hdk]; rfl
          have hr2 : d.drop (k + b.toNat) = r.drop (b.toNat - 2) := by
            rw [show k + b.toNat = k + 2 + (b.toNat - 2) by omega, ← List.drop_drop, hr]
          have hB : (k : Int) + b = ((k + b.toNat : Nat) : Int) := by omega
          have e1 : xt d k b x false = some (.inl (x ++ [TOpt.mk t (r.take (b.toNat - 2))], ((k + b.toNat : Nat) : Int))) := by
            unfold xt
            rw [if_neg (by simp), hidx, show ((k : Int) + 2) = (k : Int) + ((2 : Nat) : Int) from rfl, w1 2 (by omega), w64 (x := b) (by omega) (by omega), w64 (x := (k : Int) + b) (by omega) (by omega), hB]
            simp only [Option.bind_some]
            rw [cut_mid (by omega) (by omega), List.drop_take, hr, show k + b.toNat - (k + 2) = b.toNat - 2 by omega]
            simp only [Option.bind_some]
            rw [xf (by simp; omega)]
            rfl
          rw [runM_inl (s' := (x ++ [TOpt.mk t (r.take (b.toNat - 2))], ((k + b.toNat : Nat) : Int))) (e0.trans e1)]
          rw [refRead_loop hd hl f (k + b.toNat) _ fuel (by omega) (by omega) (by omega) (by simp; omega), hr2]
          cases readL f (r.drop (b.toNat - 2)) with
          | none => rfl
          | some os => simp
        · rw [if_neg hb]
          rw [decide_eq_true (by simpa using hb)] at e0
          rw [runM_inr (r := ([], 2)) e0]
theorem refRead_spec {d : List Int} (hd : xE d) (hl : d.length ≤ 100000) : pr10_Read d = some (match readL d.length d with | some os => (os, 0) | none => ([], 2)) := by
  unfold pr10_Read xL
  have := refRead_loop hd hl d.length 0 [] 1048576 (by omega) (by omega) (by omega) (by simp; omega)
  rw [show ((0 : Nat) : Int) = 0 from rfl, List.drop_zero] at this
  rw [this]
  cases readL d.length d <;> rfl
end Go.Proofs.YtadlndnagfnlgaaGreatDoor.W
