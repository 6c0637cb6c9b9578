/- Words for walks: frames as functions, kinds of plain data read out of memory that stays, and a state of owned blocks. No program in it. -/
import Derived.WalkKit
import Derived.KernelRfl
import Derived.Laws.AppendOwn
import Derived.Laws.Slices
import Derived.Orders
set_option linter.unusedSimpArgs false
set_option linter.unusedVariables false
namespace Go.Proofs.YtadlndnagfnlgaaGreatDoor.W
open Go
theorem yp : True := True.intro
theorem yq {α : Type} {a b : α} (h : some a = some b) : a = b := by cases h; rfl

abbrev Fr := Nat → Value
def upd (T : Fr) (d : Nat) (v : Value) : Fr := fun i => bif Nat.beq i d then v else T i
def mk (n : Nat) (T : Fr) : Act := { tmps := ((List.range n).map T).toArray, defers := [] }
def ev (n : Nat) (T : Fr) : Operand → Value
  | .tmp t => bif Nat.blt t n then T t else undef
  | .const v => v
  | .global g => .pointer (some ⟨g, 0, none⟩)
  | .func f => .func (.func f) #[] #[]
theorem eval_mk (n : Nat) (T : Fr) (x : Operand) : (mk n T).eval x = ev n T x := by
  cases x with
  | tmp t =>
    by_cases h : t < n
    · have hb : Nat.blt t n = true := by simpa [Nat.blt_eq] using h
      simp [Act.eval, mk, ev, hb, h, Array.getD]
    · have hb : Nat.blt t n = false := by
        cases hb : Nat.blt t n with
        | false => rfl
        | true => exact absurd (by simpa [Nat.blt_eq] using hb) h
      simp [Act.eval, mk, ev, hb, h, Array.getD]
  | const v => rfl
  | global g => rfl
  | func f => rfl
theorem eval_mk' (n : Nat) (T : Fr) : (mk n T).eval = ev n T := funext (eval_mk n T)
theorem put_mk {n : Nat} {T : Fr} {d : Nat} (v : Value) : (mk n T).put (some d) v = mk n (upd T d v) := by
  unfold Act.put mk
  simp only [List.setIfInBounds_toArray]
  congr 2
  apply List.ext_getElem
  · simp
  · intro i h1 h2
    simp only [List.getElem_set, List.getElem_map, List.getElem_range, upd]
    by_cases e : d = i
    · subst e
      simp
    · have : Nat.beq i d = false := by
        cases hb : Nat.beq i d with
        | false => rfl
        | true => exact absurd (Nat.eq_of_beq_eq_true hb).symm e
      simp [this, e]
def argF (args : List Value) : Fr := fun i => args.getD i undef
theorem upd_same {T : Fr} {d : Nat} {v : Value} (h : T d = v) : upd T d v = T := by
  funext i
  unfold upd
  cases hb : Nat.beq i d with
  | false => rfl
  | true => rw [Nat.eq_of_beq_eq_true hb, h]; rfl
def qQ (T : Fr) : List (Nat × Value) → Fr
  | [] => T
  | (d, v) :: l => upd (qQ T l) d v
def Holds (T : Fr) : List (Nat × Value) → Prop
  | [] => True
  | (d, v) :: l => T d = v ∧ Holds T l
theorem upds_same {T : Fr} : ∀ {l : List (Nat × Value)}, Holds T l → qQ T l = T
  | [], _ => rfl
  | (d, v) :: l, h => by
    have ih := upds_same h.2
    show upd (qQ T l) d v = T
    rw [ih]
    exact upd_same h.1
theorem qG {P : Program} {f : FuncId} {fn : Func} {c : Code} {args : List Value} {w : World} {R : Ending → World → Prop} {n : Nat}
    (hf : P.funcs[f]? = some fn) (hb : fn.body = some c) (hn : fn.ntmps = n) (ha : Nat.ble args.length n = true)
    (h : c.wp P (bodyPost P fn R) (mk n (argF args)) w) : Calls P f args.toArray w R := by
  refine calls_of_wp hf hb ?_
  have e : ({ tmps := args.toArray ++ Array.replicate (fn.ntmps - args.toArray.size) undef, defers := [] } : Act) = mk n (argF args) := by
    unfold mk argF
    congr 1
    apply Array.ext'
    have hle : args.length ≤ n := by simpa using ha
    rw [hn]
    simp only [Array.toList_append, Array.toList_replicate, List.size_toArray]
    apply List.ext_getElem
    · simp; omega
    · intro i h1 h2
      simp only [List.getElem_map, List.getElem_range]
      by_cases hi : i < args.length
      · rw [List.getElem_append_left (by simpa using hi)]
        simp [List.getD, List.getElem?_eq_getElem hi]
      · rw [List.getElem_append_right (by simpa using hi)]
        simp [List.getD, List.getElem?_eq_none (Nat.le_of_not_lt hi)]
  rw [e]
  exact h

def runM {σ R : Type} (step : σ → Option (σ ⊕ R)) : Nat → σ → Option R
  | 0, _ => none
  | k + 1, s => match step s with
    | none => none
    | some (.inl s') => runM step k s'
    | some (.inr r) => some r
def xL {σ R : Type} (step : σ → Option (σ ⊕ R)) (s : σ) : Option R := runM step 1048576 s
theorem loopM_some {σ R : Type} {step : σ → Option (σ ⊕ R)} {s : σ} {r : R} (h : xL step s = some r) : ∃ k, runM step k s = some r := ⟨_, h⟩
theorem exists_least {p : Nat → Prop} (h : ∃ n, p n) : ∃ n, p n ∧ ∀ m, p m → n ≤ m := by
  obtain ⟨n, hn⟩ := h
  induction n using Nat.strongRecOn with
  | _ n ih =>
    by_cases hx : ∃ m, m < n ∧ p m
    · obtain ⟨m, hm, hp⟩ := hx
      exact ih m hm hp
    · exact ⟨n, hn, fun m hp => Nat.le_of_not_lt fun hlt => hx ⟨m, hlt, hp⟩⟩
theorem wp_loopM {P : Program} {c : Code} {Q : Exit → Act → World → Prop} {σ R : Type} (step : σ → Option (σ ⊕ R)) (I : σ → Act → World → Prop) (r : R)
    (h : ∀ s a w, I s a w → (∃ s', step s = some (.inl s')) ∨ step s = some (.inr r) →
      c.wp P (Exit.then (fun a' w' => ∃ s', step s = some (.inl s') ∧ I s' a' w') Q) a w)
    {s : σ} {a : Act} {w : World} (hs : xL step s = some r) (h0 : I s a w) : (Code.loop c).wp P Q a w := by
  classical
  obtain ⟨k, hk⟩ := loopM_some hs
  let J : Nat → Act → World → Prop := fun j a w => ∃ s, runM step j s = some r ∧ I s a w
  let m : Act → World → Nat := fun a w => if hx : ∃ j, J j a w then (exists_least hx).choose else 0
  have hm : ∀ a w (hx : ∃ j, J j a w), J (m a w) a w ∧ ∀ j, J j a w → m a w ≤ j := by
    intro a w hx
    have e : m a w = (exists_least hx).choose := dif_pos hx
    rw [e]
    exact (exists_least hx).choose_spec
  refine wp_loop (fun a w => ∃ j, J j a w) m ⟨k, s, hk, h0⟩ ?_
  intro a w hx
  obtain ⟨⟨s, hr, hI⟩, _⟩ := hm a w hx
  have hpos : ∃ j, m a w = j + 1 := by
    cases hj : m a w with
    | zero => rw [hj] at hr; simp [runM] at hr
    | succ j => exact ⟨j, rfl⟩
  obtain ⟨j, hj⟩ := hpos
  rw [hj] at hr
  have hst : (∃ s', step s = some (.inl s')) ∨ step s = some (.inr r) := by
    simp only [runM] at hr
    cases hs : step s with
    | none => rw [hs] at hr; simp at hr
    | some x =>
      cases x with
      | inl s' => exact .inl ⟨s', rfl⟩
      | inr r' => rw [hs] at hr; simp only [Option.some.injEq] at hr; subst hr; exact .inr rfl
  refine wp_mono (h s a w hI hst) ?_
  intro e a' w' hq
  cases e with
  | normal =>
    obtain ⟨s', hs', hI'⟩ := hq
    have hr' : runM step j s' = some r := by simpa [runM, hs'] using hr
    have hx' : ∃ j, J j a' w' := ⟨j, s', hr', hI'⟩
    refine ⟨hx', ?_⟩
    rw [hj]
    exact Nat.lt_succ_of_le ((hm a' w' hx').2 j ⟨s', hr', hI'⟩)
  | exit id => exact hq
  | goto l => exact hq
  | ret => exact hq
  | panic ch => exact hq
  | outgrown => exact hq
end Go.Proofs.YtadlndnagfnlgaaGreatDoor.W
