/- Words for walks, part 5: slices that are read, structs and slices that are built, calls, results. No program in it. -/
import Derived.Test.YtadlndnagfnlgaaGreatDoorW4
set_option linter.unusedSimpArgs false
set_option linter.unusedVariables false
namespace Go.Proofs.YtadlndnagfnlgaaGreatDoor.W
open Go

def idx {α : Type} (l : List α) (j : Int) : Option α := if 0 ≤ j then l[j.toNat]? else none
theorem idx_some {α : Type} {l : List α} {j : Int} {x : α} (h : idx l j = some x) : 0 ≤ j ∧ j < l.length ∧ l[j.toNat]? = some x := by
  unfold idx at h
  split at h
  · rename_i h0
    have := (List.getElem?_eq_some_iff.1 h).1
    exact ⟨h0, by omega, h⟩
  · cases h
def PtR {α : Type} (K : Kd α) (G : qk) (a : Addr) (x : α) : Prop := ∃ cs, K.rd G cs x ∧ ∀ i v, cs[i]? = some v → gcell G (a.add i) = some v
theorem PtR.mono {α : Type} {K : Kd α} {G G' : qk} {a : Addr} {x : α} (h : PtR K G a x) (hg : GLe G G') : PtR K G' a x := by
  obtain ⟨cs, hr, hc⟩ := h
  exact ⟨cs, K.mono hg hr, fun i v hv => gcell_mono hg (hc i v hv)⟩
theorem PtR.lens {α β : Type} {K : Kd α} {L : Kd β} {G : qk} {a : Addr} {x : α} {off : Nat} {get : α → β} {put : α → β → α} (h : PtR K G a x) (l : Lens K off L get put) : PtR L G (a.add off) (get x) := by
  obtain ⟨cs, hr, hc⟩ := h
  refine ⟨_, l.get hr, fun i v hv => ?_⟩
  rw [List.getElem?_take] at hv
  split at hv
  · rw [add_add]; exact hc _ _ (by simpa using hv)
  · cases hv
section
variable {P : Program} {ops : Array Oper} {Q : Exit → Act → World → Prop} {rest : List Oper} {n : Nat} {T : Fr} {w : World} {c : World} {G : qk} {σ : List Ent}
structure Sl (P : Program) (t e : TypeId) : Prop where und : P.underlying t = some (.slice e)
theorem zH {β : Type} {L : Kd β} {y : β} {a : Addr} {d : Nat} {t ty : TypeId} {z : Operand} {pos : String} {af : Array Edge}
    (H : St c G w σ) (hp : PtR L G a y) (ht : Ty P t L.sz L.agg) (hx : ev n T z = .pointer (some a))
    (h : ∀ v, L.V G v y → wpList P ops Q rest (mk n (upd T d v)) w) : wpList P ops Q (⟨some d, .load t z, ty, pos, af, none⟩ :: rest) (mk n T) w := by
  obtain ⟨cs, hr, hc⟩ := hp
  refine wl_ok (v := unc L.agg cs) ?_ (h _ ⟨cs, rfl, hr⟩)
  have hl := run_loadVar_K (P := P) (w := w) ht hr a (fun i v hv => H.ag.cell (hc i v hv))
  unfold execOp
  simp [hx, Instr.loadAt, Instr.sureAddr, hl]
theorem zd {β : Type} {L : Kd β} {y : β} {a : Addr} {enc : β → Value} {d : Nat} {t ty : TypeId} {z : Operand} {pos : String} {af : Array Edge}
    (H : St c G w σ) (hp : PtR L G a y) (D : Det L enc) (ht : Ty P t L.sz L.agg) (hx : ev n T z = .pointer (some a))
    (h : wpList P ops Q rest (mk n (upd T d (enc y))) w) : wpList P ops Q (⟨some d, .load t z, ty, pos, af, none⟩ :: rest) (mk n T) w :=
  zH H hp ht hx fun v hv => by rw [D.V hv]; exact h
theorem fold_set (off : Nat) : ∀ (l : List Value) (k : Nat) (cs : Array Value), off + k + l.length ≤ cs.size →
    ((l.zipIdx k).foldl (fun (cs : Array Value) (p : Value × Nat) => cs.setIfInBounds (off + p.2) p.1) cs).toList = cs.toList.take (off + k) ++ l ++ cs.toList.drop (off + k + l.length)
  | [], k, cs, _ => by simp
  | v :: l, k, cs, hl => by
    have ih := fold_set off l (k + 1) (cs.setIfInBounds (off + k) v) (by simp at hl ⊢; omega)
    rw [List.zipIdx_cons, List.foldl_cons, ih]
    have e := list_seg_step cs.toList (off + k) v l (by simp at hl ⊢; omega)
    simpa [Array.toList_setIfInBounds, Nat.add_assoc] using e
theorem fill_cons {place : Nat → Option (Nat × Nat)} {cells : Array Value} {i off size : Nat} {v : Value} {rest : List (Nat × Value)} (hp : place i = some (off, size)) (hs : v.cells.size = size) (hf : off + size ≤ cells.size) :
    Instr.fill place cells ((i, v) :: rest) = Instr.fill place (cells.toList.take off ++ v.cells.toList ++ cells.toList.drop (off + size)).toArray rest := by
  have e : v.cells.zipIdx.foldl (fun cs (c, j) => cs.setIfInBounds (off + j) c) cells = (cells.toList.take off ++ v.cells.toList ++ cells.toList.drop (off + size)).toArray := by
    apply Array.ext'
    rw [← Array.foldl_toList, Array.toList_zipIdx]
    have := fold_set off v.cells.toList 0 cells (by simp; omega)
    simp only [Nat.add_zero, Array.length_toList, hs] at this
    exact this
  simp only [Instr.fill, hp]
  rw [if_neg (by simp; omega), e]
inductive Parts {α : Type} (P : Program) (t : TypeId) (K : Kd α) (G : qk) : α → List (Nat × Value) → α → Prop
  | nil (x : α) : Parts P t K G x [] x
  | cons {β : Type} {x x' : α} {i off : Nat} {v : Value} {rest : List (Nat × Value)} {L : Kd β} {y : β} {get : α → β} {put : α → β → α} (ho : zy P t i = some (off, L.sz)) (l : Lens K off L get put) (hv : L.V G v y)
      (hr : Parts P t K G (put x y) rest x') : Parts P t K G x ((i, v) :: rest) x'
theorem Parts.fill {α : Type} {t : TypeId} {K : Kd α} {place : Nat → Option (Nat × Nat)} (hp : ∀ i off sz, zy P t i = some (off, sz) → place i = some (off, sz)) {x x' : α} {ps : List (Nat × Value)}
    (h : Parts P t K G x ps x') : ∀ {cells : Array Value}, K.rd G cells.toList x → ∃ cs : List Value, Instr.fill place cells ps = some cs.toArray ∧ K.rd G cs x' := by
  induction h with
  | nil x => intro cells hr; exact ⟨cells.toList, by simp [Instr.fill], hr⟩
  | cons ho l hv _ ih =>
    rename_i L y get put _
    intro cells hr
    have hl := L.len hv.cells
    have hf := l.fits
    have hk := K.len hr
    simp only [Array.length_toList] at hl hk
    rw [fill_cons (hp _ _ _ ho) hl (by omega)]
    have h2 := l.put hr hv.cells
    rw [Array.length_toList, hl] at h2
    exact ih (by simpa using h2)
theorem run_mapM_list {α β : Type} {f : α → Sem β} {g : α → β} : ∀ {l : List α}, (∀ x, x ∈ l → ∀ w, (f x).run P w = .ok (g x) w) → ∀ w, (l.mapM f).run P w = .ok (l.map g) w
  | [], _, w => by simp
  | x :: l, h, w => by
    rw [List.mapM_cons]
    simp only [Sem.run_bind, h x (by simp), Result.andThen_ok, run_mapM_list (l := l) (fun y hy => h y (by simp [hy])), Sem.run_pure, List.map_cons]
theorem run_mapM {α β : Type} {f : α → Sem β} {g : α → β} {l : Array α} (h : ∀ x, x ∈ l → ∀ w, (f x).run P w = .ok (g x) w) (w : World) : (l.mapM f).run P w = .ok (l.map g) w := by
  obtain ⟨l⟩ := l
  rw [List.mapM_toArray]
  simp only [map_eq_pure_bind, Sem.run_bind, run_mapM_list (fun x hx => h x (by simpa using hx)), Result.andThen_ok, Sem.run_pure, List.map_toArray]
end
end Go.Proofs.YtadlndnagfnlgaaGreatDoor.W
