/- Words for walks, part 5: slices that are read, structs and slices that are built, calls, results. No program in it. -/
import Derived.Test.YtadlndnagfnlgaaDoorW4
set_option linter.unusedSimpArgs false
set_option linter.unusedVariables false
namespace Go.Proofs.YtadlndnagfnlgaaDoor.W
open Go

/-! ### 1. Reading slices that stay -/
def idx {α : Type} (l : List α) (j : Int) : Option α := if 0 ≤ j then l[j.toNat]? else none
theorem idx_some {α : Type} {l : List α} {j : Int} {x : α} (h : idx l j = some x) : 0 ≤ j ∧ j < l.length ∧ l[j.toNat]? = some x := by
  unfold idx at h
  split at h
  · rename_i h0
    have := (List.getElem?_eq_some_iff.1 h).1
    exact ⟨h0, by omega, h⟩
  · cases h
def PtR {α : Type} (K : Kd α) (G : Ghost) (a : Addr) (x : α) : Prop := ∃ cs, K.rd G cs x ∧ ∀ i v, cs[i]? = some v → gcell G (a.add i) = some v
theorem PtR.mono {α : Type} {K : Kd α} {G G' : Ghost} {a : Addr} {x : α} (h : PtR K G a x) (hg : GLe G G') : PtR K G' a x := by
  obtain ⟨cs, hr, hc⟩ := h
  exact ⟨cs, K.mono hg hr, fun i v hv => gcell_mono hg (hc i v hv)⟩
theorem PtR.lens {α β : Type} {K : Kd α} {L : Kd β} {G : Ghost} {a : Addr} {x : α} {off : Nat} {get : α → β} {put : α → β → α} (h : PtR K G a x) (l : Lens K off L get put) : PtR L G (a.add off) (get x) := by
  obtain ⟨cs, hr, hc⟩ := h
  refine ⟨_, l.get hr, fun i v hv => ?_⟩
  rw [List.getElem?_take] at hv
  split at hv
  · rw [add_add]; exact hc _ _ (by simpa using hv)
  · cases hv
section
variable {P : Program} {ops : Array Oper} {Q : Exit → Act → World → Prop} {rest : List Oper} {n : Nat} {T : Fr} {w : World} {c : World} {G : Ghost} {σ : List Ent}
structure Sl (P : Program) (t e : TypeId) : Prop where und : P.underlying t = some (.slice e)
theorem wl_index {α : Type} {K : Kd α} {A : Option Addr} {cp : Nat} {l : List α} {j : Int} {x : α} {d : Nat} {t e ty : TypeId} {s i : Operand} {k : IntKind} {pos : String} {af : Array Edge}
    (hs : SlR K G A cp l) (hl : Sl P t e) (ht : Ty P e K.sz K.agg) (hx : ev n T s = .slice A l.length cp) (hi : ev n T i = .int k j) (hj : idx l j = some x)
    (h : ∀ a, PtR K G a x → wpList P ops Q rest (mk n (upd T d (.pointer (some a)))) w) : wpList P ops Q (⟨some d, .indexAddr t s i, ty, pos, af, none⟩ :: rest) (mk n T) w := by
  obtain ⟨h0, h1, hg⟩ := idx_some hj
  cases A with
  | none =>
    have := (hs.2.1 rfl).1
    subst this
    simp at hg
  | some a =>
    obtain ⟨cs, hr, hc⟩ := hs.2.2 a rfl _ _ hg
    refine wl_ok (v := .pointer (some (a.add (j.toNat * K.sz)))) ?_ (h _ ⟨cs, hr, fun i v hv => by rw [add_add]; exact hc i v hv⟩)
    unfold execOp
    simp [hx, hi, Instr.indexAt, asIntOf, run_underlying hl.und, h0, h1, ht.run_size]
theorem wl_loadp {β : Type} {L : Kd β} {y : β} {a : Addr} {d : Nat} {t ty : TypeId} {z : Operand} {pos : String} {af : Array Edge}
    (H : St c G w σ) (hp : PtR L G a y) (ht : Ty P t L.sz L.agg) (hx : ev n T z = .pointer (some a))
    (h : ∀ v, L.V G v y → wpList P ops Q rest (mk n (upd T d v)) w) : wpList P ops Q (⟨some d, .load t z, ty, pos, af, none⟩ :: rest) (mk n T) w := by
  obtain ⟨cs, hr, hc⟩ := hp
  refine wl_ok (v := unc L.agg cs) ?_ (h _ ⟨cs, rfl, hr⟩)
  have hl := run_loadVar_K (P := P) (w := w) ht hr a (fun i v hv => H.ag.cell (hc i v hv))
  unfold execOp
  simp [hx, Instr.loadAt, Instr.sureAddr, hl]
theorem wl_loadpd {β : Type} {L : Kd β} {y : β} {a : Addr} {enc : β → Value} {d : Nat} {t ty : TypeId} {z : Operand} {pos : String} {af : Array Edge}
    (H : St c G w σ) (hp : PtR L G a y) (D : Det L enc) (ht : Ty P t L.sz L.agg) (hx : ev n T z = .pointer (some a))
    (h : wpList P ops Q rest (mk n (upd T d (enc y))) w) : wpList P ops Q (⟨some d, .load t z, ty, pos, af, none⟩ :: rest) (mk n T) w :=
  wl_loadp H hp ht hx fun v hv => by rw [D.V hv]; exact h
theorem wl_len {A : Option Addr} {m cp : Nat} {d : Nat} {t e ty : TypeId} {s : Operand} {pos : String} {af : Array Edge} (hl : Sl P t e) (hx : ev n T s = .slice A m cp)
    (h : wpList P ops Q rest (mk n (upd T d (.int .i64 (m : Int)))) w) : wpList P ops Q (⟨some d, .call { callee := .builtin .len, args := #[s], argTypes := #[t] }, ty, pos, af, none⟩ :: rest) (mk n T) w := by
  refine wl_ok (v := .int .i64 (m : Int)) ?_ h
  unfold execOp
  simp [resolve, invoke, builtin, hx, Builtin.len_, run_underlying hl.und, goInt]
theorem wl_lens {s : ByteArray} {d : Nat} {t ty : TypeId} {x : Operand} {pos : String} {af : Array Edge} (hl : P.underlying t = some .string) (hx : ev n T x = .string s)
    (h : wpList P ops Q rest (mk n (upd T d (.int .i64 (s.size : Int)))) w) : wpList P ops Q (⟨some d, .call { callee := .builtin .len, args := #[x], argTypes := #[t] }, ty, pos, af, none⟩ :: rest) (mk n T) w := by
  refine wl_ok (v := .int .i64 (s.size : Int)) ?_ h
  unfold execOp
  simp [resolve, invoke, builtin, hx, Builtin.len_, run_underlying hl, goInt]
theorem wl_convert {k k' : IntKind} {m : Int} {d : Nat} {t t' ty : TypeId} {x : Operand} {pos : String} {af : Array Edge} (hs : P.underlying t = some (.int k')) (hd : P.underlying t' = some (.int k)) (hx : ev n T x = .int k' m)
    (h : wpList P ops Q rest (mk n (upd T d (.int k (k.wrap m)))) w) : wpList P ops Q (⟨some d, .convert t t' x, ty, pos, af, none⟩ :: rest) (mk n T) w := by
  refine wl_ok (v := .int k (k.wrap m)) ?_ h
  unfold execOp
  simp [hx, convert, run_underlying hs, run_underlying hd, Conv.intToInt]
theorem wl_min {k : IntKind} {a b : Int} {d : Nat} {t u ty : TypeId} {x y : Operand} {pos : String} {af : Array Edge} (hx : ev n T x = .int k a) (hy : ev n T y = .int k b)
    (h : wpList P ops Q rest (mk n (upd T d (.int k (if b < a then b else a)))) w) : wpList P ops Q (⟨some d, .call { callee := .builtin .min, args := #[x, y], argTypes := #[t, u] }, ty, pos, af, none⟩ :: rest) (mk n T) w := by
  refine wl_ok (v := .int k (if b < a then b else a)) ?_ h
  unfold execOp
  simp [resolve, invoke, builtin, hx, hy, Builtin.min_, Builtin.min2]
theorem wl_max {k : IntKind} {a b : Int} {d : Nat} {t u ty : TypeId} {x y : Operand} {pos : String} {af : Array Edge} (hx : ev n T x = .int k a) (hy : ev n T y = .int k b)
    (h : wpList P ops Q rest (mk n (upd T d (.int k (if a < b then b else a)))) w) : wpList P ops Q (⟨some d, .call { callee := .builtin .max, args := #[x, y], argTypes := #[t, u] }, ty, pos, af, none⟩ :: rest) (mk n T) w := by
  refine wl_ok (v := .int k (if a < b then b else a)) ?_ h
  unfold execOp
  simp [resolve, invoke, builtin, hx, hy, Builtin.max_, Builtin.max2]

/-! ### 2. Building -/
theorem fold_set (off : Nat) : ∀ (l : List Value) (k : Nat) (cs : Array Value), off + k + l.length ≤ cs.size →
    ((l.zipIdx k).foldl (fun (cs : Array Value) (p : Value × Nat) => cs.setIfInBounds (off + p.2) p.1) cs).toList = cs.toList.take (off + k) ++ l ++ cs.toList.drop (off + k + l.length)
  | [], k, cs, _ => by simp
  | v :: l, k, cs, hl => by
    have ih := fold_set off l (k + 1) (cs.setIfInBounds (off + k) v) (by simp at hl ⊢; omega)
    rw [List.zipIdx_cons, List.foldl_cons, ih]
    have e := list_seg_step cs.toList (off + k) v l (by simp at hl ⊢; omega)
    simpa [Array.toList_setIfInBounds, Nat.add_assoc] using e
theorem fill_cons {place : Nat → Option (Nat × Nat)} {cells : Array Value} {i off size : Nat} {v : Value} {rest : List (Nat × Value)} (hp : place i = some (off, size)) (hs : v.cells.size = size) (hf : off + size ≤ cells.size) :
    Instr.fill place cells ((i, v) :: rest) = Instr.fill place (cells.toList.take off ++ v.cells.toList ++ cells.toList.drop (off + size)).toArray rest := by
  have e : v.cells.zipIdx.foldl (fun cs (c, j) => cs.setIfInBounds (off + j) c) cells = (cells.toList.take off ++ v.cells.toList ++ cells.toList.drop (off + size)).toArray := by
    apply Array.ext'
    rw [← Array.foldl_toList, Array.toList_zipIdx]
    have := fold_set off v.cells.toList 0 cells (by simp; omega)
    simp only [Nat.add_zero, Array.length_toList, hs] at this
    exact this
  simp only [Instr.fill, hp]
  rw [if_neg (by simp; omega), e]
/-- A struct's fields, filled one after another. -/
inductive Parts {α : Type} (P : Program) (t : TypeId) (K : Kd α) (G : Ghost) : α → List (Nat × Value) → α → Prop
  | nil (x : α) : Parts P t K G x [] x
  | cons {β : Type} {x x' : α} {i off : Nat} {v : Value} {rest : List (Nat × Value)} {L : Kd β} {y : β} {get : α → β} {put : α → β → α} (ho : fieldOff P t i = some (off, L.sz)) (l : Lens K off L get put) (hv : L.V G v y)
      (hr : Parts P t K G (put x y) rest x') : Parts P t K G x ((i, v) :: rest) x'
theorem Parts.fill {α : Type} {t : TypeId} {K : Kd α} {place : Nat → Option (Nat × Nat)} (hp : ∀ i off sz, fieldOff P t i = some (off, sz) → place i = some (off, sz)) {x x' : α} {ps : List (Nat × Value)}
    (h : Parts P t K G x ps x') : ∀ {cells : Array Value}, K.rd G cells.toList x → ∃ cs : List Value, Instr.fill place cells ps = some cs.toArray ∧ K.rd G cs x' := by
  induction h with
  | nil x => intro cells hr; exact ⟨cells.toList, by simp [Instr.fill], hr⟩
  | cons ho l hv _ ih =>
    rename_i L y get put _
    intro cells hr
    have hl := L.len hv.cells
    have hf := l.fits
    have hk := K.len hr
    simp only [Array.length_toList] at hl hk
    rw [fill_cons (hp _ _ _ ho) hl (by omega)]
    have h2 := l.put hr hv.cells
    rw [Array.length_toList, hl] at h2
    exact ih (by simpa using h2)
theorem run_mapM_list {α β : Type} {f : α → Sem β} {g : α → β} : ∀ {l : List α}, (∀ x, x ∈ l → ∀ w, (f x).run P w = .ok (g x) w) → ∀ w, (l.mapM f).run P w = .ok (l.map g) w
  | [], _, w => by simp
  | x :: l, h, w => by
    rw [List.mapM_cons]
    simp only [Sem.run_bind, h x (by simp), Result.andThen_ok, run_mapM_list (l := l) (fun y hy => h y (by simp [hy])), Sem.run_pure, List.map_cons]
theorem run_mapM {α β : Type} {f : α → Sem β} {g : α → β} {l : Array α} (h : ∀ x, x ∈ l → ∀ w, (f x).run P w = .ok (g x) w) (w : World) : (l.mapM f).run P w = .ok (l.map g) w := by
  obtain ⟨l⟩ := l
  rw [List.mapM_toArray]
  simp only [map_eq_pure_bind, Sem.run_bind, run_mapM_list (fun x hx => h x (by simpa using hx)), Result.andThen_ok, Sem.run_pure, List.map_toArray]
theorem wl_build {α : Type} {K : Kd α} {z x : α} {ps : List (Nat × Value)} {d : Nat} {t ty : TypeId} {parts : List (Nat × Operand)} {pos : String} {af : Array Edge}
    (hz : Zr P t K z) (ha : K.agg = true) (hst : (P.underlying t).map (fun d => match d with | .struct fs => fs.all fun f => (P.info? f.type).isSome | _ => false) = some true)
    (hps : (parts.map fun p => (p.1, ev n T p.2)) = ps) (hp : Parts P t K G z ps x)
    (h : ∀ v, K.V G v x → wpList P ops Q rest (mk n (upd T d v)) w) : wpList P ops Q (⟨some d, .build t parts.toArray, ty, pos, af, none⟩ :: rest) (mk n T) w := by
  obtain ⟨v0, hv0, hr0⟩ := hz.zero
  cases hu : P.underlying t with
  | none => simp [hu] at hst
  | some ds =>
    cases ds <;> simp only [hu, Option.map_some, Option.some.injEq, Bool.false_eq_true] at hst
    rename_i fs
    have hplace : ∀ i off sz, fieldOff P t i = some (off, sz) → (fs.map fun f => (f.offset, ((P.info? f.type).map (·.size)).getD 0))[i]? = some (off, sz) := by
      intro i off sz ho
      unfold fieldOff at ho
      simp only [hu] at ho
      split at ho
      · rename_i f hf
        cases hi : P.info? f.type with
        | none => simp [hi] at ho
        | some j =>
          simp only [hi, Option.map_some, Option.some.injEq, Prod.mk.injEq] at ho
          simp [hf, hi, ho.1, ho.2]
      · cases ho
    obtain ⟨cs, hfill, hr⟩ := hp.fill (place := fun i => (fs.map fun f => (f.offset, ((P.info? f.type).map (·.size)).getD 0))[i]?) hplace (cells := v0.cells) (hr0 G).cells
    refine wl_ok (v := .agg cs.toArray) ?_ (h _ ⟨cs, by simp [unc, ha], hr⟩)
    have hpl : ∀ f, f ∈ fs → ∀ w, (do pure (f.offset, ← sizeOf f.type) : Sem (Nat × Nat)).run P w = .ok (f.offset, ((P.info? f.type).map (·.size)).getD 0) w := by
      intro f hf w
      have := (Array.all_eq_true_iff_forall_mem.1 hst) f hf
      cases hi : P.info? f.type with
      | none => simp [hi] at this
      | some i => simp [sizeOf, typeInfo, hi]
    have hps' : ((parts.toArray).map fun p => (p.1, ev n T p.2)).toList = ps := by rw [← hps]; simp
    unfold execOp
    simp only [Sem.run_bind, Instr.build, run_zero hv0, Result.andThen_ok, run_underlying hu, run_mapM hpl, hps', hfill, Sem.run_pure]
end
end Go.Proofs.YtadlndnagfnlgaaDoor.W
