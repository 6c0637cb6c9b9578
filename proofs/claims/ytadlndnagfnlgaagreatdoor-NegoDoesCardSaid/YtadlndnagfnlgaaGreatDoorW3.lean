/- Words for walks, part 3: the state of owned blocks, and what loads, stores and new blocks do to it. No program in it. -/
import Derived.Test.YtadlndnagfnlgaaGreatDoorW2
set_option linter.unusedSimpArgs false
set_option linter.unusedVariables false
namespace Go.Proofs.YtadlndnagfnlgaaGreatDoor.W
open Go

structure Pd where
  p : qk → List Value → Prop
  mono : ∀ {G G' cs}, GLe G G' → p G cs → p G' cs
  one : ∀ {G cs}, p G cs → ∀ v, v ∈ cs → v.oneCell' = true
def Kd.at_ {α : Type} (K : Kd α) (x : α) : Pd := ⟨fun G cs => K.rd G cs x, K.mono, K.one⟩
def Kd.row {α : Type} (K : Kd α) (l : List α) : Pd := ⟨fun G cs => zN K G cs l, fun hg h => zN.mono hg h, fun h => zN.one h⟩
inductive Ent where
  | box (b : Nat) (t : TypeId) (p : Pd)
  | own (g : Option Nat) (A : Option Addr) (n cap : Nat) (t : TypeId) (sz : Nat) (p : Pd)
  | mp (r : Nat) (es : List MapEntry) (clock : Nat)
  | it (r : Nat) (s : ByteArray) (pos : Nat)
  | ob (r : Nat) (o : Obj)
def Ent.blk : Ent → Option Nat
  | .box b _ _ => some b
  | .own g _ _ _ _ _ _ => g
  | .mp r _ _ => some r
  | .it r _ _ => some r
  | .ob r _ => some r
def Ent.ok (G : qk) (w : World) : Ent → Prop
  | .box b t p => G b = none ∧ ∃ cs : List Value, w.heap[b]? = some (.cells cs.toArray t (0, 0)) ∧ p.p G cs
  | .own g A n cap t sz p => (∀ k, g = some k → G k = none) ∧
      ((g = none ∧ n = 0 ∧ cap = 0 ∧ p.p G []) ∨
       ∃ k cur, g = some k ∧ A = some ⟨k, 0, none⟩ ∧ n ≤ cap ∧ cap ≤ maxLen ∧ w.heap[k]? = some (.cells cur t (0, 0)) ∧ cur.size = cap * sz ∧ p.p G (cur.toList.take (n * sz)))
  | .mp r es clock => G r = none ∧ w.heap[r]? = some (.map es.toArray clock)
  | .it r s pos => G r = none ∧ w.heap[r]? = some (.stringIter s pos)
  | .ob r o => G r = none ∧ w.heap[r]? = some o
structure St (c : World) (G : qk) (w : World) (σ : List Ent) : Prop where
  os : w.os = c.os
  tape : w.tape = c.tape
  output : w.output = c.output
  base : ∀ k o, c.heap[k]? = some o → G k = some o
  ag : Agree G w
  ok : ∀ e, e ∈ σ → e.ok G w
  ap : σ.Pairwise fun e e' => ∀ k, e.blk = some k → e'.blk ≠ some k
theorem Ent.ok.lt {G : qk} {w : World} {e : Ent} (h : e.ok G w) : ∀ k, e.blk = some k → k < w.heap.size := by
  intro k hk
  cases e with
  | box b t p =>
    obtain ⟨_, cs, hh, _⟩ := h
    cases hk
    exact (Array.getElem?_eq_some_iff.1 hh).1
  | own g A n cap t sz p =>
    obtain ⟨_, ⟨rfl, _⟩ | ⟨k', cur, rfl, _, _, _, hh, _⟩⟩ := h
    · cases hk
    · cases hk
      exact (Array.getElem?_eq_some_iff.1 hh).1
  | mp r es clock =>
    obtain ⟨_, hh⟩ := h
    cases hk
    exact (Array.getElem?_eq_some_iff.1 hh).1
  | it r s pos =>
    obtain ⟨_, hh⟩ := h
    cases hk
    exact (Array.getElem?_eq_some_iff.1 hh).1
  | ob r o =>
    obtain ⟨_, hh⟩ := h
    cases hk
    exact (Array.getElem?_eq_some_iff.1 hh).1
theorem Ent.ok.ghost {G : qk} {w : World} {e : Ent} (h : e.ok G w) : ∀ k, e.blk = some k → G k = none := by
  intro k hk
  cases e with
  | box b t p => cases hk; exact h.1
  | own g A n cap t sz p => exact h.1 k hk
  | mp r es clock => cases hk; exact h.1
  | it r s pos => cases hk; exact h.1
  | ob r o => cases hk; exact h.1
theorem Ent.ok.grown {G : qk} {w w' : World} {e : Ent} {X : Option Nat} (h : e.ok G w) (hg : w.grownBy w' X) (hX : ∀ k, e.blk = some k → X ≠ some k) : e.ok G w' := by
  cases e with
  | box b t p =>
    obtain ⟨h0, cs, hh, hp⟩ := h
    exact ⟨h0, cs, (hg.block b (Array.getElem?_eq_some_iff.1 hh).1 (fun e => hX b rfl e.symm)).trans hh, hp⟩
  | own g A n cap t sz p =>
    obtain ⟨h0, h | ⟨k, cur, rfl, hA, hn, hm, hh, hs, hp⟩⟩ := h
    · exact ⟨h0, .inl h⟩
    · exact ⟨h0, .inr ⟨k, cur, rfl, hA, hn, hm, (hg.block k (Array.getElem?_eq_some_iff.1 hh).1 (fun e => hX k rfl e.symm)).trans hh, hs, hp⟩⟩
  | mp r es clock =>
    obtain ⟨h0, hh⟩ := h
    exact ⟨h0, (hg.block r (Array.getElem?_eq_some_iff.1 hh).1 (fun e => hX r rfl e.symm)).trans hh⟩
  | it r s pos =>
    obtain ⟨h0, hh⟩ := h
    exact ⟨h0, (hg.block r (Array.getElem?_eq_some_iff.1 hh).1 (fun e => hX r rfl e.symm)).trans hh⟩
  | ob r o =>
    obtain ⟨h0, hh⟩ := h
    exact ⟨h0, (hg.block r (Array.getElem?_eq_some_iff.1 hh).1 (fun e => hX r rfl e.symm)).trans hh⟩
theorem Ent.ok.up {G G' : qk} {w : World} {e : Ent} (h : e.ok G w) (hg : GLe G G') (hn : ∀ k, e.blk = some k → G' k = none) : e.ok G' w := by
  cases e with
  | box b t p => obtain ⟨_, cs, hh, hp⟩ := h; exact ⟨hn b rfl, cs, hh, p.mono hg hp⟩
  | own g A n cap t sz p =>
    obtain ⟨_, ⟨h1, h2, h3, hp⟩ | ⟨k, cur, h1, hA, h2, hm, hh, hs, hp⟩⟩ := h
    · exact ⟨hn, .inl ⟨h1, h2, h3, p.mono hg hp⟩⟩
    · exact ⟨hn, .inr ⟨k, cur, h1, hA, h2, hm, hh, hs, p.mono hg hp⟩⟩
  | mp r es clock => obtain ⟨_, hh⟩ := h; exact ⟨hn r rfl, hh⟩
  | it r s pos => obtain ⟨_, hh⟩ := h; exact ⟨hn r rfl, hh⟩
  | ob r o => obtain ⟨_, hh⟩ := h; exact ⟨hn r rfl, hh⟩
theorem Agree.grown {G : qk} {w w' : World} {X : Option Nat} (h : Agree G w) (hg : w.grownBy w' X) (hX : ∀ k, X = some k → G k = none) : Agree G w' :=
  ⟨fun k o hk => (hg.block k (h.lt hk) (fun e => by rw [hX k e.symm] at hk; cases hk)).trans (h.at_ k o hk)⟩

section
variable {c : World} {G : qk} {w : World} {σ : List Ent}
theorem St.drop {e : Ent} (h : St c G w (e :: σ)) : St c G w σ :=
  ⟨h.os, h.tape, h.output, h.base, h.ag, fun x hx => h.ok x (List.mem_cons_of_mem _ hx), (List.pairwise_cons.1 h.ap).2⟩
theorem St.sub {σ' : List Ent} (h : St c G w σ) (hs : σ'.Sublist σ) : St c G w σ' :=
  ⟨h.os, h.tape, h.output, h.base, h.ag, fun x hx => h.ok x (hs.subset hx), h.ap.sublist hs⟩
theorem St.perm {σ' : List Ent} (h : St c G w σ) (hs : σ.Perm σ') : St c G w σ' :=
  ⟨h.os, h.tape, h.output, h.base, h.ag, fun x hx => h.ok x (hs.mem_iff.2 hx), (hs.pairwise_iff (fun hab k hb ha => hab k ha hb)).1 h.ap⟩
theorem St.turn {e e' : Ent} {w' : World} {X : Option Nat} (h : St c G w (e :: σ)) (hg : w.grownBy w' X) (hX : ∀ k, X = some k → e.blk = some k)
    (he : e'.ok G w') (hb : ∀ k, e'.blk = some k → e.blk = some k ∨ w.heap.size ≤ k) : St c G w' (e' :: σ) := by
  obtain ⟨hp, hr⟩ := List.pairwise_cons.1 h.ap
  have h0 := h.ok e (by simp)
  refine ⟨hg.os.trans h.os, hg.tape.trans h.tape, hg.output.trans h.output, h.base, h.ag.grown hg (fun k hk => h0.ghost k (hX k hk)), ?_, List.pairwise_cons.2 ⟨?_, hr⟩⟩
  · intro x hx
    rcases List.mem_cons.1 hx with rfl | hx
    · exact he
    · exact (h.ok x (List.mem_cons_of_mem _ hx)).grown hg (fun k hk e' => hp x hx k (hX k e') hk)
  · intro x hx k hk hk'
    rcases hb k hk with hb | hb
    · exact hp x hx k hb hk'
    · have := (h.ok x (List.mem_cons_of_mem _ hx)).lt k hk'
      omega
theorem St.add {e' : Ent} {w' : World} (h : St c G w σ) (hg : w.grownBy w' none) (he : e'.ok G w') (hb : ∀ k, e'.blk = some k → w.heap.size ≤ k) : St c G w' (e' :: σ) := by
  refine ⟨hg.os.trans h.os, hg.tape.trans h.tape, hg.output.trans h.output, h.base, h.ag.grown hg (fun k hk => by cases hk), ?_, List.pairwise_cons.2 ⟨?_, h.ap⟩⟩
  · intro x hx
    rcases List.mem_cons.1 hx with rfl | hx
    · exact he
    · exact (h.ok x hx).grown hg (fun k _ e => by cases e)
  · intro x hx k hk hk'
    have := (h.ok x hx).lt k hk'
    have := hb k hk
    omega
theorem St.same {w' : World} (h : St c G w σ) (hg : w.grownBy w' none) : St c G w' σ :=
  ⟨hg.os.trans h.os, hg.tape.trans h.tape, hg.output.trans h.output, h.base, h.ag.grown hg (fun k hk => by cases hk), fun x hx => (h.ok x hx).grown hg (fun k _ e => by cases e), h.ap⟩
theorem grown_refl (w : World) (X : Option Nat) : w.grownBy w X := ⟨rfl, rfl, rfl, Nat.le_refl _, fun _ _ _ => rfl⟩
theorem grown_drew (w : World) (X : Option Nat) : w.grownBy w.drew X := ⟨rfl, rfl, rfl, Nat.le_refl _, fun _ _ _ => rfl⟩
theorem St.drew (h : St c G w σ) : St c G w.drew σ := h.same (grown_drew w none)
def qk.with_ (G : qk) (k : Nat) (o : Obj) : qk := fun j => if j = k then some o else G j
theorem St.keep {e : Ent} (h : St c G w (e :: σ)) (k : Nat) (hk : e.blk = some k) (o : Obj) (ho : w.heap[k]? = some o) :
    GLe G (G.with_ k o) ∧ St c (G.with_ k o) w σ := by
  obtain ⟨hp, hr⟩ := List.pairwise_cons.1 h.ap
  have h0 := (h.ok e (by simp)).ghost k hk
  have hle : GLe G (G.with_ k o) := ⟨fun j x hj => by
    unfold qk.with_
    split
    · rename_i e; subst e; rw [h0] at hj; cases hj
    · exact hj⟩
  refine ⟨hle, h.os, h.tape, h.output, (fun k o hk => hle.le _ _ (h.base k o hk)), ⟨fun j x hj => ?_⟩, fun x hx => ?_, hr⟩
  · unfold qk.with_ at hj
    split at hj
    · rename_i e; subst e; cases hj; exact ho
    · exact h.ag.at_ j x hj
  · refine (h.ok x (List.mem_cons_of_mem _ hx)).up hle (fun j hj => ?_)
    unfold qk.with_
    split
    · rename_i e; subst e; exact absurd hj (hp x hx j hk)
    · exact (h.ok x (List.mem_cons_of_mem _ hx)).ghost j hj
theorem St.alloc {t : TypeId} {cs : List Value} {p : Pd} (h : St c G w σ) (hp : p.p G cs) : St c G (w.alloc (.cells cs.toArray t)) (.box w.heap.size t p :: σ) := by
  refine h.add (World.grownBy_alloc w _ none) ⟨h.ag.fresh (Nat.le_refl _), cs, heap_alloc_new w _, hp⟩ (fun k hk => ?_)
  cases hk
  exact Nat.le_refl _
theorem setRow_grown (w : World) (g : Nat) (cs : Array Value) : w.grownBy (w.setRow g cs) (some g) :=
  ⟨rfl, rfl, rfl, by simp, fun k _ hk => setRow_other w g k cs (fun e => hk (by rw [e]))⟩
theorem St.set {b : Nat} {t : TypeId} {p p' : Pd} {cs : List Value} (h : St c G w (.box b t p :: σ)) (hp : p'.p G cs) : St c G (w.setRow b cs.toArray) (.box b t p' :: σ) := by
  obtain ⟨h0, old, hh, _⟩ := h.ok (.box b t p) (by simp)
  exact h.turn (X := some b) (setRow_grown w b _) (fun k hk => hk) ⟨h0, cs, setRow_heap w b _ _ t _ hh, hp⟩ (fun k hk => .inl hk)
theorem perm_at {e : Ent} : ∀ {l : List Ent} {i : Nat}, l[i]? = some e → l.Perm (e :: l.eraseIdx i)
  | [], i, h => by simp at h
  | x :: l, 0, h => by simp at h; subst h; exact List.Perm.refl _
  | x :: l, i + 1, h => by
    have ih := perm_at (l := l) (i := i) (by simpa using h)
    exact (ih.cons x).trans (List.Perm.swap _ _ _)
theorem perm_set {e e' : Ent} : ∀ {l : List Ent} {i : Nat}, l[i]? = some e → (e' :: l.eraseIdx i).Perm (l.set i e')
  | [], i, h => by simp at h
  | x :: l, 0, h => List.Perm.refl _
  | x :: l, i + 1, h => by
    have ih := perm_set (e' := e') (l := l) (i := i) (by simpa using h)
    exact (List.Perm.swap _ _ _).trans (ih.cons x)
theorem St.front {e : Ent} {i : Nat} (h : St c G w σ) (hi : σ[i]? = some e) : St c G w (e :: σ.eraseIdx i) := h.perm (perm_at hi)
theorem St.turnAt {e e' : Ent} {i : Nat} {w' : World} {X : Option Nat} (h : St c G w σ) (hi : σ[i]? = some e) (hg : w.grownBy w' X) (hX : ∀ k, X = some k → e.blk = some k)
    (he : e'.ok G w') (hb : ∀ k, e'.blk = some k → e.blk = some k ∨ w.heap.size ≤ k) : St c G w' (σ.set i e') :=
  ((h.front hi).turn hg hX he hb).perm (perm_set hi)
theorem St.okAt {e : Ent} {i : Nat} (h : St c G w σ) (hi : σ[i]? = some e) : e.ok G w := h.ok e (List.mem_of_getElem? hi)
end

structure Ty (P : Program) (t : TypeId) (sz : Nat) (agg : Bool) : Prop where
  size : (P.info? t).map (·.size) = some sz
  form : (P.underlying t).map (fun d => match d with | .struct _ | .array _ _ => true | _ => false) = some agg
section
variable {P : Program} {w : World}
theorem Ty.run_size {t : TypeId} {sz : Nat} {agg : Bool} (h : Ty P t sz agg) (w : World) : (sizeOf t).run P w = .ok sz w := by
  have := h.size
  cases hi : P.info? t with
  | none => simp [hi] at this
  | some i => simp [hi] at this; simp [sizeOf, typeInfo, hi, this]
theorem Ty.run_agg {t : TypeId} {sz : Nat} {agg : Bool} (h : Ty P t sz agg) (w : World) : (isAgg t).run P w = .ok agg w := by
  have hf := h.form
  cases hd : P.underlying t with
  | none => simp [hd] at hf
  | some d =>
    simp only [hd, Option.map_some, Option.some.injEq] at hf
    unfold isAgg
    rw [Sem.run_bind, run_underlying hd w]
    cases d <;> simp_all
theorem run_loadVar_K {α : Type} {K : Kd α} {t : TypeId} (ht : Ty P t K.sz K.agg) {G : qk} {cs : List Value} {x : α} (hr : K.rd G cs x) (a : Addr)
    (hc : ∀ i v, cs[i]? = some v → w.cell? (a.add i) = some v) : (loadVar t a).run P w = .ok (unc K.agg cs) w := by
  unfold loadVar
  rw [Sem.run_bind, ht.run_agg w]
  cases ha : K.agg with
  | true =>
    have hl := run_loadCells_list (P := P) w a cs hc
    rw [K.len hr] at hl
    simp [ht.run_size w, hl, unc]
  | false =>
    have hl : cs.length = 1 := (K.len hr).trans (K.sz1 ha)
    match cs, hl with
    | [v], _ =>
      have h0 := hc 0 v rfl
      rw [show a.add 0 = a from rfl] at h0
      simp [unc, h0]
theorem run_storeVar_K {β : Type} {L : Kd β} {t tb : TypeId} (ht : Ty P t L.sz L.agg) {G : qk} {v : Value} {y : β} (hv : L.V G v y) (b off : Nat) (cs : List Value)
    (hb : w.heap[b]? = some (.cells cs.toArray tb (0, 0))) (hf : off + L.sz ≤ cs.length) :
    (storeVar t ⟨b, off, none⟩ v).run P w = .ok () (w.setRow b (cs.take off ++ v.cells.toList ++ cs.drop (off + v.cells.toList.length)).toArray) := by
  have hr := hv.cells
  have hl := L.len hr
  have hst := run_storeCells_at P b off tb v.cells.toList 0 cs.toArray w hb (by simp at hl ⊢; omega) (L.one hr)
  simp only [Nat.add_zero] at hst
  unfold storeVar
  rw [Sem.run_bind, ht.run_size w]
  have hne : ¬ (v.cells.size ≠ L.sz) := by simp at hl ⊢; exact hl
  simp only [Result.andThen_ok, if_neg hne, hst]
end
end Go.Proofs.YtadlndnagfnlgaaGreatDoor.W
