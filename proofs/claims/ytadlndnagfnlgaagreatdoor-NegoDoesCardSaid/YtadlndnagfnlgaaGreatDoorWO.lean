/- Words for rows: what an argument reads as, told by its kind; the world behind. No program in it. -/
import Derived.Test.YtadlndnagfnlgaaGreatDoorW13
import Derived.ChangeArms
import Derived.OpenShut
import Derived.WideShapes
import Derived.Below
import Derived.Lib.LaidTab
set_option linter.unusedSimpArgs false
set_option linter.unusedVariables false
namespace Go.Proofs.YtadlndnagfnlgaaGreatDoor.W
open Go Go.RowKit
abbrev ofW (w : World) : qk := fun k => w.heap[k]?
theorem gcell_of {w : World} {a : Addr} {v : Value} (h : w.cell? a = some v) : gcell (ofW w) a = some v := by
  unfold World.cell? at h
  unfold gcell
  split at h
  · rename_i c t f hg
    rw [show ofW w a.block = w.heap[a.block]? from rfl, hg]
    exact h
  · cases h
theorem cells_of {w : World} {base n : Nat} {a : Addr} {cs : List Value} (h : w.cells? base a n = some cs) : cs.length = n ∧ ∀ (i : Nat) (v : Value), cs[i]? = some v → gcell (ofW w) (a.add i) = some v := by
  obtain ⟨_, hl, hc⟩ := World.cells?_some h
  exact ⟨hl, fun i v hv => gcell_of (by rw [hc i (by have := (List.getElem?_eq_some_iff.1 hv).1; omega)]; exact hv)⟩
theorem list_of {α : Type} {p : Nat → α → Prop} : ∀ {n : Nat}, (∀ i, i < n → ∃ y, p i y) → ∃ l : List α, l.length = n ∧ ∀ i y, l[i]? = some y → p i y
  | 0, _ => ⟨[], rfl, fun i y h => by simp at h⟩
  | n + 1, h => by
    obtain ⟨l, hl, hp⟩ := list_of (n := n) (fun i hi => h i (by omega))
    obtain ⟨y, hy⟩ := h n (by omega)
    refine ⟨l ++ [y], by simp [hl], fun i z hz => ?_⟩
    rw [List.getElem?_append] at hz
    split at hz
    · exact hp i z hz
    · rename_i hi
      have hi2 : i = n := by
        have := (List.getElem?_eq_some_iff.1 hz).1
        simp at this
        omega
      subst hi2
      simp [hl] at hz
      subst hz
      exact hy
variable {P : Program}
structure Opn {α : Type} (P : Program) (t : TypeId) (K : Kd α) (wf : α → Prop) : Prop where
  at_ : ∀ {H : Type} {enc : TypeId × Value → H} {w : World} {base : Nat} {spare : Nat → Bool} {held : Bool} {fuel : Nat} {cs : List Value} {x : DataW H × List MemPlace}, DataW.trod enc P w base spare held fuel t cs = some x → ∃ y, K.rd (ofW w) cs y ∧ wf y
theorem Opn.weak {α : Type} {t : TypeId} {K : Kd α} {wf wf' : α → Prop} (h : Opn P t K wf) (hw : ∀ x, wf x → wf' x) : Opn P t K wf' := ⟨fun h0 => by obtain ⟨y, h1, h2⟩ := h.at_ h0; exact ⟨y, h1, hw y h2⟩⟩
theorem Opn.int {t : TypeId} {k : IntKind} (hu : P.underlying t = some (.int k)) : Opn P t (Kd.int k) (fun n => (Lit.int k n).wf = true) := ⟨fun h => by
  obtain ⟨n, rfl, _, hw⟩ := DataW.trod_int hu h
  exact ⟨n, rfl, hw⟩⟩
theorem Opn.bool {t : TypeId} (hu : P.underlying t = some .bool) : Opn P t Kd.bool (fun _ => True) := ⟨fun h => by
  obtain ⟨n, rfl, _⟩ := DataW.trod_bool hu h
  exact ⟨n, rfl, trivial⟩⟩
theorem Opn.str {t : TypeId} (hu : P.underlying t = some .string) : Opn P t Kd.str (fun s => s.size ≤ maxLen) := ⟨fun h => by
  obtain ⟨n, rfl, _, hw⟩ := DataW.trod_string hu h
  exact ⟨n, rfl, hw⟩⟩
theorem Opn.slice {α : Type} {t e : TypeId} {K : Kd α} {wf : α → Prop} (hu : P.underlying t = some (.slice e)) (hz : P.cellsOf e = K.sz) (h : Opn P e K wf) : Opn P t (Kd.slice K) (fun l => l.length ≤ maxLen ∧ ∀ x, x ∈ l → wf x) := ⟨fun {H enc w base spare held fuel cs x} h0 => by
  rcases DataW.trod_slice hu h0 with ⟨rfl, _⟩ | ⟨a, len, cap, elems, rest, n, _, rfl, _, hb, hl, hc, hel, helem, _⟩
  · exact ⟨[], ⟨none, 0, rfl, SlR.nil _ _⟩, by simp, fun x hx => by simp at hx⟩
  · have key : ∀ i, i < len → ∃ y, (∃ cs, K.rd (ofW w) cs y ∧ ∀ j v, cs[j]? = some v → gcell (ofW w) (a.add (i * K.sz + j)) = some v) ∧ wf y := fun i hi => by
      have hi2 := helem i hi
      rw [List.getElem?_eq_getElem (by omega), hz] at hi2
      cases hcs : w.cells? base (a.add (i * K.sz)) K.sz with
      | none => rw [hcs] at hi2; cases hi2
      | some cs =>
        rw [hcs] at hi2
        obtain ⟨y, hy, hw⟩ := h.at_ (x := elems[i]'(by omega)) hi2
        exact ⟨y, ⟨cs, hy, fun j v hv => by have := (cells_of hcs).2 j v hv; rwa [add_add] at this⟩, hw⟩
    obtain ⟨l, hll, hp⟩ := list_of key
    refine ⟨l, ⟨some a, cap, by rw [hll], by omega, (fun e => by cases e), fun a' ha' j x hx => ?_⟩, by omega, fun x hx => ?_⟩
    · cases ha'
      exact (hp j x hx).1
    · obtain ⟨j, hj⟩ := List.getElem?_of_mem hx
      exact (hp j x hj).2⟩
theorem rowRd_of {α : Type} {K : Kd α} {G : qk} : ∀ (l : List α) (cs : List Value), cs.length = l.length * K.sz → (∀ i y, l[i]? = some y → K.rd G ((cs.drop (i * K.sz)).take K.sz) y) → zN K G cs l
  | [], cs, h, _ => List.eq_nil_of_length_eq_zero (by simpa using h)
  | y :: l, cs, h, hp => by
    have h0 := hp 0 y rfl
    simp only [Nat.zero_mul, List.drop_zero] at h0
    refine ⟨cs.take K.sz, cs.drop K.sz, (List.take_append_drop _ _).symm, h0, rowRd_of l _ ?_ fun i z hz => ?_⟩
    · rw [List.length_drop, h, List.length_cons, Nat.add_mul]; omega
    · have := hp (i + 1) z (by simpa using hz)
      rw [List.drop_drop]
      rwa [show (i + 1) * K.sz = K.sz + i * K.sz by rw [Nat.add_mul]; omega] at this
theorem Opn.arr {α : Type} {t e m : Nat} {K : Kd α} {wf : α → Prop} (hu : P.underlying t = some (.array m e)) (hz : P.cellsOf e = K.sz) (hct : P.cellsOf t = m * K.sz) (h : Opn P e K wf) : Opn P t (Kd.arr m K) (fun l => l.length = m ∧ ∀ x, x ∈ l → wf x) := ⟨fun {H enc w base spare held fuel cs x} h0 => by
  obtain ⟨xs, n, _, _, hl, hxs, hp⟩ := DataW.trod_array hu h0
  have key : ∀ i, i < m → ∃ y, K.rd (ofW w) ((cs.drop (i * K.sz)).take K.sz) y ∧ wf y := fun i hi => by
    have := hp i hi
    rw [hz, List.getElem?_eq_getElem (by omega)] at this
    exact h.at_ this
  obtain ⟨l, hll, hp2⟩ := list_of key
  refine ⟨l, ⟨hll, rowRd_of l cs (by rw [hl, hct, hll]) (fun i y hy => (hp2 i y hy).1)⟩, hll, fun x hx => ?_⟩
  obtain ⟨j, hj⟩ := List.getElem?_of_mem hx
  exact (hp2 j x hj).2⟩
structure OpnF {α : Type} (P : Program) (off : Nat) (l : List (TypeId × Nat)) (K : Kd α) (wf : α → Prop) : Prop where
  at_ : ∀ {H : Type} {enc : TypeId × Value → H} {w : World} {base : Nat} {spare : Nat → Bool} {held : Bool} {n : Nat} {cs : List Value}, cs.length = off + K.sz →
    (∀ p, p ∈ l → ∃ x, DataW.trod enc P w base spare held n p.1 ((cs.drop p.2).take (P.cellsOf p.1)) = some x) → ∃ y, K.rd (ofW w) (cs.drop off) y ∧ wf y
theorem OpnF.last {α : Type} {K : Kd α} {wf : α → Prop} {off t : Nat} (hz : P.cellsOf t = K.sz) (h : Opn P t K wf) : OpnF P off [(t, off)] (Kd.last K) wf := ⟨fun {H enc w base spare held n cs} hl hp => by
  obtain ⟨x, hx⟩ := hp (t, off) (by simp)
  have hl : cs.length = off + K.sz := hl
  simp only [hz] at hx
  rw [List.take_of_length_le (by rw [List.length_drop]; omega)] at hx
  exact h.at_ hx⟩
theorem OpnF.cons {α β : Type} {K : Kd α} {L : Kd β} {wf : α → Prop} {wf' : β → Prop} {off t : Nat} {l : List (TypeId × Nat)} (hz : P.cellsOf t = K.sz) (h : Opn P t K wf) (hr : OpnF P (off + K.sz) l L wf') : OpnF P off ((t, off) :: l) (Kd.pair K L) (fun x => wf x.1 ∧ wf' x.2) := ⟨fun {H enc w base spare held n cs} hl hp => by
  obtain ⟨x, hx⟩ := hp (t, off) (by simp)
  have hl : cs.length = off + (K.sz + L.sz) := hl
  simp only [hz] at hx
  obtain ⟨y, hy, hw⟩ := h.at_ hx
  obtain ⟨z, hz2, hw2⟩ := hr.at_ (cs := cs) (enc := enc) (w := w) (base := base) (spare := spare) (held := held) (n := n) (by omega) (fun p hp' => hp p (List.mem_cons_of_mem _ hp'))
  exact ⟨(y, z), ⟨(cs.drop off).take K.sz, cs.drop (off + K.sz), by rw [← List.drop_drop, List.take_append_drop], hy, hz2⟩, hw, hw2⟩⟩
theorem OpnF.iso {α β : Type} {K : Kd β} {wf : β → Prop} {off : Nat} {l : List (TypeId × Nat)} {f : α → β} (g : β → α) (hg : ∀ y, f (g y) = y) (h : OpnF P off l K wf) : OpnF P off l (Kd.iso K f) (fun x => wf (f x)) := ⟨fun {H enc w base spare held n cs} hl hp => by
  obtain ⟨y, hy, hw⟩ := h.at_ (cs := cs) hl hp
  exact ⟨g y, by show K.rd _ _ (f (g y)); rw [hg]; exact hy, by rw [hg]; exact hw⟩⟩
theorem Opn.struct {α : Type} {t : TypeId} {K : Kd α} {wf : α → Prop} {l : List (TypeId × Nat)} (hf : (P.underlying t).map (fun d => match d with | .struct fs => fs.toList.map fun f => (f.type, f.offset) | _ => []) = some l) (hs : (P.underlying t).map (fun d => match d with | .struct _ => true | _ => false) = some true)
    (hct : P.cellsOf t = K.sz) (h : OpnF P 0 l K wf) : Opn P t K wf := ⟨fun {H enc w base spare held fuel cs x} h0 => by
  cases hu : P.underlying t with
  | none => rw [hu] at hs; cases hs
  | some d =>
    cases d <;> simp only [hu, Option.map_some, Option.some.injEq, Bool.false_eq_true] at hs hf
    rename_i fs
    obtain ⟨xs, n, _, _, hl, hxs, hp⟩ := DataW.trod_struct hu h0
    have := h.at_ (cs := cs) (enc := enc) (w := w) (base := base) (spare := spare) (held := held) (n := n) (by rw [hl, hct]; omega) (fun p hp' => by
      rw [← hf] at hp'
      obtain ⟨f, hfm, rfl⟩ := List.mem_map.1 hp'
      obtain ⟨i, hi⟩ := List.getElem?_of_mem hfm
      have h1 := hp i f (by simpa using hi)
      have hlt : i < xs.length := by
        have := (List.getElem?_eq_some_iff.1 hi).1
        simp at this
        omega
      rw [List.getElem?_eq_getElem hlt] at h1
      exact ⟨_, h1⟩)
    simpa using this⟩
section
variable {H : Type} {enc : TypeId × Value → H} {W : World} {base b0 : Nat} {spare : Nat → Bool} {held : Bool} {r : Reach} {t : TypeId} {v : Value} {d : DataW H} {p : List MemPlace}
theorem Opn.agg {α : Type} {K : Kd α} {wf : α → Prop} (o : Opn P t K wf) (hs : (P.underlying t).map (fun d => match d with | .struct _ => true | .array _ _ => true | _ => false) = some true) (ha : K.agg = true) (hv : Value.okWide P W r b0 t v) (h : DataW.Trod enc P W base spare held t v d p) : ∃ y, K.V (ofW W) v y ∧ wf y := by
  obtain ⟨fuel, hf⟩ := h
  obtain ⟨y, hy, hw⟩ := o.at_ hf
  have : ∃ cs, v = .agg cs := by
    unfold Value.okWide at hv
    split at hv
    · obtain ⟨cs, e, _⟩ := hv; exact ⟨cs, e⟩
    · obtain ⟨cs, e, _⟩ := hv; exact ⟨cs, e⟩
    · rename_i h1 h2
      cases hu : P.underlying t with
      | none => rw [hu] at hs; cases hs
      | some d => cases d <;> simp_all
  obtain ⟨cs, rfl⟩ := this
  exact ⟨y, ⟨cs.toList, by simp [unc, ha], by simpa [Value.cells] using hy⟩, hw⟩
theorem Opn.row {α : Type} {e : TypeId} {K : Kd α} {wf : List α → Prop} (o : Opn P t (Kd.slice K) wf) (hs : P.underlying t = some (.slice e)) (hv : Value.okWide P W r b0 t v) (h : DataW.Trod enc P W base spare held t v d p) : ∃ A c l, v = .slice A l.length c ∧ SlR K (ofW W) A c l ∧ wf l := by
  obtain ⟨fuel, hf⟩ := h
  obtain ⟨l, ⟨A, c, he, hr⟩, hw⟩ := o.at_ hf
  obtain ⟨a, len, cap, rfl⟩ := WideShapes.okWide_slice hs hv
  simp [Value.cells] at he
  obtain ⟨rfl, rfl, rfl⟩ := he
  exact ⟨_, _, _, rfl, hr, hw⟩
end
theorem St.below {c w : World} {G : qk} {σ : List Ent} (h : St c G w σ) : Below c.heap.size c w := by
  have hb : ∀ k, k < c.heap.size → w.heap[k]? = c.heap[k]? := fun k hk => by
    have e : c.heap[k]? = some c.heap[k] := Array.getElem?_eq_getElem hk
    rw [e]
    exact h.ag.at_ _ _ (h.base k _ e)
  refine ⟨h.os, h.tape, h.output, ?_, hb⟩
  cases hn : c.heap.size with
  | zero => omega
  | succ n =>
    have := hb n (by omega)
    rw [show c.heap[n]? = some (c.heap[n]'(by omega)) from Array.getElem?_eq_getElem (by omega)] at this
    have := (Array.getElem?_eq_some_iff.1 this).1
    omega
theorem St.start (w : World) : St w (ofW w) w [] := ⟨rfl, rfl, rfl, fun _ _ h => h, ⟨fun _ _ h => h⟩, fun e he => (by cases he), List.Pairwise.nil⟩
theorem tabIs_of_second {W : World} {name name0 : String} {d0 : DataW Unit} {k : IntKind} {zs : List Int} {rest : List (String × DataW Unit)} {t e n : Nat}
    (hgt : (P.globalNamed name).bind (fun g => (P.globals[g]?).map (·.type)) = some t) (ht : P.underlying t = some (.array n e)) (he : P.underlying e = some (.int k)) (hce : P.cellsOf e = 1) (hct : P.cellsOf t = n)
    (h : laidMet P ((name0, d0) :: (name, Lib.tabData k zs) :: rest) W) : Lib.TabIs P W name k zs := by
  obtain ⟨ps, ⟨_, _, _, _, _, _, _, _, _, _, ⟨g', t', cs, fuel, p, q, hg', ht', hvar, hd, _, _⟩, _⟩, _⟩ := h
  rw [hg'] at hgt
  obtain rfl := Option.some.inj (hgt.symm.trans ht')
  unfold Lib.TabIs
  rw [hvar, ← Lib.cells_of_tab ht he hce hct hd]
end Go.Proofs.YtadlndnagfnlgaaGreatDoor.W
