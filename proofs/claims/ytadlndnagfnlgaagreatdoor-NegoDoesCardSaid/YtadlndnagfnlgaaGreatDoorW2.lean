/- Words for walks, part 2: memory that stays (a ghost), kinds of plain data, lenses into structs, and the state of owned blocks. No program in it. -/
import Derived.Test.YtadlndnagfnlgaaGreatDoorW1
set_option linter.unusedSimpArgs false
set_option linter.unusedVariables false
namespace Go.Proofs.YtadlndnagfnlgaaGreatDoor.W
open Go

abbrev qk := Nat → Option Obj
structure GLe (G G' : qk) : Prop where le : ∀ k o, G k = some o → G' k = some o
theorem GLe.refl (G : qk) : GLe G G := ⟨fun _ _ h => h⟩
theorem GLe.trans {G G' G'' : qk} (h : GLe G G') (h' : GLe G' G'') : GLe G G'' := ⟨fun k o hk => h'.le k o (h.le k o hk)⟩
def gcell (G : qk) (a : Addr) : Option Value :=
  match G a.block with
  | some (.cells c _ _) => if a.spot.isSome then none else c[a.off]?
  | _ => none
theorem gcell_mono {G G' : qk} (h : GLe G G') {a : Addr} {v : Value} (hv : gcell G a = some v) : gcell G' a = some v := by
  unfold gcell at hv ⊢
  split at hv
  · rename_i c t f hg
    rw [h.le _ _ hg]
    exact hv
  · cases hv
structure Agree (G : qk) (w : World) : Prop where at_ : ∀ k o, G k = some o → w.heap[k]? = some o
theorem Agree.cell {G : qk} {w : World} (h : Agree G w) {a : Addr} {v : Value} (hv : gcell G a = some v) : w.cell? a = some v := by
  unfold gcell at hv
  split at hv
  · rename_i c t f hg
    unfold World.cell?
    rw [h.at_ _ _ hg]
    exact hv
  · cases hv
theorem Agree.lt {G : qk} {w : World} (h : Agree G w) {k : Nat} {o : Obj} (hk : G k = some o) : k < w.heap.size :=
  (Array.getElem?_eq_some_iff.1 (h.at_ k o hk)).1
theorem Agree.fresh {G : qk} {w : World} (h : Agree G w) {k : Nat} (hk : w.heap.size ≤ k) : G k = none := by
  cases hg : G k with
  | none => rfl
  | some o => exact absurd (h.lt hg) (by omega)

def unc (agg : Bool) (cs : List Value) : Value := if agg then .agg cs.toArray else cs.headD undef
structure Kd (α : Type) where
  sz : Nat
  agg : Bool
  rd : qk → List Value → α → Prop
  len : ∀ {G cs x}, rd G cs x → cs.length = sz
  mono : ∀ {G G' cs x}, GLe G G' → rd G cs x → rd G' cs x
  one : ∀ {G cs x}, rd G cs x → ∀ v, v ∈ cs → v.oneCell' = true
  sz1 : agg = false → sz = 1
def Kd.V {α : Type} (K : Kd α) (G : qk) (v : Value) (x : α) : Prop := ∃ cs, v = unc K.agg cs ∧ K.rd G cs x
theorem Kd.V.mono {α : Type} {K : Kd α} {G G' : qk} {v : Value} {x : α} (h : K.V G v x) (hg : GLe G G') : K.V G' v x := by
  obtain ⟨cs, e, hr⟩ := h
  exact ⟨cs, e, K.mono hg hr⟩
theorem cells_one {v : Value} (h : v.oneCell' = true) : v.cells = #[v] := by cases v <;> first | rfl | (simp [Value.oneCell'] at h)
theorem unc_cells {α : Type} {K : Kd α} {G : qk} {cs : List Value} {x : α} (h : K.rd G cs x) : (unc K.agg cs).cells = cs.toArray := by
  unfold unc
  cases ha : K.agg with
  | true => rfl
  | false =>
    have hl : cs.length = 1 := (K.len h).trans (K.sz1 ha)
    match cs, hl with
    | [v], _ => simpa using cells_one (K.one h v (by simp))
theorem Kd.V.cells {α : Type} {K : Kd α} {G : qk} {v : Value} {x : α} (h : K.V G v x) : K.rd G v.cells.toList x := by
  obtain ⟨cs, rfl, hr⟩ := h
  rw [unc_cells hr]
  exact hr
structure Det {α : Type} (K : Kd α) (enc : α → Value) : Prop where
  eq : ∀ {G cs x}, K.rd G cs x → cs = [enc x]
  back : ∀ {G x}, K.rd G [enc x] x
  flat : K.agg = false
theorem Det.V {α : Type} {K : Kd α} {enc : α → Value} (h : Det K enc) {G : qk} {v : Value} {x : α} (hv : K.V G v x) : v = enc x := by
  obtain ⟨cs, rfl, hr⟩ := hv
  rw [h.eq hr]
  simp [unc, h.flat]
theorem Det.toV {α : Type} {K : Kd α} {enc : α → Value} (h : Det K enc) (G : qk) (x : α) : K.V G (enc x) x := ⟨[enc x], by simp [unc, h.flat], h.back⟩

def Kd.det {α : Type} (enc : α → Value) (h1 : ∀ x, (enc x).oneCell' = true) : Kd α where
  sz := 1
  agg := false
  rd _ cs x := cs = [enc x]
  len h := by rw [h]; rfl
  mono _ h := h
  one h v hv := by rw [h] at hv; simp at hv; rw [hv]; exact h1 _
  sz1 _ := rfl
theorem det_det {α : Type} (enc : α → Value) (h1 : ∀ x, (enc x).oneCell' = true) : Det (Kd.det enc h1) enc := ⟨fun h => h, rfl, rfl⟩
def Kd.int (k : IntKind) : Kd Int := Kd.det (fun n => .int k n) (fun _ => rfl)
def Kd.bool : Kd Bool := Kd.det (fun b => .bool b) (fun _ => rfl)
def Kd.str : Kd ByteArray := Kd.det (fun s => .string s) (fun _ => rfl)
theorem qz (k : IntKind) : Det (Kd.int k) (fun n => .int k n) := det_det _ _
theorem dBool : Det Kd.bool (fun b => .bool b) := det_det _ _
theorem dStr : Det Kd.str (fun s => .string s) := det_det _ _
def Kd.val : Kd Value where
  sz := 1
  agg := false
  rd _ cs x := cs = [x] ∧ x.oneCell' = true
  len h := by rw [h.1]; rfl
  mono _ h := h
  one h v hv := by rw [h.1] at hv; simp at hv; rw [hv]; exact h.2
  sz1 _ := rfl

def SlR {α : Type} (K : Kd α) (G : qk) (A : Option Addr) (c : Nat) (l : List α) : Prop :=
  l.length ≤ c ∧ (A = none → l = [] ∧ c = 0) ∧ ∀ a, A = some a → ∀ j x, l[j]? = some x → ∃ cs, K.rd G cs x ∧ ∀ i v, cs[i]? = some v → gcell G (a.add (j * K.sz + i)) = some v
theorem SlR.mono {α : Type} {K : Kd α} {G G' : qk} {A : Option Addr} {c : Nat} {l : List α} (h : SlR K G A c l) (hg : GLe G G') : SlR K G' A c l :=
  ⟨h.1, h.2.1, fun a ha j x hx => by
    obtain ⟨cs, hr, hc⟩ := h.2.2 a ha j x hx
    exact ⟨cs, K.mono hg hr, fun i v hv => gcell_mono hg (hc i v hv)⟩⟩
def Kd.slice {α : Type} (K : Kd α) : Kd (List α) where
  sz := 1
  agg := false
  rd G cs l := ∃ A c, cs = [.slice A l.length c] ∧ SlR K G A c l
  len h := by obtain ⟨A, c, rfl, _⟩ := h; rfl
  mono hg h := by obtain ⟨A, c, e, hs⟩ := h; exact ⟨A, c, e, hs.mono hg⟩
  one h v hv := by obtain ⟨A, c, rfl, _⟩ := h; simp at hv; rw [hv]; rfl
  sz1 _ := rfl
theorem qN {α : Type} {K : Kd α} {G : qk} {v : Value} {l : List α} (h : (Kd.slice K).V G v l) : ∃ A c, v = .slice A l.length c ∧ SlR K G A c l := by
  obtain ⟨cs, rfl, A, c, rfl, hs⟩ := h
  exact ⟨A, c, rfl, hs⟩
theorem zw {α : Type} {K : Kd α} {G : qk} {A : Option Addr} {c : Nat} {l : List α} (h : SlR K G A c l) : (Kd.slice K).V G (.slice A l.length c) l :=
  ⟨[.slice A l.length c], rfl, A, c, rfl, h⟩
theorem SlR.nil {α : Type} (K : Kd α) (G : qk) : SlR K G none 0 ([] : List α) := ⟨Nat.le_refl _, fun _ => ⟨rfl, rfl⟩, fun a ha => by cases ha⟩

def Kd.pair {α β : Type} (K : Kd α) (L : Kd β) : Kd (α × β) where
  sz := K.sz + L.sz
  agg := true
  rd G cs x := ∃ c1 c2, cs = c1 ++ c2 ∧ K.rd G c1 x.1 ∧ L.rd G c2 x.2
  len h := by obtain ⟨c1, c2, rfl, h1, h2⟩ := h; rw [List.length_append, K.len h1, L.len h2]
  mono hg h := by obtain ⟨c1, c2, e, h1, h2⟩ := h; exact ⟨c1, c2, e, K.mono hg h1, L.mono hg h2⟩
  one h v hv := by
    obtain ⟨c1, c2, rfl, h1, h2⟩ := h
    rcases List.mem_append.1 hv with h | h
    · exact K.one h1 v h
    · exact L.one h2 v h
  sz1 h := by cases h
def Kd.last {α : Type} (K : Kd α) : Kd α where
  sz := K.sz
  agg := true
  rd := K.rd
  len := K.len
  mono := K.mono
  one := K.one
  sz1 h := by cases h
def Kd.iso {α β : Type} (K : Kd β) (f : α → β) : Kd α where
  sz := K.sz
  agg := true
  rd G cs x := K.rd G cs (f x)
  len h := K.len h
  mono hg h := K.mono hg h
  one h := K.one h
  sz1 h := by cases h
def zN {α : Type} (K : Kd α) (G : qk) : List Value → List α → Prop
  | cs, [] => cs = []
  | cs, x :: l => ∃ c1 c2, cs = c1 ++ c2 ∧ K.rd G c1 x ∧ zN K G c2 l
theorem zN.len {α : Type} {K : Kd α} {G : qk} : ∀ {l : List α} {cs : List Value}, zN K G cs l → cs.length = l.length * K.sz
  | [], cs, h => by rw [show cs = [] from h]; simp
  | x :: l, cs, h => by
    obtain ⟨c1, c2, rfl, h1, h2⟩ := h
    rw [List.length_append, K.len h1, zN.len h2, List.length_cons, Nat.add_mul]
    omega
theorem zN.mono {α : Type} {K : Kd α} {G G' : qk} (hg : GLe G G') : ∀ {l : List α} {cs : List Value}, zN K G cs l → zN K G' cs l
  | [], _, h => h
  | _ :: _, _, h => by
    obtain ⟨c1, c2, e, h1, h2⟩ := h
    exact ⟨c1, c2, e, K.mono hg h1, zN.mono hg h2⟩
theorem zN.one {α : Type} {K : Kd α} {G : qk} : ∀ {l : List α} {cs : List Value}, zN K G cs l → ∀ v, v ∈ cs → v.oneCell' = true
  | [], cs, h, v, hv => by rw [show cs = [] from h] at hv; simp at hv
  | x :: l, cs, h, v, hv => by
    obtain ⟨c1, c2, rfl, h1, h2⟩ := h
    rcases List.mem_append.1 hv with h | h
    · exact K.one h1 v h
    · exact zN.one h2 v h
theorem zN.append {α : Type} {K : Kd α} {G : qk} : ∀ {l : List α} {cs : List Value} {m : List α} {ds : List Value}, zN K G cs l → zN K G ds m → zN K G (cs ++ ds) (l ++ m)
  | [], cs, m, ds, h, h' => by rw [show cs = [] from h]; exact h'
  | x :: l, cs, m, ds, h, h' => by
    obtain ⟨c1, c2, rfl, h1, h2⟩ := h
    exact ⟨c1, c2 ++ ds, by rw [List.append_assoc], h1, zN.append h2 h'⟩
theorem zN.at_ {α : Type} {K : Kd α} {G : qk} : ∀ {l : List α} {cs : List Value}, zN K G cs l → ∀ j x, l[j]? = some x → ∃ c, K.rd G c x ∧ ∀ i v, c[i]? = some v → cs[j * K.sz + i]? = some v
  | [], _, _, j, x, hx => by simp at hx
  | y :: l, cs, h, j, x, hx => by
    obtain ⟨c1, c2, rfl, h1, h2⟩ := h
    cases j with
    | zero =>
      simp at hx
      subst hx
      refine ⟨c1, h1, fun i v hv => ?_⟩
      rw [Nat.zero_mul, Nat.zero_add, List.getElem?_append_left (List.getElem?_eq_some_iff.1 hv).1]
      exact hv
    | succ j =>
      obtain ⟨c, hc, hi⟩ := zN.at_ h2 j x (by simpa using hx)
      refine ⟨c, hc, fun i v hv => ?_⟩
      rw [List.getElem?_append_right (by rw [K.len h1, Nat.add_mul]; omega), K.len h1, show (j + 1) * K.sz + i - K.sz = j * K.sz + i by rw [Nat.add_mul]; omega]
      exact hi i v hv
def Kd.arr {α : Type} (n : Nat) (K : Kd α) : Kd (List α) where
  sz := n * K.sz
  agg := true
  rd G cs l := l.length = n ∧ zN K G cs l
  len h := by rw [zN.len h.2, h.1]
  mono hg h := ⟨h.1, zN.mono hg h.2⟩
  one h := zN.one h.2
  sz1 h := by cases h

structure Lens {α β : Type} (K : Kd α) (off : Nat) (L : Kd β) (get : α → β) (put : α → β → α) : Prop where
  fits : off + L.sz ≤ K.sz
  get : ∀ {G cs x}, K.rd G cs x → L.rd G ((cs.drop off).take L.sz) (get x)
  put : ∀ {G cs x ys y}, K.rd G cs x → L.rd G ys y → K.rd G (cs.take off ++ ys ++ cs.drop (off + ys.length)) (put x y)
theorem Lens.id {α : Type} (K : Kd α) : Lens K 0 K (fun x => x) (fun _ y => y) where
  fits := by omega
  get h := by rw [List.drop_zero, List.take_of_length_le (Nat.le_of_eq (K.len h))]; exact h
  put h h' := by
    have : K.sz ≤ K.sz := Nat.le_refl _
    rw [List.take_zero, List.nil_append, List.drop_of_length_le (by rw [K.len h, K.len h']; omega), List.append_nil]
    exact h'
theorem Lens.fst {α β γ : Type} {K : Kd α} {L : Kd γ} {o : Nat} {g : α → γ} {p : α → γ → α} (M : Kd β) (l : Lens K o L g p) :
    Lens (K.pair M) o L (fun x => g x.1) (fun x y => (p x.1 y, x.2)) where
  fits := by have := l.fits; show o + L.sz ≤ K.sz + M.sz; omega
  get h := by
    obtain ⟨c1, c2, rfl, h1, h2⟩ := h
    have hf := l.fits
    have := l.get h1
    have hl := K.len h1
    rw [List.drop_append_of_le_length (by omega), List.take_append_of_le_length (by rw [List.length_drop]; omega)]
    exact this
  put h h' := by
    obtain ⟨c1, c2, rfl, h1, h2⟩ := h
    have hf := l.fits
    have hl := K.len h1
    have hy := L.len h'
    refine ⟨_, c2, ?_, l.put h1 h', h2⟩
    rw [List.take_append_of_le_length (by omega), List.drop_append_of_le_length (by omega), List.append_assoc, List.append_assoc, List.append_assoc]
theorem Lens.snd {α β γ : Type} {M : Kd β} {L : Kd γ} {o : Nat} {g : β → γ} {p : β → γ → β} (K : Kd α) (l : Lens M o L g p) :
    Lens (K.pair M) (K.sz + o) L (fun x => g x.2) (fun x y => (x.1, p x.2 y)) where
  fits := by have := l.fits; show K.sz + o + L.sz ≤ K.sz + M.sz; omega
  get h := by
    obtain ⟨c1, c2, rfl, h1, h2⟩ := h
    have := l.get h2
    have hl := K.len h1
    rw [List.drop_append, List.drop_of_length_le (by omega), List.nil_append, show K.sz + o - c1.length = o by omega]
    exact this
  put h h' := by
    obtain ⟨c1, c2, rfl, h1, h2⟩ := h
    have hl := K.len h1
    refine ⟨c1, _, ?_, h1, l.put h2 h'⟩
    rw [List.take_append, List.take_of_length_le (by omega), show K.sz + o - c1.length = o by omega, List.drop_append, List.drop_of_length_le (by omega), List.nil_append]
    simp only [List.append_assoc]
    congr 4
    omega
theorem Lens.last {α γ : Type} {K : Kd α} {L : Kd γ} {o : Nat} {g : α → γ} {p : α → γ → α} (l : Lens K o L g p) : Lens K.last o L g p := ⟨l.fits, l.get, l.put⟩
theorem Lens.iso {α β γ : Type} {K : Kd β} {f : α → β} {L : Kd γ} {o : Nat} {g : β → γ} {p : β → γ → β} {g' : α → γ} {p' : α → γ → α} (l : Lens K o L g p)
    (hg : ∀ x, g (f x) = g' x) (hp : ∀ x y, f (p' x y) = p (f x) y) : Lens (Kd.iso K f) o L g' p' where
  fits := l.fits
  get h := by rw [← hg]; exact l.get h
  put h h' := by show K.rd _ _ (f (p' _ _)); rw [hp]; exact l.put h h'
theorem Lens.then {α β γ : Type} {K : Kd α} {L : Kd β} {M : Kd γ} {o o' : Nat} {g : α → β} {p : α → β → α} {g' : β → γ} {p' : β → γ → β}
    (l : Lens K o L g p) (m : Lens L o' M g' p') : Lens K (o + o') M (fun x => g' (g x)) (fun x y => p x (p' (g x) y)) where
  fits := by have := l.fits; have := m.fits; omega
  get {G cs x} h := by
    have h2 := m.get (l.get h)
    have := m.fits
    rw [List.drop_take, List.take_take, List.drop_drop, Nat.min_eq_left (by omega)] at h2
    exact h2
  put {G cs x ys y} h h' := by
    have hc := K.len h
    have hl := l.fits
    have hm := m.fits
    have hy := M.len h'
    have h2 := l.put h (m.put (l.get h) h')
    have e : cs.take o ++ (((cs.drop o).take L.sz).take o' ++ ys ++ ((cs.drop o).take L.sz).drop (o' + ys.length)) ++ cs.drop (o + (((cs.drop o).take L.sz).take o' ++ ys ++ ((cs.drop o).take L.sz).drop (o' + ys.length)).length)
        = cs.take (o + o') ++ ys ++ cs.drop (o + o' + ys.length) := by
      have hlen : (((cs.drop o).take L.sz).take o' ++ ys ++ ((cs.drop o).take L.sz).drop (o' + ys.length)).length = L.sz := by
        simp only [List.length_append, List.length_take, List.length_drop]
        omega
      rw [hlen]
      apply List.ext_getElem?
      intro i
      simp only [List.append_assoc, List.getElem?_append, List.length_take, List.length_drop, List.getElem?_take, List.getElem?_drop]
      repeat' split
      all_goals first | omega | rfl | (congr 1; omega) | skip
    rw [e] at h2
    exact h2
abbrev pt (b : Nat) : Value := .pointer (some ⟨b, 0, none⟩)
abbrev pu (b o : Nat) : Value := .pointer (some ⟨b, o, none⟩)
abbrev kI : Kd Int := Kd.int .i64
abbrev kB : Kd Int := Kd.int .u8
abbrev kBs : Kd (List Int) := Kd.slice kB
theorem vb {b b' : Bool} (h : b = b') : Value.bool b = .bool b' := congrArg Value.bool h
end Go.Proofs.YtadlndnagfnlgaaGreatDoor.W
