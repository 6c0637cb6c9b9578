/- Words for walks, part 9: structs and arrays compared, arrays built and read. No program in it. -/
import Derived.Test.YtadlndnagfnlgaaGreatDoorW8
import Derived.Laws.StructEq
set_option linter.unusedSimpArgs false
set_option linter.unusedVariables false
namespace Go.Proofs.YtadlndnagfnlgaaGreatDoor.W
open Go
section
variable {P : Program} {ops : Array Oper} {Q : Exit → Act → World → Prop} {rest : List Oper} {n : Nat} {T : Fr} {w : World} {c : World} {G : qk} {σ : List Ent}
structure EqK {α : Type} (P : Program) (t : TypeId) (K : Kd α) (e : α → α → Bool) (h : Nat) : Prop where
  run : ∀ d, h ≤ d → ∀ {G G' : qk} {cs ds : List Value} {x y : α}, K.rd G cs x → K.rd G' ds y → ∀ w, (Op.equalIn d t (unc K.agg cs) (unc K.agg ds)).run P w = .ok (e x y) w
def eqI (a b : Int) : Bool := a == b
def eqB (a b : Bool) : Bool := a == b
theorem eqkI {t : TypeId} {k : IntKind} (hu : P.underlying t = some (.int k)) : EqK P t (Kd.int k) eqI 1 := ⟨fun d hd G G' cs ds x y hx hy w => by
  obtain ⟨d, rfl⟩ : ∃ i, d = i + 1 := ⟨d - 1, by omega⟩
  have e1 : cs = [.int k x] := hx
  have e2 : ds = [.int k y] := hy
  subst e1
  subst e2
  exact run_equalIn_int w d t k k x y hu⟩
theorem eqkB {t : TypeId} (hu : P.underlying t = some .bool) : EqK P t Kd.bool eqB 1 := ⟨fun d hd G G' cs ds x y hx hy w => by
  obtain ⟨d, rfl⟩ : ∃ i, d = i + 1 := ⟨d - 1, by omega⟩
  have e1 : cs = [.bool x] := hx
  have e2 : ds = [.bool y] := hy
  subst e1
  subst e2
  exact run_equalIn_bool' w d t x y hu⟩
theorem run_part_K {α : Type} {K : Kd α} {t : TypeId} (ht : Ty P t K.sz K.agg) {cs : List Value} {x : α} (hr : K.rd G cs x) (pre post : List Value) {off : Nat} (ho : pre.length = off) (w : World) :
    (part t (pre ++ (cs ++ post)).toArray off).run P w = .ok (unc K.agg cs) w := by
  subst ho
  have hl := K.len hr
  unfold part
  rw [Sem.run_bind, ht.run_agg w]
  cases ha : K.agg with
  | true =>
    simp only [Result.andThen_ok, if_true, Sem.run_bind, ht.run_size, Sem.run_pure, unc]
    congr 2
    apply Array.ext'
    simp only [List.extract_toArray, List.extract_eq_take_drop]
    rw [show pre.length + K.sz - pre.length = cs.length by omega, List.drop_append_of_le_length (Nat.le_refl _), List.drop_length, List.nil_append, List.take_left]
  | false =>
    have h1 : cs.length = 1 := hl.trans (K.sz1 ha)
    match cs, h1 with
    | [v], _ => simp [unc]
structure EqF {α : Type} (P : Program) (off : Nat) (fs : List Field) (K : Kd α) (e : α → α → Bool) (h : Nat) : Prop where
  run : ∀ d, h ≤ d → ∀ {G G' : qk} {cs ds : List Value} {x y : α} {pre pre' : List Value}, pre.length = off → pre'.length = off → K.rd G cs x → K.rd G' ds y → ∀ w, (Op.eqFields d (pre ++ cs).toArray (pre' ++ ds).toArray fs).run P w = .ok (e x y) w
structure Fd (f : Field) (off : Nat) (t : TypeId) : Prop where
  nm : (f.name == "_") = false
  off : f.offset = off
  ty : f.type = t
theorem EqF.last {α : Type} {K : Kd α} {off t h : Nat} {f : Field} {e : α → α → Bool} (hf : Fd f off t) (ht : Ty P t K.sz K.agg) (hq : EqK P t K e h) : EqF P off [f] (Kd.last K) e h :=
  ⟨fun d hd G G' cs ds x y pre pre' h1 h2 hx hy w => by
    have a1 := run_part_K ht hx pre [] h1 w
    have a2 := run_part_K ht hy pre' [] h2 w
    rw [List.append_nil] at a1 a2
    have hn : f.name ≠ "_" := by have := hf.nm; simpa using this
    have hd0 := hq.run d hd hx hy w
    rw [← hf.off, ← hf.ty] at a1 a2
    rw [← hf.ty] at hd0
    simp only [Op.eqFields, if_pos hn, Sem.run_bind, a1, a2, hd0, Result.andThen_ok]
    cases e x y <;> rfl⟩
theorem EqF.cons {α β : Type} {K : Kd α} {L : Kd β} {off t h : Nat} {f : Field} {fs : List Field} {e : α → α → Bool} {e' : β → β → Bool} (hf : Fd f off t) (ht : Ty P t K.sz K.agg) (hq : EqK P t K e h) (hr : EqF P (off + K.sz) fs L e' h) :
    EqF P off (f :: fs) (K.pair L) (fun x y => e x.1 y.1 && e' x.2 y.2) h :=
  ⟨fun d hd G G' cs ds x y pre pre' h1 h2 hx hy w => by
    obtain ⟨c1, c2, rfl, hx1, hx2⟩ := hx
    obtain ⟨d1, d2, rfl, hy1, hy2⟩ := hy
    have a1 := run_part_K ht hx1 pre c2 h1 w
    have a2 := run_part_K ht hy1 pre' d2 h2 w
    have hn : f.name ≠ "_" := by have := hf.nm; simpa using this
    have hd0 := hq.run d hd hx1 hy1 w
    have hrest := hr.run d hd (pre := pre ++ c1) (pre' := pre' ++ d1) (by rw [List.length_append, K.len hx1, h1]) (by rw [List.length_append, K.len hy1, h2]) hx2 hy2 w
    rw [List.append_assoc, List.append_assoc] at hrest
    rw [← hf.off, ← hf.ty] at a1 a2
    rw [← hf.ty] at hd0
    simp only [Op.eqFields, if_pos hn, Sem.run_bind, a1, a2, hd0, Result.andThen_ok]
    cases e x.1 y.1
    · rfl
    · simp only [Bool.not_true, Bool.false_eq_true, if_false, hrest, Bool.true_and]⟩
theorem EqF.iso {α β : Type} {K : Kd β} {g : α → β} {off h : Nat} {fs : List Field} {e : β → β → Bool} (hq : EqF P off fs K e h) : EqF P off fs (Kd.iso K g) (fun x y => e (g x) (g y)) h :=
  ⟨fun d hd _ _ _ _ _ _ _ _ h1 h2 hx hy w => hq.run d hd h1 h2 hx hy w⟩
theorem EqF.all {α : Type} {K : Kd α} {t h : Nat} {fs : List Field} {e : α → α → Bool} (ha : K.agg = true) (ht : P.underlying t = some (.struct (P.fieldsOf t))) (hp : P.stoodInHeld t = false) (hfs : (P.fieldsOf t).toList = fs) (hq : EqF P 0 fs K e h) : EqK P t K e (h + 1) :=
  ⟨fun d hd G G' cs ds x y hx hy w => by
    obtain ⟨d, rfl⟩ : ∃ i, d = i + 1 := ⟨d - 1, by omega⟩
    have := hq.run d (by omega) (pre := []) (pre' := []) rfl rfl hx hy w
    subst hfs
    simp only [unc, ha, if_true]
    rw [run_equalIn_struct w d t _ _ ht hp]
    exact this⟩
def skF (f : Field) : Bool × Nat × Nat := (f.name == "_", f.type, f.offset)
structure EqG {α : Type} (P : Program) (off : Nat) (l : List (Bool × Nat × Nat)) (K : Kd α) (e : α → α → Bool) (h : Nat) : Prop where
  all : ∀ fs : List Field, fs.map skF = l → EqF P off fs K e h
theorem EqG.last {α : Type} {K : Kd α} {off t h : Nat} {e : α → α → Bool} (ht : Ty P t K.sz K.agg) (hq : EqK P t K e h) : EqG P off [(false, t, off)] (Kd.last K) e h :=
  ⟨fun fs hfs => by
    cases fs with
    | nil => simp at hfs
    | cons f fs =>
      simp only [List.map_cons, List.cons.injEq, skF, Prod.mk.injEq, List.map_eq_nil_iff] at hfs
      obtain ⟨h1, rfl⟩ := hfs
      exact EqF.last ⟨h1.1, h1.2.2, h1.2.1⟩ ht hq⟩
theorem EqG.cons {α β : Type} {K : Kd α} {L : Kd β} {off t h : Nat} {l : List (Bool × Nat × Nat)} {e : α → α → Bool} {e' : β → β → Bool} (ht : Ty P t K.sz K.agg) (hq : EqK P t K e h) (hr : EqG P (off + K.sz) l L e' h) :
    EqG P off ((false, t, off) :: l) (K.pair L) (fun x y => e x.1 y.1 && e' x.2 y.2) h :=
  ⟨fun fs hfs => by
    cases fs with
    | nil => simp at hfs
    | cons f fs =>
      simp only [List.map_cons, List.cons.injEq, skF, Prod.mk.injEq] at hfs
      exact EqF.cons ⟨hfs.1.1, hfs.1.2.2, hfs.1.2.1⟩ ht hq (hr.all fs hfs.2)⟩
theorem EqG.iso {α β : Type} {K : Kd β} {g : α → β} {off h : Nat} {l : List (Bool × Nat × Nat)} {e : β → β → Bool} (hq : EqG P off l K e h) : EqG P off l (Kd.iso K g) (fun x y => e (g x) (g y)) h :=
  ⟨fun fs hfs => (hq.all fs hfs).iso⟩
theorem EqG.done {α : Type} {K : Kd α} {t h : Nat} {l : List (Bool × Nat × Nat)} {e : α → α → Bool} (ha : K.agg = true) (hb : ((P.fieldsOf t).toList.map skF, P.stoodInHeld t) = (l, false)) (ht : (P.underlying t).map (fun d => match d with | .struct _ => true | _ => false) = some true) (hq : EqG P 0 l K e h) : EqK P t K e (h + 1) := by
  simp only [Prod.mk.injEq] at hb
  refine EqF.all ha ?_ hb.2 rfl (hq.all _ hb.1)
  cases hu : P.underlying t with
  | none => simp [hu] at ht
  | some d => cases d <;> simp [hu] at ht; simp [Program.fieldsOf, hu]
theorem EqK.up {α : Type} {K : Kd α} {t h h' : Nat} {e : α → α → Bool} (hq : EqK P t K e h) (hh : Nat.ble h h' = true) : EqK P t K e h' := ⟨fun d hd => hq.run d (Nat.le_trans (Nat.le_of_ble_eq_true hh) hd)⟩
def eqL {α : Type} (e : α → α → Bool) : List α → List α → Bool
  | [], [] => true
  | x :: l, y :: m => e x y && eqL e l m
  | _, _ => false
theorem eqk_arr {α : Type} {K : Kd α} {t el m h : Nat} {e : α → α → Bool} (hu : P.underlying t = some (.array m el)) (ht : Ty P el K.sz K.agg) (hq : EqK P el K e h) : EqK P t (Kd.arr m K) (eqL e) (h + 1) :=
  ⟨fun d hd G G' cs ds x y hx hy w => by
    obtain ⟨d, rfl⟩ : ∃ i, d = i + 1 := ⟨d - 1, by omega⟩
    obtain ⟨hxl, hx⟩ := hx
    obtain ⟨hyl, hy⟩ := hy
    have key : ∀ (l l' : List α) (c1 d1 p p' : List Value) (k : Nat), zN K G c1 l → zN K G' d1 l' → l.length = l'.length → p.length = k * K.sz → p'.length = k * K.sz →
        (do
          let r ← forIn (List.range' k l.length 1) ((none, ()) : Option Bool × PUnit) (fun i r => do
            if !(← Op.equalIn d el (← part el (p ++ c1).toArray (i * K.sz)) (← part el (p' ++ d1).toArray (i * K.sz))) then pure (ForInStep.done (some false, ()))
            else pure (ForInStep.yield (none, ())))
          match r.fst with
          | some a => pure a
          | none => pure true : Sem Bool).run P w = .ok (eqL e l l') w := by
      intro l
      induction l with
      | nil =>
        intro l' c1 d1 p p' k _ _ hl _ _
        cases l' with
        | nil => simp [eqL]
        | cons _ _ => simp at hl
      | cons a l ih =>
        intro l' c1 d1 p p' k h1 h2 hl hp hp'
        cases l' with
        | nil => simp at hl
        | cons b l' =>
          obtain ⟨c1, c2, rfl, ha, hb⟩ := h1
          obtain ⟨d1, d2, rfl, ha', hb'⟩ := h2
          have a1 := run_part_K ht ha p c2 hp w
          have a2 := run_part_K ht ha' p' d2 hp' w
          have a3 := hq.run d (by omega) ha ha' w
          have := ih l' c2 d2 (p ++ c1) (p' ++ d1) (k + 1) hb hb' (by simpa using hl) (by rw [List.length_append, K.len ha, hp, Nat.add_mul]; omega) (by rw [List.length_append, K.len ha', hp', Nat.add_mul]; omega)
          rw [List.append_assoc, List.append_assoc] at this
          rw [List.length_cons, List.range'_succ]
          simp only [List.forIn_cons, Sem.run_bind, a1, a2, a3, Result.andThen_ok, eqL]
          cases e a b
          · simp
          · simp only [Bool.not_true, Bool.false_eq_true, if_false, Sem.run_pure, Result.andThen_ok, Bool.true_and]
            simp only [Sem.run_bind] at this
            exact this
    have := key x y cs ds [] [] 0 hx hy (by omega) (by simp) (by simp)
    simp only [List.nil_append] at this
    have hag : (Kd.arr m K).agg = true := rfl
    simp only [unc, hag, if_true, Op.equalIn, Sem.run_bind, run_underlying hu, Result.andThen_ok, ht.run_size]
    rw [Std.Legacy.Range.forIn_eq_forIn_range']
    simp only [Std.Legacy.Range.size, Nat.sub_zero, Nat.add_sub_cancel, Nat.div_one]
    rw [← hxl]
    simp only [Sem.run_bind] at this
    refine Eq.trans ?_ this
    congr 1
    funext a w'
    obtain ⟨a, u⟩ := a
    cases a <;> rfl⟩
theorem rn_eql {α : Type} {K : Kd α} {e : α → α → Bool} {t t' h : TypeId} {x y : Operand} {v1 v2 : Value} {a b : α} {G G' : qk} (hE : EqK P t K e h) (ha : K.agg = true) (hg : P.eqGuardType P.depth t = false) (hh : Nat.ble h 10000 = true)
    (hx : ev n T x = v1) (hy : ev n T y = v2) (h1 : K.V G v1 a) (h2 : K.V G' v2 b) : Rn P n T (.binOp .eql t x y t') (.bool (e a b)) := by
  intro d ty pos af g w
  obtain ⟨cs, rfl, hr⟩ := h1
  obtain ⟨ds, rfl, hs⟩ := h2
  have hq := hE.run 10000 (Nat.le_of_ble_eq_true hh) hr hs
  simp only [unc, ha, if_true] at hx hy hq
  unfold execOp
  simp only [hx, hy, Sem.run_bind, run_eqGuard_agg w .eql t x y _ _ hg, Result.andThen_ok, run_eql_struct, hq, Sem.run_pure]
end
end Go.Proofs.YtadlndnagfnlgaaGreatDoor.W
