/- Words for walks, part 10: arrays, blocks that come to stay, bytes as a string, maps. No program in it. -/
import Derived.Test.YtadlndnagfnlgaaDoorW9
import Derived.Laws.BytesString
import Derived.MapKept
import Derived.Carry
set_option linter.unusedSimpArgs false
set_option linter.unusedVariables false
namespace Go.Proofs.YtadlndnagfnlgaaDoor.W
open Go Go.MapKept
theorem rowRd.split {α : Type} {K : Kd α} {G : Ghost} {d : α} : ∀ {l : List α} {cs : List Value} {i : Nat}, rowRd K G cs l → i < l.length →
    K.rd G ((cs.drop (i * K.sz)).take K.sz) (l.getD i d) ∧ ∀ {ys : List Value} {y : α}, K.rd G ys y → rowRd K G (cs.take (i * K.sz) ++ ys ++ cs.drop (i * K.sz + ys.length)) (l.set i y)
  | [], _, _, _, hi => by simp at hi
  | x :: l, cs, 0, h, _ => by
    obtain ⟨c1, c2, rfl, h1, h2⟩ := h
    have hl := K.len h1
    refine ⟨?_, fun {ys y} hy => ?_⟩
    · simp only [Nat.zero_mul, List.drop_zero]
      rw [← hl, List.take_left]
      exact h1
    · have hy' := K.len hy
      simp only [Nat.zero_mul, List.take_zero, List.nil_append, Nat.zero_add, List.set_cons_zero]
      rw [show ys.length = c1.length by omega, List.drop_left]
      exact ⟨ys, c2, rfl, hy, h2⟩
  | x :: l, cs, i + 1, h, hi => by
    obtain ⟨c1, c2, rfl, h1, h2⟩ := h
    have hl := K.len h1
    obtain ⟨a, b⟩ := rowRd.split (d := d) (i := i) h2 (by simpa using hi)
    have e : (i + 1) * K.sz = c1.length + i * K.sz := by rw [Nat.add_mul]; omega
    refine ⟨?_, fun {ys y} hy => ?_⟩
    · rw [e, ← List.drop_drop, List.drop_left]
      simpa using a
    · have := b hy
      rw [e, List.take_append, List.take_of_length_le (Nat.le_add_right _ _), Nat.add_sub_cancel_left, Nat.add_assoc, ← List.drop_drop, List.drop_left]
      exact ⟨c1, _, by simp only [List.append_assoc], h1, this⟩
theorem Lens.elt {α : Type} (K : Kd α) (m i : Nat) (d : α) (hi : Nat.blt i m = true) : Lens (Kd.arr m K) (i * K.sz) K (fun l => l.getD i d) (fun l y => l.set i y) where
  fits := by
    have hi : i < m := by simpa [Nat.blt_eq] using hi
    show i * K.sz + K.sz ≤ m * K.sz
    rw [← Nat.succ_mul]
    exact Nat.mul_le_mul_right _ hi
  get h := (h.2.split (by have := h.1; have : i < m := by simpa [Nat.blt_eq] using hi
                          omega)).1
  put h h' := ⟨by have := h.1; simpa using this, (rowRd.split (d := d) h.2 (by have := h.1; have : i < m := by simpa [Nat.blt_eq] using hi
                                                                               omega)).2 h'⟩
section
variable {P : Program} {ops : Array Oper} {Q : Exit → Act → World → Prop} {rest : List Oper} {n : Nat} {T : Fr} {w : World} {c : World} {G : Ghost} {σ : List Ent}
structure Ar (P : Program) (t : TypeId) (m : Nat) (e : TypeId) : Prop where und : P.underlying t = some (.array m e)
theorem rn_indexA {t e m o b : Nat} {x i : Operand} {k : IntKind} {j : Int} {sz : Nat} {agg : Bool} (ha : Ar P t m e) (ht : Ty P e sz agg) (hx : ev n T x = .pointer (some ⟨b, o, none⟩)) (hi : ev n T i = .int k j) (h0 : 0 ≤ j) (h1 : j < m) :
    Rn P n T (.indexAddr t x i) (.pointer (some ⟨b, o + j.toNat * sz, none⟩)) := by
  intro d ty pos af g w
  unfold execOp
  simp [hx, hi, Instr.indexAt, Instr.sureAddr, asIntOf, run_underlying ha.und, h0, h1, ht.run_size, add_plain]
/-- A whole array, built of its elements. -/
theorem rn_arr {α : Type} {K : Kd α} {z : List α} {vs : List Value} {xs : List α} {t e m : Nat} {parts : List (Nat × Operand)} (hz : Zr P t (Kd.arr m K) z) (ha : Ar P t m e) (ht : Ty P e K.sz K.agg)
    (hps : (parts.map fun p => (p.1, ev n T p.2)) = enumV 0 vs) (hv : Vs K G vs xs) (hm : xs.length = m) : ∃ v, (Kd.arr m K).V G v xs ∧ Rn P n T (.build t parts.toArray) v := by
  obtain ⟨v0, hv0, hr0⟩ := hz.zero
  have h0 := (hr0 G).cells
  have hl0 := (Kd.arr m K).len h0
  have hvl := hv.len
  have hrow := hv.row
  have hfill : Instr.fill (fun i => some (i * K.sz, K.sz)) v0.cells (enumV 0 vs) = some (vs.flatMap fun v => v.cells.toList).toArray := by
    have := fill_enum (k := 0) (cells := v0.cells) hv (by simp only [Array.length_toList] at hl0; rw [hl0, Nat.zero_add, hvl, hm]; rfl)
    simpa using this
  refine ⟨.agg (vs.flatMap fun v => v.cells.toList).toArray, ⟨_, rfl, hm, hrow⟩, fun d ty pos af g w => ?_⟩
  have hps' : ((parts.toArray).map fun p => (p.1, ev n T p.2)).toList = enumV 0 vs := by rw [← hps]; simp
  unfold execOp
  simp only [Sem.run_bind, Instr.build, run_zero hv0, Result.andThen_ok, run_underlying ha.und, ht.run_size, hps', hfill, Sem.run_pure]
/-- An array of zeros. -/
theorem rn_arr0 {α : Type} {K : Kd α} {z : List α} {t e m : Nat} {sz : Nat} {agg : Bool} (hz : Zr P t (Kd.arr m K) z) (ha : Ar P t m e) (ht : Ty P e sz agg) : ∃ v, (Kd.arr m K).V G v z ∧ Rn P n T (.build t #[]) v := by
  obtain ⟨v0, hv0, hr0⟩ := hz.zero
  obtain ⟨cs, e0, hr⟩ := hr0 G
  subst e0
  refine ⟨.agg cs.toArray, ⟨cs, rfl, hr⟩, fun d ty pos af g w => ?_⟩
  unfold execOp
  simp [Instr.build, run_zero hv0, run_underlying ha.und, ht.run_size, Instr.fill, unc, Kd.arr, Value.cells]
/-- A block comes to stay. -/
theorem St.sealbox {α : Type} {K : Kd α} {b t : Nat} {x : α} {i : Nat} (H : St c G w σ) (hi : σ[i]? = some (.box b t (K.at_ x))) : ∃ G', GLe G G' ∧ St c G' w (σ.eraseIdx i) ∧ PtR K G' ⟨b, 0, none⟩ x := by
  have hF := H.front hi
  obtain ⟨h0, cs, hh, hr⟩ := H.okAt hi
  obtain ⟨hle, hS⟩ := hF.keep b rfl _ hh
  refine ⟨_, hle, hS, cs, K.mono hle hr, fun i v hv => ?_⟩
  rw [add_plain, Nat.zero_add]
  simp only [gcell, Ghost.with_, if_true]
  simpa using hv
theorem PtR.slice {α : Type} {K : Kd α} {m : Nat} {a : Addr} {l : List α} (h : PtR (Kd.arr m K) G a l) : SlR K G (some a) m l ∧ l.length = m := by
  obtain ⟨cs, ⟨hm, hr⟩, hc⟩ := h
  refine ⟨⟨Nat.le_of_eq hm, (fun e => by cases e), fun a' ha j x hx => ?_⟩, hm⟩
  cases ha
  obtain ⟨c1, h1, h2⟩ := hr.at_ j x hx
  exact ⟨c1, h1, fun i v hv => hc _ v (h2 i v hv)⟩
theorem rn_cutA {t e m : Nat} {x : Operand} {a : Addr} {sz : Nat} {agg : Bool} (ha : Ar P t m e) (ht : Ty P e sz agg) (hm : Nat.beq m 0 = false) (hx : ev n T x = .pointer (some a)) : Rn P n T (.slice t x none none none) (.slice (some a) m m) := by
  intro d ty pos af g w
  have hm : ¬ m = 0 := fun e => by simp [e] at hm
  unfold execOp
  simp [hx, Instr.sliceAt, Instr.sureAddr, run_underlying ha.und, Instr.sliceBounds, ht.run_size, hm, Addr.add]

/-! ### Bytes as a string -/
def bstr (l : List Int) : ByteArray := l.foldl (fun r n => r.push (UInt8.ofNat n.toNat)) ByteArray.empty
theorem rowRd_ints {k : IntKind} : ∀ {l : List Int} {cs : List Value}, rowRd (Kd.int k) G cs l → cs = l.map (Value.int k)
  | [], _, h => h
  | x :: l, cs, h => by
    obtain ⟨c1, c2, rfl, h1, h2⟩ := h
    have : c1 = [.int k x] := h1
    rw [this, rowRd_ints h2]
    rfl
theorem wl_bstr {A : Option Addr} {cp : Nat} {l : List Int} {d : Nat} {t t' e ty : TypeId} {x : Operand} {pos : String} {af : Array Edge} (H : St c G w σ) (hs : SlR (Kd.int .u8) G A cp l) (hl : Sl P t e) (he : P.underlying e = some (.int .u8)) (hd : P.underlying t' = some .string) (hx : ev n T x = .slice A l.length cp)
    (h : wpList P ops Q rest (mk n (upd T d (.string (bstr l)))) w) : wpList P ops Q (⟨some d, .convert t t' x, ty, pos, af, none⟩ :: rest) (mk n T) w := by
  refine wl_ok (v := .string (bstr l)) ?_ h
  unfold execOp
  simp only [hx, Sem.run_bind]
  rw [run_convert_bytes_string w t t' e A l.length cp hl.und he hd]
  cases A with
  | none =>
    have := (hs.2.1 rfl).1
    subst this
    simp [Conv.bytesToString, bstr]
  | some a =>
    obtain ⟨_, hsr⟩ := hs.src H.ag
    obtain ⟨news, hr, hc⟩ := hsr a rfl
    have e1 := rowRd_ints hr
    subst e1
    have hlc := run_loadCells_list (P := P) w a (l.map (Value.int .u8)) hc
    rw [List.length_map] at hlc
    rw [run_bytesToString w a l.length cp l (by rw [hlc]), Result.andThen_ok]
    rfl

/-! ### Maps -/
theorem wl_makeMap {d t ty : Nat} {pos : String} {af : Array Edge} (H : St c G w σ)
    (h : ∀ r w', St c G w' (.mp r [] 0 :: σ) → wpList P ops Q rest (mk n (upd T d (.map (some r)))) w') : wpList P ops Q (⟨some d, .makeMap t none, ty, pos, af, none⟩ :: rest) (mk n T) w := by
  refine wl_ok (v := .map (some w.heap.size)) (w' := w.alloc (.map #[] 0)) ?_ (h _ _ ?_)
  · unfold execOp
    rw [Sem.run_bind, show (Instr.makeMap t (Option.map (ev n T) none)).run P w = .ok (.map (some w.heap.size)) (w.alloc (.map #[] 0)) from rfl]
    rfl
  · exact H.add (World.grownBy_alloc w _ none) ⟨H.ag.fresh (Nat.le_refl _), heap_alloc_new w _⟩ (fun k hk => by cases hk; exact Nat.le_refl _)
/-- An entry more, under a key that no entry has. -/
theorem wl_insert {r i clock : Nat} {es : List MapEntry} {kd : TypeDesc} {key val : Value} {t kt et ty : TypeId} {x y z : Operand} {pos : String} {af : Array Edge} (H : St c G w σ) (hi : σ[i]? = some (.mp r es clock))
    (ht : P.underlying t = some (.map kt et)) (hkd : P.underlying kt = some kd) (hx : ev n T x = .map (some r)) (hy : ev n T y = key) (hz : ev n T z = val) (hk : IsKey kd key) (hf : Instr.findNow kd key es 0 = some none)
    (h : ∀ w', St c G w' (σ.set i (.mp r (es ++ [⟨key, val, clock⟩]) (clock + 1))) → wpList P ops Q rest (mk n T) w') : wpList P ops Q (⟨none, .insert t x y z, ty, pos, af, none⟩ :: rest) (mk n T) w := by
  obtain ⟨h0, hh⟩ := H.okAt hi
  have hset := heap_set (o' := .map (es.toArray.push ⟨key, val, clock⟩) (clock + 1)) hh
  refine wl_skip (w' := { w with heap := w.heap.setIfInBounds r (.map (es.toArray.push ⟨key, val, clock⟩) (clock + 1)) }) ?_ (h _ ?_)
  · have h1 := run_findKey (P := P) (w := w) hkd hf
    have h2 := run_checkKey (P := P) (w := w) hkd hk false 9999
    unfold execOp
    simp only [hx, hy, hz, Sem.run_bind, Instr.mapUpdate, run_underlying ht, Result.andThen_ok, Go.MapKept.run_getObj_map hh, h2, h1, Go.MapKept.run_setObj_map _ hh, Sem.run_pure]
  · refine H.turnAt (X := some r) hi ⟨rfl, rfl, rfl, by simp, fun k hk hne => hset.2 k (fun e => hne (by rw [e]))⟩ (fun k hk => hk) ⟨h0, ?_⟩ (fun k hk => .inl hk)
    rw [hset.1]
    simp
theorem run_lookup_mp {r i clock : Nat} {es : List MapEntry} {kd : TypeDesc} {key val : Value} {t kt et : TypeId} {b ok : Bool} (H : St c G w σ) (hi : σ[i]? = some (.mp r es clock))
    (ht : P.underlying t = some (.map kt et)) (hkd : P.underlying kt = some kd) (hk : IsKey kd key)
    (hf : ∃ a, Instr.findNow kd key es 0 = some a ∧ ((∃ j, a = some (j, val) ∧ ok = true) ∨ (a = none ∧ ok = false ∧ (P.info? et).map (·.zero) = some (some val)))) :
    (Instr.lookup t (.map (some r)) key b).run P w = .ok (if b then .tuple #[val, .bool ok] else val) w := by
  obtain ⟨h0, hh⟩ := H.okAt hi
  obtain ⟨a, hfn, hv⟩ := hf
  have h1 := run_findKey (P := P) (w := w) hkd hfn
  have h2 := run_checkKey (P := P) (w := w) hkd hk es.toArray.isEmpty 9999
  simp only [Sem.run_bind, Instr.lookup, run_underlying ht, Result.andThen_ok, Go.MapKept.run_getObj_map hh, Sem.run_pure, h2, h1]
  rcases hv with ⟨j, rfl, rfl⟩ | ⟨rfl, rfl, hz⟩
  · simp only [Sem.run_bind, Sem.run_pure, Result.andThen_ok]
  · simp only [Sem.run_bind, run_zero hz, Sem.run_pure, Result.andThen_ok]
/-- What is found under a key, or the zero value. -/
theorem wl_lookup {r i clock : Nat} {es : List MapEntry} {kd : TypeDesc} {key val : Value} {d t kt et ty : TypeId} {x y : Operand} {b ok : Bool} {pos : String} {af : Array Edge} (H : St c G w σ) (hi : σ[i]? = some (.mp r es clock))
    (ht : P.underlying t = some (.map kt et)) (hkd : P.underlying kt = some kd) (hx : ev n T x = .map (some r)) (hy : ev n T y = key) (hk : IsKey kd key)
    (hf : ∃ a, Instr.findNow kd key es 0 = some a ∧ ((∃ j, a = some (j, val) ∧ ok = true) ∨ (a = none ∧ ok = false ∧ (P.info? et).map (·.zero) = some (some val))))
    (h : wpList P ops Q rest (mk n (upd T d (if b then .tuple #[val, .bool ok] else val))) w) : wpList P ops Q (⟨some d, .lookup t x y b, ty, pos, af, none⟩ :: rest) (mk n T) w := by
  refine wl_ok (v := if b then .tuple #[val, .bool ok] else val) ?_ h
  unfold execOp
  simp only [hx, hy, Sem.run_bind, run_lookup_mp H hi ht hkd hk hf, Result.andThen_ok, Sem.run_pure]
/-- Keys that are numbers: found, or not, one after another. -/
theorem fnd_no {k : IntKind} {a b : Int} {v : Value} {es : List MapEntry} {j bn : Nat} {x : Option (Nat × Value)} (hn : (a == b) = false) (h : Instr.findNow (.int k) (.int k a) es (j + 1) = some x) : Instr.findNow (.int k) (.int k a) (⟨.int k b, v, bn⟩ :: es) j = some x := by
  simp [Instr.findNow, Instr.sameNow, hn, h]
theorem fnd_yes {k : IntKind} {a b : Int} {v : Value} {es : List MapEntry} {j bn : Nat} (hn : (a == b) = true) : Instr.findNow (.int k) (.int k a) (⟨.int k b, v, bn⟩ :: es) j = some (some (j, v)) := by
  simp [Instr.findNow, Instr.sameNow, hn]
/-- Numbers under numbers. -/
def lkI (l : List (Int × Int)) (a : Int) : Option Int := (l.find? fun p => a == p.1).map (·.2)
theorem fnd_lkI {k k' : IntKind} {a : Int} : ∀ {l : List (Int × Int)} {es : List MapEntry} {j : Nat}, (es.map fun e => (e.key, e.val)) = l.map (fun p => (Value.int k p.1, Value.int k' p.2)) →
    ∃ x, Instr.findNow (.int k) (.int k a) es j = some x ∧ x.map (·.2) = (lkI l a).map (Value.int k')
  | [], [], j, _ => ⟨none, rfl, rfl⟩
  | [], _ :: _, _, h => by simp at h
  | _ :: _, [], _, h => by simp at h
  | (b, v) :: l, e :: es, j, h => by
    simp only [List.map_cons, List.cons.injEq, Prod.mk.injEq] at h
    obtain ⟨⟨hk, hv⟩, hr⟩ := h
    obtain ⟨x, hx, he⟩ := fnd_lkI (a := a) (j := j + 1) hr
    cases hq : a == b with
    | true =>
      refine ⟨some (j, e.val), by simp [Instr.findNow, Instr.sameNow, hk, hq], ?_⟩
      simp [lkI, List.find?, hq, hv]
    | false =>
      refine ⟨x, by simp [Instr.findNow, Instr.sameNow, hk, hq, hx], ?_⟩
      simpa [lkI, List.find?, hq] using he
theorem wl_lookupI {r i clock : Nat} {es : List MapEntry} {l : List (Int × Int)} {k k' : IntKind} {a : Int} {d t kt et ty : TypeId} {x y : Operand} {pos : String} {af : Array Edge} (H : St c G w σ) (hi : σ[i]? = some (.mp r es clock))
    (ht : P.underlying t = some (.map kt et)) (hkd : P.underlying kt = some (.int k)) (hx : ev n T x = .map (some r)) (hy : ev n T y = .int k a) (he : (es.map fun e => (e.key, e.val)) = l.map (fun p => (Value.int k p.1, Value.int k' p.2)))
    (hz : (P.info? et).map (·.zero) = some (some (.int k' 0)))
    (h : wpList P ops Q rest (mk n (upd T d (.int k' ((lkI l a).getD 0)))) w) : wpList P ops Q (⟨some d, .lookup t x y false, ty, pos, af, none⟩ :: rest) (mk n T) w := by
  obtain ⟨z, hz1, hz2⟩ := fnd_lkI (a := a) (j := 0) he
  cases hl : lkI l a with
  | none =>
    rw [hl] at hz2 h
    cases z with
    | some z => simp at hz2
    | none => exact wl_lookup (val := .int k' 0) (ok := false) H hi ht hkd hx hy (by simp [IsKey]) ⟨_, hz1, .inr ⟨rfl, rfl, hz⟩⟩ h
  | some v =>
    rw [hl] at hz2 h
    cases z with
    | none => simp at hz2
    | some z =>
      simp only [Option.map_some, Option.some.injEq] at hz2
      exact wl_lookup (val := .int k' v) (ok := true) H hi ht hkd hx hy (by simp [IsKey]) ⟨_, hz1, .inl ⟨z.1, by rw [← hz2], rfl⟩⟩ h
/-- Shifts by a number that may be below zero. -/
def shrO (k : IntKind) (a b : Int) : Option Int := if b < 0 then none else some (sShr k a b)
def shlO (k : IntKind) (a b : Int) : Option Int := if b < 0 then none else some (sShl k a b)
theorem rn_shr {t t' : TypeId} {x y : Operand} {k k' : IntKind} {a b r : Int} (hx : ev n T x = .int k a) (hy : ev n T y = .int k' b) (hr : shrO k a b = some r) : Rn P n T (.binOp .shr t x y t') (.int k r) := by
  refine rn_pure _ ?_
  unfold shrO at hr
  split at hr
  · cases hr
  · rename_i h
    cases hr
    simp [pureV, binV, hx, hy, h]
theorem rn_shl {t t' : TypeId} {x y : Operand} {k k' : IntKind} {a b r : Int} (hx : ev n T x = .int k a) (hy : ev n T y = .int k' b) (hr : shlO k a b = some r) : Rn P n T (.binOp .shl t x y t') (.int k r) := by
  refine rn_pure _ ?_
  unfold shlO at hr
  split at hr
  · cases hr
  · rename_i h
    cases hr
    simp [pureV, binV, hx, hy, h]
theorem rn_isnil {t e t' : TypeId} {x y : Operand} {A : Option Addr} {m cp : Nat} (hl : Sl P t e) (hx : ev n T x = .slice A m cp) (hy : ev n T y = .slice none 0 0) : Rn P n T (.binOp .eql t x y t') (.bool (Option.isNone A)) := by
  intro d ty pos af g w
  have hq : ∀ (k : Nat) (w : World), (Op.equalIn (k + 1) t (.slice A m cp) (.slice none 0 0)).run P w = .ok (Option.isNone A) w := by
    intro k w
    unfold Op.equalIn
    cases A <;> simp [run_underlying hl.und]
  have hq' : ∀ w : World, (Op.equalIn 10000 t (.slice A m cp) (.slice none 0 0)).run P w = .ok (Option.isNone A) w := hq 9999
  unfold execOp
  simp only [hx, hy, Sem.run_bind, eqGuard, binOp, Op.equal, Op.maxDepth]
  simp [hq']
theorem isnil {α : Type} (A : Option α) : A = none ∨ Option.isNone A = false := by cases A <;> simp
/-! ### An array's element; a range over a string -/
theorem rn_indexV {α : Type} {K : Kd α} {t e m : Nat} {x i : Operand} {k : IntKind} {j : Int} {v : Value} {l : List α} {y : α} (ha : Ar P t m e) (ht : Ty P e K.sz K.agg) (hx : ev n T x = v) (hv : (Kd.arr m K).V G v l) (hi : ev n T i = .int k j) (hj : idx l j = some y) :
    ∃ u, K.V G u y ∧ Rn P n T (.index t x i) u := by
  obtain ⟨h0, h1, hg⟩ := idx_some hj
  obtain ⟨cs, rfl, hm, hr⟩ := hv
  have hjm : j < (m : Int) := by omega
  have hjl : j.toNat < l.length := by omega
  have hs := hr.split (d := y) hjl
  have hy : l.getD j.toNat y = y := by simp [List.getD, hg]
  rw [hy] at hs
  refine ⟨_, ⟨_, rfl, hs.1⟩, fun d ty pos af g w => ?_⟩
  have hlen := rowRd.len hr
  have hle : j.toNat * K.sz + K.sz ≤ cs.length := by
    rw [hlen, ← Nat.succ_mul]
    exact Nat.mul_le_mul_right _ hjl
  have hp := run_part_K ht hs.1 (cs.take (j.toNat * K.sz)) (cs.drop (j.toNat * K.sz + K.sz)) (off := j.toNat * K.sz) (by rw [List.length_take]; omega) w
  have hcs : cs.take (j.toNat * K.sz) ++ ((cs.drop (j.toNat * K.sz)).take K.sz ++ cs.drop (j.toNat * K.sz + K.sz)) = cs := by
    rw [← List.drop_drop, List.take_append_drop, List.take_append_drop]
  rw [hcs] at hp
  have hag : (Kd.arr m K).agg = true := rfl
  simp only [unc, hag, if_true] at hx
  unfold execOp
  simp [hx, hi, Instr.index, asIntOf, run_underlying ha.und, h0, hjm, ht.run_size, hp]
def nxt (s : ByteArray) (pos : Nat) : Int × Nat := ((Utf8.decode s pos).1, pos + (Utf8.decode s pos).2)
theorem wl_range {d t ty : Nat} {x : Operand} {s : ByteArray} {pos : String} {af : Array Edge} (H : St c G w σ) (hl : P.underlying t = some .string) (hx : ev n T x = .string s)
    (h : ∀ r w', St c G w' (.it r s 0 :: σ) → wpList P ops Q rest (mk n (upd T d (.pointer (some ⟨r, 0, none⟩)))) w') : wpList P ops Q (⟨some d, .range t x, ty, pos, af, none⟩ :: rest) (mk n T) w := by
  refine wl_ok (v := .pointer (some ⟨w.heap.size, 0, none⟩)) (w' := w.alloc (.stringIter s 0)) ?_ (h _ _ ?_)
  · unfold execOp
    simp [hx, Instr.range, run_underlying hl]
  · exact H.add (World.grownBy_alloc w _ none) ⟨H.ag.fresh (Nat.le_refl _), heap_alloc_new w _⟩ (fun k hk => by cases hk; exact Nat.le_refl _)
theorem wl_nextT {d ty r i : Nat} {x : Operand} {s : ByteArray} {p : Nat} {pos : String} {af : Array Edge} (H : St c G w σ) (hi : σ[i]? = some (.it r s p)) (hx : ev n T x = .pointer (some ⟨r, 0, none⟩)) (hp : decide (p < s.size) = true)
    (h : ∀ w', St c G w' (σ.set i (.it r s (nxt s p).2)) → wpList P ops Q rest (mk n (upd T d (.tuple #[.bool true, .int .i64 (p : Int), .int .i32 (nxt s p).1]))) w') : wpList P ops Q (⟨some d, .next x true, ty, pos, af, none⟩ :: rest) (mk n T) w := by
  have hp : p < s.size := of_decide_eq_true hp
  obtain ⟨h0, hh⟩ := H.okAt hi
  have hset := Go.MapKept.heap_set (o' := .stringIter s (nxt s p).2) hh
  refine wl_ok (v := .tuple #[.bool true, .int .i64 (p : Int), .int .i32 (nxt s p).1]) (w' := { w with heap := w.heap.setIfInBounds r (.stringIter s (nxt s p).2) }) ?_ (h _ ?_)
  · have hg : (getObj r).run P w = .ok (.stringIter s p) w := by simp [getObj, Sem.run, hh]
    have hs' : (setObj r (.stringIter s (p + (Utf8.decode s p).2))).run P w = .ok () { w with heap := w.heap.setIfInBounds r (.stringIter s (p + (Utf8.decode s p).2)) } := by simp [setObj, Sem.run, hh]
    unfold execOp
    simp only [hx, Instr.next, Sem.run_bind, hg, Result.andThen_ok, if_pos hp, hs', Sem.run_pure, nxt, goInt]
  · refine H.turnAt (X := some r) hi ⟨rfl, rfl, rfl, by simp, fun k hk hne => hset.2 k (fun e => hne (by rw [e]))⟩ (fun k hk => hk) ⟨h0, hset.1⟩ (fun k hk => .inl hk)
theorem wl_nextF {d ty r i : Nat} {x : Operand} {s : ByteArray} {p : Nat} {pos : String} {af : Array Edge} (H : St c G w σ) (hi : σ[i]? = some (.it r s p)) (hx : ev n T x = .pointer (some ⟨r, 0, none⟩)) (hp : decide (p < s.size) = false)
    (h : wpList P ops Q rest (mk n (upd T d (.tuple #[.bool false]))) w) : wpList P ops Q (⟨some d, .next x true, ty, pos, af, none⟩ :: rest) (mk n T) w := by
  have hp : ¬ p < s.size := of_decide_eq_false hp
  obtain ⟨h0, hh⟩ := H.okAt hi
  refine wl_ok (v := .tuple #[.bool false]) ?_ h
  have hg : (getObj r).run P w = .ok (.stringIter s p) w := by simp [getObj, Sem.run, hh]
  unfold execOp
  simp only [hx, Instr.next, Sem.run_bind, hg, Result.andThen_ok, if_neg hp, Sem.run_pure]
/-- A row of bytes that is turned to the same type: it is marked, and comes to stay. -/
theorem wl_marked {g cap i : Nat} {l : List Int} {d t e ty : TypeId} {x : Operand} {pos : String} {af : Array Edge} (H : St c G w σ) (hi : σ[i]? = some (.row (Kd.int .u8) (some g) (some ⟨g, 0, none⟩) cap e l)) (hl : Sl P t e) (he : P.underlying e = some (.int .u8))
    (hx : ev n T x = .slice (some ⟨g, 0, none⟩) l.length cap)
    (h : ∀ G' w', GLe G G' → St c G' w' (σ.eraseIdx i) → SlR (Kd.int .u8) G' (some ⟨g, 0, none⟩) cap l → wpList P ops Q rest (mk n (upd T d (.slice (some ⟨g, 0, none⟩) l.length cap))) w') :
    wpList P ops Q (⟨some d, .convert t t x, ty, pos, af, none⟩ :: rest) (mk n T) w := by
  have hF := H.front hi
  obtain ⟨h0, ⟨hg0, _⟩ | ⟨k, cur, hk, _, hn, hm, hh, hcs, hp⟩⟩ := H.okAt hi
  · cases hg0
  · cases hk
    have hnew : (w.freeze ⟨g, cur.size, none⟩ 1).heap[g]? = some (.cells cur e (cur.size, cur.size + 1)) := by
      simp [World.freeze, hh, Array.getElem?_modify]
    have hoth : ∀ k, k ≠ g → (w.freeze ⟨g, cur.size, none⟩ 1).heap[k]? = w.heap[k]? := by
      intro k hk
      simp [World.freeze, Array.getElem?_modify, Ne.symm hk]
    have hgr : w.grownBy (w.freeze ⟨g, cur.size, none⟩ 1) (some g) := ⟨rfl, rfl, rfl, by simp [World.freeze], fun k _ hk => hoth k (fun e => hk (by rw [e]))⟩
    have hG0 : G g = none := h0 g rfl
    have hle : GLe G (G.with_ g (.cells cur e (cur.size, cur.size + 1))) := ⟨fun j x hj => by
      unfold Ghost.with_
      split
      · rename_i e; subst e; rw [hG0] at hj; cases hj
      · exact hj⟩
    obtain ⟨hpw, hr⟩ := List.pairwise_cons.1 hF.ap
    have hS : St c (G.with_ g (.cells cur e (cur.size, cur.size + 1))) (w.freeze ⟨g, cur.size, none⟩ 1) (σ.eraseIdx i) := by
      refine ⟨H.os, H.tape, H.output, (fun k o hk => hle.le _ _ (H.base k o hk)), ⟨fun j x hj => ?_⟩, fun y hy => ?_, hr⟩
      · unfold Ghost.with_ at hj
        split at hj
        · rename_i e; subst e; cases hj; exact hnew
        · rename_i hne; rw [hoth j hne]; exact H.ag.at_ j x hj
      · have hxo := hF.ok y (List.mem_cons_of_mem _ hy)
        refine (hxo.grown hgr (fun k hk e' => hpw y hy k e' hk)).up hle (fun j hj => ?_)
        unfold Ghost.with_
        split
        · rename_i e; subst e; exact absurd hj (hpw y hy _ rfl)
        · exact hxo.ghost j hj
    refine wl_ok (v := .slice (some ⟨g, 0, none⟩) l.length cap) (w' := w.freeze ⟨g, cur.size, none⟩ 1) ?_ (h _ _ hle hS ⟨hn, (fun e => by cases e), fun a ha j x hx => ?_⟩)
    · have hsh : w.shape? g = some (e, cur.size) := by simp [World.shape?, hh]
      unfold execOp
      simp [hx, convert, run_underlying hl.und, run_underlying he, markStringish, hsh]
    · cases ha
      obtain ⟨cs, hr2, hci⟩ := rowRd.at_ hp j x hx
      refine ⟨cs, (Kd.int .u8).mono hle hr2, fun i v hv => ?_⟩
      have := hci i v hv
      rw [List.getElem?_take] at this
      split at this
      · rw [add_plain, Nat.zero_add]
        simp only [gcell, Ghost.with_, if_true]
        simpa using this
      · cases this
/-! ### A slice that is made by appending zeros to nil, and cut to nothing -/
theorem wl_growmake {α : Type} {K : Kd α} {d t t2 e ty : TypeId} {x y : Operand} {k : IntKind} {m : Int} {pos : String} {af : Array Edge} (H : St c G w σ) (hl : Sl P t e) (he : El P e K.sz) (h2 : P.underlying t2 = some (.int k)) (hx : ev n T x = .slice none 0 0) (hy : ev n T y = .int .i64 m)
    (h0 : decide (m > 0) = true) (h1 : decide (m ≤ 1000000) = true)
    (h : ∀ g cp w', St c G w' (.row K (some g) (some ⟨g, 0, none⟩) cp e [] :: σ) → wpList P ops Q rest (mk n (upd T d (.slice (some ⟨g, 0, none⟩) m.toNat cp))) w') :
    wpList P ops Q (⟨some d, .call { callee := .builtin .append, args := #[x, y], argTypes := #[t, t2] }, ty, pos, af, none⟩ :: rest) (mk n T) w := by
  obtain ⟨ti, z, hti, hsz, hby, hz, hzs⟩ := he.at_
  have h0 : 0 < m := of_decide_eq_true h0
  have h1 : m ≤ 1000000 := of_decide_eq_true h1
  obtain ⟨k0, rfl⟩ : ∃ k0 : Nat, m = k0 := ⟨m.toNat, by omega⟩
  have hk0 : 0 < k0 := by omega
  have hwrap : IntKind.i64.wrap (k0 : Int) = k0 := by
    have : IntKind.i64.wrap (k0 : Int) = (k0 : Int) := by
      have e1 : (k0 : Int) % 2 ^ 64 = k0 := by omega
      have e2 : ¬ ((k0 : Int) ≥ 2 ^ 63) := by omega
      simp [IntKind.wrap, IntKind.signed, IntKind.bits]
      omega
    exact this
  have hge := grownCap_ge w k0 0 e
  have hcm : grownCap w k0 0 e ≤ maxLen := grownCap_le_maxLen w _ 0 e (by simp only [maxLen]; omega)
  have hpos := he.pos
  have hne : ¬ k0 = 0 := by omega
  have hnz : ¬ (k0 * ti.size = 0) := by
    have h3 : 0 < ti.size := by omega
    have := Nat.mul_pos hk0 h3
    omega
  have hb1 : k0 * ti.bytes ≤ 1000000 * 100000 := Nat.mul_le_mul (by omega) hby
  have hb2 : ¬ (281474976710656 < (k0 : Int) * (ti.bytes : Int)) := by
    have : ((k0 * ti.bytes : Nat) : Int) = (k0 : Int) * (ti.bytes : Int) := by push_cast; rfl
    omega
  have hb3 : ¬ (281474976710656 < Builtin.nextslicecap k0 0 * ti.bytes) := by rw [nextslicecap_zero hk0]; omega
  refine wl_ok (v := .slice (some ⟨w.heap.size, 0, none⟩) k0 (grownCap w k0 0 e)) (w' := w.drew.alloc (.cells (Builtin.zeroCells z.cells k0 ++ Builtin.zeroCells z.cells (grownCap w k0 0 e - k0)) e)) ?_ (h _ _ _ ?_)
  · have h63' : ¬ (9223372036854775807 < (k0 : Int)) := by omega
    have hlt : ¬ ((k0 : Int) < 0) := by omega
    unfold execOp
    simp [resolve, invoke, builtin, hx, hy, Builtin.append_, run_underlying hl.und, run_underlying h2, sizeOf, typeInfo, zeroValue, hti, hz, asInt, asIntOf, hwrap, hlt, hb2, hnz, hne, h63', hb3, Question.forced, run_firstCells_none, newRow, grownCap]
  · refine H.add (w' := _) ⟨rfl, rfl, rfl, by simp, fun k hk _ => heap_alloc_old w.drew _ hk⟩ ⟨(fun k hk => by cases hk; exact H.ag.fresh (Nat.le_refl _)), .inr ⟨w.heap.size, _, rfl, rfl, Nat.zero_le _, hcm, heap_alloc_new w.drew _, ?_, ?_⟩⟩ (fun k hk => by cases hk; exact Nat.le_refl _)
    · simp only [Array.size_append, size_zeroCells, hzs, ← Nat.add_mul]
      congr 1
      omega
    · show rowRd K G _ []
      simp [rowRd]
theorem rn_cutz {A : Option Addr} {m cp : Nat} {t e sz : TypeId} {agg : Bool} {s oh : Operand} {k : IntKind} (hl : Sl P t e) (ht : Ty P e sz agg) (hx : ev n T s = .slice A m cp) (hoh : ev n T oh = .int k 0) : Rn P n T (.slice t s none (some oh) none) (.slice A 0 cp) := by
  intro d ty pos af g w
  have ha : A.map (·.add 0) = A := by cases A <;> rfl
  unfold execOp
  simp [hx, hoh, Instr.sliceAt, Instr.slice, run_underlying hl.und, Instr.sliceBounds, Instr.sliceBound, asIntOf, ht.run_size]
  cases A <;> simp [Addr.add]
def growO (m : Int) : Option Unit := if m ≤ 1000000 then some () else none
theorem growO_some {m : Int} {u : Unit} (h : growO m = some u) : decide (m ≤ 1000000) = true := by
  unfold growO at h
  split at h
  · rename_i h1; exact decide_eq_true h1
  · cases h
/-! ### An element of an array's block, at a number that is not known -/
theorem idx_bnd {α : Type} {K : Kd α} {m b tb i : Nat} {l : List α} {j : Int} {x : α} (H : St c G w σ) (hi : σ[i]? = some (.box b tb ((Kd.arr m K).at_ l))) (hj : idx l j = some x) : 0 ≤ j ∧ j < (m : Int) := by
  obtain ⟨_, cs, _, hm, _⟩ := H.okAt hi
  obtain ⟨h0, h1, _⟩ := idx_some hj
  exact ⟨h0, by omega⟩
theorem wl_loadA {α : Type} {K : Kd α} {m b tb i : Nat} {l : List α} {j : Int} {x : α} {d : Nat} {t ty : TypeId} {y : Operand} {pos : String} {af : Array Edge}
    (H : St c G w σ) (hi : σ[i]? = some (.box b tb ((Kd.arr m K).at_ l))) (hj : idx l j = some x) (ht : Ty P t K.sz K.agg) (hx : ev n T y = .pointer (some ⟨b, 0 + j.toNat * K.sz, none⟩))
    (h : ∀ v, K.V G v x → wpList P ops Q rest (mk n (upd T d v)) w) : wpList P ops Q (⟨some d, .load t y, ty, pos, af, none⟩ :: rest) (mk n T) w := by
  obtain ⟨h0, h1⟩ := idx_bnd H hi hj
  obtain ⟨_, h2, hg⟩ := idx_some hj
  have hl : l.getD j.toNat x = x := by simp [List.getD, hg]
  refine wl_load H hi (Lens.elt K m j.toNat x (by rw [Nat.blt_eq]; omega)) ht (by rw [hx, Nat.zero_add]) (fun v hv => h v ?_)
  rw [hl] at hv
  exact hv
theorem wl_marks {g : Option Nat} {A : Option Addr} {cap i : Nat} {l : List Int} {d t e ty : TypeId} {x : Operand} {pos : String} {af : Array Edge} (H : St c G w σ) (hi : σ[i]? = some (.row (Kd.int .u8) g A cap e l)) (hne : Nat.blt 0 l.length = true) (hl : Sl P t e) (he : P.underlying e = some (.int .u8))
    (hx : ev n T x = .slice A l.length cap)
    (h : ∀ G' w', GLe G G' → St c G' w' (σ.eraseIdx i) → SlR (Kd.int .u8) G' A cap l → wpList P ops Q rest (mk n (upd T d (.slice A l.length cap))) w') :
    wpList P ops Q (⟨some d, .convert t t x, ty, pos, af, none⟩ :: rest) (mk n T) w := by
  obtain ⟨h0, ⟨hg0, hn, _⟩ | ⟨k, cur, hk, hA, _⟩⟩ := H.okAt hi
  · have hn : l.length = 0 := hn
    rw [hn] at hne
    cases hne
  · subst hk
    subst hA
    exact wl_marked H hi hl he hx h
theorem rn_cutL {α : Type} {l : List α} {t e m : Nat} {x : Operand} {a : Addr} {sz : Nat} {agg : Bool} (hn : l.length = m) (ha : Ar P t m e) (ht : Ty P e sz agg) (hm : Nat.beq m 0 = false) (hx : ev n T x = .pointer (some a)) : Rn P n T (.slice t x none none none) (.slice (some a) l.length m) := by
  rw [hn]
  exact rn_cutA ha ht hm hx
end
end Go.Proofs.YtadlndnagfnlgaaDoor.W
