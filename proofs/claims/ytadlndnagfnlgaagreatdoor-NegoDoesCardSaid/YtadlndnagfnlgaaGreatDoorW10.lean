/- Words for walks, part 10: arrays, blocks that come to stay, bytes as a string, maps. No program in it. -/
import Derived.Test.YtadlndnagfnlgaaGreatDoorW9
import Derived.Laws.BytesString
import Derived.MapKept
import Derived.Carry
set_option linter.unusedSimpArgs false
set_option linter.unusedVariables false
namespace Go.Proofs.YtadlndnagfnlgaaGreatDoor.W
open Go Go.MapKept
theorem zN.split {α : Type} {K : Kd α} {G : qk} {d : α} : ∀ {l : List α} {cs : List Value} {i : Nat}, zN K G cs l → i < l.length →
    K.rd G ((cs.drop (i * K.sz)).take K.sz) (l.getD i d) ∧ ∀ {ys : List Value} {y : α}, K.rd G ys y → zN K G (cs.take (i * K.sz) ++ ys ++ cs.drop (i * K.sz + ys.length)) (l.set i y)
  | [], _, _, _, hi => by simp at hi
  | x :: l, cs, 0, h, _ => by
    obtain ⟨c1, c2, rfl, h1, h2⟩ := h
    have hl := K.len h1
    refine ⟨?_, fun {ys y} hy => ?_⟩
    · simp only [Nat.zero_mul, List.drop_zero]
      rw [← hl, List.take_left]
      exact h1
    · have hy' := K.len hy
      simp only [Nat.zero_mul, List.take_zero, List.nil_append, Nat.zero_add, List.set_cons_zero]
      rw [show ys.length = c1.length by omega, List.drop_left]
      exact ⟨ys, c2, rfl, hy, h2⟩
  | x :: l, cs, i + 1, h, hi => by
    obtain ⟨c1, c2, rfl, h1, h2⟩ := h
    have hl := K.len h1
    obtain ⟨a, b⟩ := zN.split (d := d) (i := i) h2 (by simpa using hi)
    have e : (i + 1) * K.sz = c1.length + i * K.sz := by rw [Nat.add_mul]; omega
    refine ⟨?_, fun {ys y} hy => ?_⟩
    · rw [e, ← List.drop_drop, List.drop_left]
      simpa using a
    · have := b hy
      rw [e, List.take_append, List.take_of_length_le (Nat.le_add_right _ _), Nat.add_sub_cancel_left, Nat.add_assoc, ← List.drop_drop, List.drop_left]
      exact ⟨c1, _, by simp only [List.append_assoc], h1, this⟩
theorem Lens.elt {α : Type} (K : Kd α) (m i : Nat) (d : α) (hi : Nat.blt i m = true) : Lens (Kd.arr m K) (i * K.sz) K (fun l => l.getD i d) (fun l y => l.set i y) where
  fits := by
    have hi : i < m := by simpa [Nat.blt_eq] using hi
    show i * K.sz + K.sz ≤ m * K.sz
    rw [← Nat.succ_mul]
    exact Nat.mul_le_mul_right _ hi
  get h := (h.2.split (by have := h.1; have : i < m := (by simpa [Nat.blt_eq] using hi); omega)).1
  put h h' := ⟨by have := h.1; simpa using this, (zN.split (d := d) h.2 (by have := h.1; have : i < m := (by simpa [Nat.blt_eq] using hi); omega)).2 h'⟩
section
variable {P : Program} {ops : Array Oper} {Q : Exit → Act → World → Prop} {rest : List Oper} {n : Nat} {T : Fr} {w : World} {c : World} {G : qk} {σ : List Ent}
structure Ar (P : Program) (t : TypeId) (m : Nat) (e : TypeId) : Prop where und : P.underlying t = some (.array m e)
theorem rn_indexA {t e m o b : Nat} {x i : Operand} {k : IntKind} {j : Int} {sz : Nat} {agg : Bool} (ha : Ar P t m e) (ht : Ty P e sz agg) (hx : ev n T x = .pointer (some ⟨b, o, none⟩)) (hi : ev n T i = .int k j) (h0 : 0 ≤ j) (h1 : j < m) :
    Rn P n T (.indexAddr t x i) (.pointer (some ⟨b, o + j.toNat * sz, none⟩)) := by
  intro d ty pos af g w
  unfold execOp
  simp [hx, hi, Instr.indexAt, Instr.sureAddr, asIntOf, run_underlying ha.und, h0, h1, ht.run_size, add_plain]
theorem rn_arr {α : Type} {K : Kd α} {z : List α} {vs : List Value} {xs : List α} {t e m : Nat} {parts : List (Nat × Operand)} (hz : Zr P t (Kd.arr m K) z) (ha : Ar P t m e) (ht : Ty P e K.sz K.agg)
    (hps : (parts.map fun p => (p.1, ev n T p.2)) = enumV 0 vs) (hv : Vs K G vs xs) (hm : xs.length = m) : ∃ v, (Kd.arr m K).V G v xs ∧ Rn P n T (.build t parts.toArray) v := by
  obtain ⟨v0, hv0, hr0⟩ := hz.zero
  have h0 := (hr0 G).cells
  have hl0 := (Kd.arr m K).len h0
  have hvl := hv.len
  have hrow := hv.row
  have hfill : Instr.fill (fun i => some (i * K.sz, K.sz)) v0.cells (enumV 0 vs) = some (vs.flatMap fun v => v.cells.toList).toArray := by
    have := fill_enum (k := 0) (cells := v0.cells) hv (by simp only [Array.length_toList] at hl0; rw [hl0, Nat.zero_add, hvl, hm]; rfl)
    simpa using this
  refine ⟨.agg (vs.flatMap fun v => v.cells.toList).toArray, ⟨_, rfl, hm, hrow⟩, fun d ty pos af g w => ?_⟩
  have hps' : ((parts.toArray).map fun p => (p.1, ev n T p.2)).toList = enumV 0 vs := by rw [← hps]; simp
  unfold execOp
  simp only [Sem.run_bind, Instr.build, run_zero hv0, Result.andThen_ok, run_underlying ha.und, ht.run_size, hps', hfill, Sem.run_pure]
theorem St.sealbox {α : Type} {K : Kd α} {b t : Nat} {x : α} {i : Nat} (H : St c G w σ) (hi : σ[i]? = some (.box b t (K.at_ x))) : ∃ G', GLe G G' ∧ St c G' w (σ.eraseIdx i) ∧ PtR K G' ⟨b, 0, none⟩ x := by
  have hF := H.front hi
  obtain ⟨h0, cs, hh, hr⟩ := H.okAt hi
  obtain ⟨hle, hS⟩ := hF.keep b rfl _ hh
  refine ⟨_, hle, hS, cs, K.mono hle hr, fun i v hv => ?_⟩
  rw [add_plain, Nat.zero_add]
  simp only [gcell, qk.with_, if_true]
  simpa using hv
theorem PtR.slice {α : Type} {K : Kd α} {m : Nat} {a : Addr} {l : List α} (h : PtR (Kd.arr m K) G a l) : SlR K G (some a) m l ∧ l.length = m := by
  obtain ⟨cs, ⟨hm, hr⟩, hc⟩ := h
  refine ⟨⟨Nat.le_of_eq hm, (fun e => by cases e), fun a' ha j x hx => ?_⟩, hm⟩
  cases ha
  obtain ⟨c1, h1, h2⟩ := hr.at_ j x hx
  exact ⟨c1, h1, fun i v hv => hc _ v (h2 i v hv)⟩
def bstr (l : List Int) : ByteArray := l.foldl (fun r n => r.push (UInt8.ofNat n.toNat)) ByteArray.empty
theorem rowRd_ints {k : IntKind} : ∀ {l : List Int} {cs : List Value}, zN (Kd.int k) G cs l → cs = l.map (Value.int k)
  | [], _, h => h
  | x :: l, cs, h => by
    obtain ⟨c1, c2, rfl, h1, h2⟩ := h
    have : c1 = [.int k x] := h1
    rw [this, rowRd_ints h2]
    rfl
theorem wl_bstr {A : Option Addr} {cp : Nat} {l : List Int} {d : Nat} {t t' e ty : TypeId} {x : Operand} {pos : String} {af : Array Edge} (H : St c G w σ) (hs : SlR (Kd.int .u8) G A cp l) (hl : Sl P t e) (he : P.underlying e = some (.int .u8)) (hd : P.underlying t' = some .string) (hx : ev n T x = .slice A l.length cp)
    (h : wpList P ops Q rest (mk n (upd T d (.string (bstr l)))) w) : wpList P ops Q (⟨some d, .convert t t' x, ty, pos, af, none⟩ :: rest) (mk n T) w := by
  refine wl_ok (v := .string (bstr l)) ?_ h
  unfold execOp
  simp only [hx, Sem.run_bind]
  rw [run_convert_bytes_string w t t' e A l.length cp hl.und he hd]
  cases A with
  | none =>
    have := (hs.2.1 rfl).1
    subst this
    simp [Conv.bytesToString, bstr]
  | some a =>
    obtain ⟨_, hsr⟩ := hs.src H.ag
    obtain ⟨news, hr, hc⟩ := hsr a rfl
    have e1 := rowRd_ints hr
    subst e1
    have hlc := run_loadCells_list (P := P) w a (l.map (Value.int .u8)) hc
    rw [List.length_map] at hlc
    rw [run_bytesToString w a l.length cp l (by rw [hlc]), Result.andThen_ok]
    rfl

theorem wl_makeMap {d t ty : Nat} {pos : String} {af : Array Edge} (H : St c G w σ)
    (h : ∀ r w', St c G w' (.mp r [] 0 :: σ) → wpList P ops Q rest (mk n (upd T d (.map (some r)))) w') : wpList P ops Q (⟨some d, .makeMap t none, ty, pos, af, none⟩ :: rest) (mk n T) w := by
  refine wl_ok (v := .map (some w.heap.size)) (w' := w.alloc (.map #[] 0)) ?_ (h _ _ ?_)
  · unfold execOp
    rw [Sem.run_bind, show (Instr.makeMap t (Option.map (ev n T) none)).run P w = .ok (.map (some w.heap.size)) (w.alloc (.map #[] 0)) from rfl]
    rfl
  · exact H.add (World.grownBy_alloc w _ none) ⟨H.ag.fresh (Nat.le_refl _), heap_alloc_new w _⟩ (fun k hk => by cases hk; exact Nat.le_refl _)
theorem zz {r i clock : Nat} {es : List MapEntry} {kd : TypeDesc} {key val : Value} {t kt et ty : TypeId} {x y z : Operand} {pos : String} {af : Array Edge} (H : St c G w σ) (hi : σ[i]? = some (.mp r es clock))
    (ht : P.underlying t = some (.map kt et)) (hkd : P.underlying kt = some kd) (hx : ev n T x = .map (some r)) (hy : ev n T y = key) (hz : ev n T z = val) (hk : IsKey kd key) (hf : Instr.findNow kd key es 0 = some none)
    (h : ∀ w', St c G w' (σ.set i (.mp r (es ++ [⟨key, val, clock⟩]) (clock + 1))) → wpList P ops Q rest (mk n T) w') : wpList P ops Q (⟨none, .insert t x y z, ty, pos, af, none⟩ :: rest) (mk n T) w := by
  obtain ⟨h0, hh⟩ := H.okAt hi
  have hset := heap_set (o' := .map (es.toArray.push ⟨key, val, clock⟩) (clock + 1)) hh
  refine wl_skip (w' := { w with heap := w.heap.setIfInBounds r (.map (es.toArray.push ⟨key, val, clock⟩) (clock + 1)) }) ?_ (h _ ?_)
  · have h1 := run_findKey (P := P) (w := w) hkd hf
    have h2 := run_checkKey (P := P) (w := w) hkd hk false 9999
    unfold execOp
    simp only [hx, hy, hz, Sem.run_bind, Instr.mapUpdate, run_underlying ht, Result.andThen_ok, Go.MapKept.run_getObj_map hh, h2, h1, Go.MapKept.run_setObj_map _ hh, Sem.run_pure]
  · refine H.turnAt (X := some r) hi ⟨rfl, rfl, rfl, by simp, fun k hk hne => hset.2 k (fun e => hne (by rw [e]))⟩ (fun k hk => hk) ⟨h0, ?_⟩ (fun k hk => .inl hk)
    rw [hset.1]
    simp
theorem run_lookup_mp {r i clock : Nat} {es : List MapEntry} {kd : TypeDesc} {key val : Value} {t kt et : TypeId} {b ok : Bool} (H : St c G w σ) (hi : σ[i]? = some (.mp r es clock))
    (ht : P.underlying t = some (.map kt et)) (hkd : P.underlying kt = some kd) (hk : IsKey kd key)
    (hf : ∃ a, Instr.findNow kd key es 0 = some a ∧ ((∃ j, a = some (j, val) ∧ ok = true) ∨ (a = none ∧ ok = false ∧ (P.info? et).map (·.zero) = some (some val)))) :
    (Instr.lookup t (.map (some r)) key b).run P w = .ok (if b then .tuple #[val, .bool ok] else val) w := by
  obtain ⟨h0, hh⟩ := H.okAt hi
  obtain ⟨a, hfn, hv⟩ := hf
  have h1 := run_findKey (P := P) (w := w) hkd hfn
  have h2 := run_checkKey (P := P) (w := w) hkd hk es.toArray.isEmpty 9999
  simp only [Sem.run_bind, Instr.lookup, run_underlying ht, Result.andThen_ok, Go.MapKept.run_getObj_map hh, Sem.run_pure, h2, h1]
  rcases hv with ⟨j, rfl, rfl⟩ | ⟨rfl, rfl, hz⟩
  · simp only [Sem.run_bind, Sem.run_pure, Result.andThen_ok]
  · simp only [Sem.run_bind, run_zero hz, Sem.run_pure, Result.andThen_ok]
theorem jA {r i clock : Nat} {es : List MapEntry} {kd : TypeDesc} {key val : Value} {d t kt et ty : TypeId} {x y : Operand} {b ok : Bool} {pos : String} {af : Array Edge} (H : St c G w σ) (hi : σ[i]? = some (.mp r es clock))
    (ht : P.underlying t = some (.map kt et)) (hkd : P.underlying kt = some kd) (hx : ev n T x = .map (some r)) (hy : ev n T y = key) (hk : IsKey kd key)
    (hf : ∃ a, Instr.findNow kd key es 0 = some a ∧ ((∃ j, a = some (j, val) ∧ ok = true) ∨ (a = none ∧ ok = false ∧ (P.info? et).map (·.zero) = some (some val))))
    (h : wpList P ops Q rest (mk n (upd T d (if b then .tuple #[val, .bool ok] else val))) w) : wpList P ops Q (⟨some d, .lookup t x y b, ty, pos, af, none⟩ :: rest) (mk n T) w := by
  refine wl_ok (v := if b then .tuple #[val, .bool ok] else val) ?_ h
  unfold execOp
  simp only [hx, hy, Sem.run_bind, run_lookup_mp H hi ht hkd hk hf, Result.andThen_ok, Sem.run_pure]
theorem zx {k : IntKind} {a b : Int} {v : Value} {es : List MapEntry} {j bn : Nat} {x : Option (Nat × Value)} (hn : (a == b) = false) (h : Instr.findNow (.int k) (.int k a) es (j + 1) = some x) : Instr.findNow (.int k) (.int k a) (⟨.int k b, v, bn⟩ :: es) j = some x := by
  simp [Instr.findNow, Instr.sameNow, hn, h]
theorem fnd_yes {k : IntKind} {a b : Int} {v : Value} {es : List MapEntry} {j bn : Nat} (hn : (a == b) = true) : Instr.findNow (.int k) (.int k a) (⟨.int k b, v, bn⟩ :: es) j = some (some (j, v)) := by
  simp [Instr.findNow, Instr.sameNow, hn]
def lkI (l : List (Int × Int)) (a : Int) : Option Int := (l.find? fun p => a == p.1).map (·.2)
theorem fnd_lkI {k k' : IntKind} {a : Int} : ∀ {l : List (Int × Int)} {es : List MapEntry} {j : Nat}, (es.map fun e => (e.key, e.val)) = l.map (fun p => (Value.int k p.1, Value.int k' p.2)) →
    ∃ x, Instr.findNow (.int k) (.int k a) es j = some x ∧ x.map (·.2) = (lkI l a).map (Value.int k')
  | [], [], j, _ => ⟨none, rfl, rfl⟩
  | [], _ :: _, _, h => by simp at h
  | _ :: _, [], _, h => by simp at h
  | (b, v) :: l, e :: es, j, h => by
    simp only [List.map_cons, List.cons.injEq, Prod.mk.injEq] at h
    obtain ⟨⟨hk, hv⟩, hr⟩ := h
    obtain ⟨x, hx, he⟩ := fnd_lkI (a := a) (j := j + 1) hr
    cases hq : a == b with
    | true =>
      refine ⟨some (j, e.val), by simp [Instr.findNow, Instr.sameNow, hk, hq], ?_⟩
      simp [lkI, List.find?, hq, hv]
    | false =>
      refine ⟨x, by simp [Instr.findNow, Instr.sameNow, hk, hq, hx], ?_⟩
      simpa [lkI, List.find?, hq] using he
theorem wl_lookupI {r i clock : Nat} {es : List MapEntry} {l : List (Int × Int)} {k k' : IntKind} {a : Int} {d t kt et ty : TypeId} {x y : Operand} {pos : String} {af : Array Edge} (H : St c G w σ) (hi : σ[i]? = some (.mp r es clock))
    (ht : P.underlying t = some (.map kt et)) (hkd : P.underlying kt = some (.int k)) (hx : ev n T x = .map (some r)) (hy : ev n T y = .int k a) (he : (es.map fun e => (e.key, e.val)) = l.map (fun p => (Value.int k p.1, Value.int k' p.2)))
    (hz : (P.info? et).map (·.zero) = some (some (.int k' 0)))
    (h : wpList P ops Q rest (mk n (upd T d (.int k' ((lkI l a).getD 0)))) w) : wpList P ops Q (⟨some d, .lookup t x y false, ty, pos, af, none⟩ :: rest) (mk n T) w := by
  obtain ⟨z, hz1, hz2⟩ := fnd_lkI (a := a) (j := 0) he
  cases hl : lkI l a with
  | none =>
    rw [hl] at hz2 h
    cases z with
    | some z => simp at hz2
    | none => exact jA (val := .int k' 0) (ok := false) H hi ht hkd hx hy (by simp [IsKey]) ⟨_, hz1, .inr ⟨rfl, rfl, hz⟩⟩ h
  | some v =>
    rw [hl] at hz2 h
    cases z with
    | none => simp at hz2
    | some z =>
      simp only [Option.map_some, Option.some.injEq] at hz2
      exact jA (val := .int k' v) (ok := true) H hi ht hkd hx hy (by simp [IsKey]) ⟨_, hz1, .inl ⟨z.1, by rw [← hz2], rfl⟩⟩ h
theorem rn_isnil {t e t' : TypeId} {x y : Operand} {A : Option Addr} {m cp : Nat} (hl : Sl P t e) (hx : ev n T x = .slice A m cp) (hy : ev n T y = .slice none 0 0) : Rn P n T (.binOp .eql t x y t') (.bool (Option.isNone A)) := by
  intro d ty pos af g w
  have hq : ∀ (k : Nat) (w : World), (Op.equalIn (k + 1) t (.slice A m cp) (.slice none 0 0)).run P w = .ok (Option.isNone A) w := by
    intro k w
    unfold Op.equalIn
    cases A <;> simp [run_underlying hl.und]
  have hq' : ∀ w : World, (Op.equalIn 10000 t (.slice A m cp) (.slice none 0 0)).run P w = .ok (Option.isNone A) w := hq 9999
  unfold execOp
  simp only [hx, hy, Sem.run_bind, eqGuard, binOp, Op.equal, Op.maxDepth]
  simp [hq']
theorem isnil {α : Type} (A : Option α) : A = none ∨ Option.isNone A = false := by cases A <;> simp
theorem rn_indexV {α : Type} {K : Kd α} {t e m : Nat} {x i : Operand} {k : IntKind} {j : Int} {v : Value} {l : List α} {y : α} (ha : Ar P t m e) (ht : Ty P e K.sz K.agg) (hx : ev n T x = v) (hv : (Kd.arr m K).V G v l) (hi : ev n T i = .int k j) (hj : idx l j = some y) :
    ∃ u, K.V G u y ∧ Rn P n T (.index t x i) u := by
  obtain ⟨h0, h1, hg⟩ := idx_some hj
  obtain ⟨cs, rfl, hm, hr⟩ := hv
  have hjm : j < (m : Int) := by omega
  have hjl : j.toNat < l.length := by omega
  have hs := hr.split (d := y) hjl
  have hy : l.getD j.toNat y = y := by simp [List.getD, hg]
  rw [hy] at hs
  refine ⟨_, ⟨_, rfl, hs.1⟩, fun d ty pos af g w => ?_⟩
  have hlen := zN.len hr
  have hle : j.toNat * K.sz + K.sz ≤ cs.length := by
    rw [hlen, ← Nat.succ_mul]
    exact Nat.mul_le_mul_right _ hjl
  have hp := run_part_K ht hs.1 (cs.take (j.toNat * K.sz)) (cs.drop (j.toNat * K.sz + K.sz)) (off := j.toNat * K.sz) (by rw [List.length_take]; omega) w
  have hcs : cs.take (j.toNat * K.sz) ++ ((cs.drop (j.toNat * K.sz)).take K.sz ++ cs.drop (j.toNat * K.sz + K.sz)) = cs := by
    rw [← List.drop_drop, List.take_append_drop, List.take_append_drop]
  rw [hcs] at hp
  have hag : (Kd.arr m K).agg = true := rfl
  simp only [unc, hag, if_true] at hx
  unfold execOp
  simp [hx, hi, Instr.index, asIntOf, run_underlying ha.und, h0, hjm, ht.run_size, hp]
def nxt (s : ByteArray) (pos : Nat) : Int × Nat := ((Utf8.decode s pos).1, pos + (Utf8.decode s pos).2)
theorem wl_range {d t ty : Nat} {x : Operand} {s : ByteArray} {pos : String} {af : Array Edge} (H : St c G w σ) (hl : P.underlying t = some .string) (hx : ev n T x = .string s)
    (h : ∀ r w', St c G w' (.it r s 0 :: σ) → wpList P ops Q rest (mk n (upd T d (.pointer (some ⟨r, 0, none⟩)))) w') : wpList P ops Q (⟨some d, .range t x, ty, pos, af, none⟩ :: rest) (mk n T) w := by
  refine wl_ok (v := .pointer (some ⟨w.heap.size, 0, none⟩)) (w' := w.alloc (.stringIter s 0)) ?_ (h _ _ ?_)
  · unfold execOp
    simp [hx, Instr.range, run_underlying hl]
  · exact H.add (World.grownBy_alloc w _ none) ⟨H.ag.fresh (Nat.le_refl _), heap_alloc_new w _⟩ (fun k hk => by cases hk; exact Nat.le_refl _)
theorem wl_nextT {d ty r i : Nat} {x : Operand} {s : ByteArray} {p : Nat} {pos : String} {af : Array Edge} (H : St c G w σ) (hi : σ[i]? = some (.it r s p)) (hx : ev n T x = .pointer (some ⟨r, 0, none⟩)) (hp : decide (p < s.size) = true)
    (h : ∀ w', St c G w' (σ.set i (.it r s (nxt s p).2)) → wpList P ops Q rest (mk n (upd T d (.tuple #[.bool true, .int .i64 (p : Int), .int .i32 (nxt s p).1]))) w') : wpList P ops Q (⟨some d, .next x true, ty, pos, af, none⟩ :: rest) (mk n T) w := by
  have hp : p < s.size := of_decide_eq_true hp
  obtain ⟨h0, hh⟩ := H.okAt hi
  have hset := Go.MapKept.heap_set (o' := .stringIter s (nxt s p).2) hh
  refine wl_ok (v := .tuple #[.bool true, .int .i64 (p : Int), .int .i32 (nxt s p).1]) (w' := { w with heap := w.heap.setIfInBounds r (.stringIter s (nxt s p).2) }) ?_ (h _ ?_)
  · have hg : (getObj r).run P w = .ok (.stringIter s p) w := by simp [getObj, Sem.run, hh]
    have hs' : (setObj r (.stringIter s (p + (Utf8.decode s p).2))).run P w = .ok () { w with heap := w.heap.setIfInBounds r (.stringIter s (p + (Utf8.decode s p).2)) } := by simp [setObj, Sem.run, hh]
    unfold execOp
    simp only [hx, Instr.next, Sem.run_bind, hg, Result.andThen_ok, if_pos hp, hs', Sem.run_pure, nxt, goInt]
  · refine H.turnAt (X := some r) hi ⟨rfl, rfl, rfl, by simp, fun k hk hne => hset.2 k (fun e => hne (by rw [e]))⟩ (fun k hk => hk) ⟨h0, hset.1⟩ (fun k hk => .inl hk)
theorem wl_nextF {d ty r i : Nat} {x : Operand} {s : ByteArray} {p : Nat} {pos : String} {af : Array Edge} (H : St c G w σ) (hi : σ[i]? = some (.it r s p)) (hx : ev n T x = .pointer (some ⟨r, 0, none⟩)) (hp : decide (p < s.size) = false)
    (h : wpList P ops Q rest (mk n (upd T d (.tuple #[.bool false]))) w) : wpList P ops Q (⟨some d, .next x true, ty, pos, af, none⟩ :: rest) (mk n T) w := by
  have hp : ¬ p < s.size := of_decide_eq_false hp
  obtain ⟨h0, hh⟩ := H.okAt hi
  refine wl_ok (v := .tuple #[.bool false]) ?_ h
  have hg : (getObj r).run P w = .ok (.stringIter s p) w := by simp [getObj, Sem.run, hh]
  unfold execOp
  simp only [hx, Instr.next, Sem.run_bind, hg, Result.andThen_ok, if_neg hp, Sem.run_pure]
end
end Go.Proofs.YtadlndnagfnlgaaGreatDoor.W
