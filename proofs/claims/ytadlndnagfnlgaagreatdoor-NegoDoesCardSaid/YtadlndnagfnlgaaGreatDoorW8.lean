/- Words for walks, part 8: operations without memory as runs in whatever world, cuts, and regions in any order with what is come to told once. No program in it. -/
import Derived.Test.YtadlndnagfnlgaaGreatDoorW7
set_option linter.unusedSimpArgs false
set_option linter.unusedVariables false
namespace Go.Proofs.YtadlndnagfnlgaaGreatDoor.W
open Go
section
variable {P : Program} {ops : Array Oper} {Q : Exit → Act → World → Prop} {rest : List Oper} {n : Nat} {T : Fr} {w : World} {c : World} {G : qk} {σ : List Ent}
def Rn (P : Program) (n : Nat) (T : Fr) (op : Op) (v : Value) : Prop := ∀ (d : Option Tmp) (ty : TypeId) (pos : String) (af : Array Edge) (g : Option (Nat × Bool)) (w : World), (execOp (ev n T) ⟨d, op, ty, pos, af, g⟩).run P w = .ok (.value v) w
theorem qb {d : Nat} {op : Op} {ty : TypeId} {pos : String} {af : Array Edge} {v : Value} (hr : Rn P n T op v)
    (h : wpList P ops Q rest (mk n (upd T d v)) w) : wpList P ops Q (⟨some d, op, ty, pos, af, none⟩ :: rest) (mk n T) w := wl_ok (hr _ _ _ _ _ _) h
theorem qa {op : Op} (v : Value) (h : pureV n T op = some v) : Rn P n T op v := fun _ _ _ _ _ _ => run_pureV h _ _ _ _ _
theorem qB {x y z : Operand} (v : Value) (hc : ev n T x = .bool true) (hv : ev n T y = v) : Rn P n T (.pick x y z) v := qa v (by simp [pureV, hc, hv])
theorem qr {x y z : Operand} (v : Value) (hc : ev n T x = .bool false) (hv : ev n T z = v) : Rn P n T (.pick x y z) v := qa v (by simp [pureV, hc, hv])
theorem qh {s i : Nat} {x : Operand} {off k b o : Nat} (ho : zy P s i = some (off, k + 1)) (hx : ev n T x = .pointer (some ⟨b, o, none⟩)) : Rn P n T (.fieldAddr s x i) (.pointer (some ⟨b, o + off, none⟩)) := by
  intro d ty pos af g w
  unfold execOp
  simp only [hx, Sem.run_bind, run_fieldAt ho, Result.andThen_ok, Sem.run_pure, add_plain]
theorem jW {s i : Nat} {x : Operand} {off k : Nat} {a : Addr} (ho : zy P s i = some (off, k + 1)) (hx : ev n T x = .pointer (some a)) : Rn P n T (.fieldAddr s x i) (.pointer (some (a.add off))) := by
  intro d ty pos af g w
  unfold execOp
  simp only [hx, Sem.run_bind, run_fieldAt ho, Result.andThen_ok, Sem.run_pure]
theorem qM {x : Operand} {a : Addr} (hx : ev n T x = .pointer (some a)) : Rn P n T (.nilCheck x) (.pointer (some a)) := by
  intro d ty pos af g w
  unfold execOp
  simp only [hx, Sem.run_pure]
theorem qY {α : Type} {K : Kd α} {A : Option Addr} {cp : Nat} {l : List α} {j : Int} {x : α} {t e : TypeId} {s i : Operand} {k : IntKind}
    (hs : SlR K G A cp l) (hl : Sl P t e) (ht : Ty P e K.sz K.agg) (hx : ev n T s = .slice A l.length cp) (hi : ev n T i = .int k j) (hj : idx l j = some x) : ∃ a, PtR K G a x ∧ Rn P n T (.indexAddr t s i) (.pointer (some a)) := by
  obtain ⟨h0, h1, hg⟩ := idx_some hj
  cases A with
  | none =>
    have := (hs.2.1 rfl).1
    subst this
    simp at hg
  | some a =>
    obtain ⟨cs, hr, hc⟩ := hs.2.2 a rfl _ _ hg
    refine ⟨a.add (j.toNat * K.sz), ⟨cs, hr, fun i v hv => by rw [add_add]; exact hc i v hv⟩, fun d ty pos af g w => ?_⟩
    unfold execOp
    simp [hx, hi, Instr.indexAt, asIntOf, run_underlying hl.und, h0, h1, ht.run_size]
theorem zb {A : Option Addr} {m cp : Nat} {t e : TypeId} {s : Operand} (hl : Sl P t e) (hx : ev n T s = .slice A m cp) : Rn P n T (.call { callee := .builtin .len, args := #[s], argTypes := #[t] }) (.int .i64 (m : Int)) := by
  intro d ty pos af g w
  unfold execOp
  simp [resolve, invoke, builtin, hx, Builtin.len_, run_underlying hl.und, goInt]
theorem zU {k k' : IntKind} {m : Int} {t t' : TypeId} {x : Operand} (hs : P.underlying t = some (.int k')) (hd : P.underlying t' = some (.int k)) (hx : ev n T x = .int k' m) : Rn P n T (.convert t t' x) (.int k (k.wrap m)) := by
  intro d ty pos af g w
  unfold execOp
  simp [hx, convert, run_underlying hs, run_underlying hd, Conv.intToInt]
theorem rn_min {k : IntKind} {a b : Int} {t u : TypeId} {x y : Operand} (hx : ev n T x = .int k a) (hy : ev n T y = .int k b) : Rn P n T (.call { callee := .builtin .min, args := #[x, y], argTypes := #[t, u] }) (.int k (if b < a then b else a)) := by
  intro d ty pos af g w
  unfold execOp
  simp [resolve, invoke, builtin, hx, hy, Builtin.min_, Builtin.min2]
theorem rn_max {k : IntKind} {a b : Int} {t u : TypeId} {x y : Operand} (hx : ev n T x = .int k a) (hy : ev n T y = .int k b) : Rn P n T (.call { callee := .builtin .max, args := #[x, y], argTypes := #[t, u] }) (.int k (if a < b then b else a)) := by
  intro d ty pos af g w
  unfold execOp
  simp [resolve, invoke, builtin, hx, hy, Builtin.max_, Builtin.max2]
theorem qT {α : Type} {K : Kd α} {z x : α} {ps : List (Nat × Value)} {t : TypeId} {parts : List (Nat × Operand)}
    (hz : Zr P t K z) (ha : K.agg = true) (hst : (P.underlying t).map (fun d => match d with | .struct fs => fs.all fun f => (P.info? f.type).isSome | _ => false) = some true)
    (hps : (parts.map fun p => (p.1, ev n T p.2)) = ps) (hp : Parts P t K G z ps x) : ∃ v, K.V G v x ∧ Rn P n T (.build t parts.toArray) v := by
  obtain ⟨v0, hv0, hr0⟩ := hz.zero
  cases hu : P.underlying t with
  | none => simp [hu] at hst
  | some ds =>
    cases ds <;> simp only [hu, Option.map_some, Option.some.injEq, Bool.false_eq_true] at hst
    rename_i fs
    have hplace : ∀ i off sz, zy P t i = some (off, sz) → (fs.map fun f => (f.offset, ((P.info? f.type).map (·.size)).getD 0))[i]? = some (off, sz) := by
      intro i off sz ho
      unfold zy at ho
      simp only [hu] at ho
      split at ho
      · rename_i f hf
        cases hi : P.info? f.type with
        | none => simp [hi] at ho
        | some j =>
          simp only [hi, Option.map_some, Option.some.injEq, Prod.mk.injEq] at ho
          simp [hf, hi, ho.1, ho.2]
      · cases ho
    obtain ⟨cs, hfill, hr⟩ := hp.fill (place := fun i => (fs.map fun f => (f.offset, ((P.info? f.type).map (·.size)).getD 0))[i]?) hplace (cells := v0.cells) (hr0 G).cells
    refine ⟨.agg cs.toArray, ⟨cs, by simp [unc, ha], hr⟩, fun d ty pos af g w => ?_⟩
    have hpl : ∀ f, f ∈ fs → ∀ w, (do pure (f.offset, ← sizeOf f.type) : Sem (Nat × Nat)).run P w = .ok (f.offset, ((P.info? f.type).map (·.size)).getD 0) w := by
      intro f hf w
      have := (Array.all_eq_true_iff_forall_mem.1 hst) f hf
      cases hi : P.info? f.type with
      | none => simp [hi] at this
      | some i => simp [sizeOf, typeInfo, hi]
    have hps' : ((parts.toArray).map fun p => (p.1, ev n T p.2)).toList = ps := by rw [← hps]; simp
    unfold execOp
    simp only [Sem.run_bind, Instr.build, run_zero hv0, Result.andThen_ok, run_underlying hu, run_mapM hpl, hps', hfill, Sem.run_pure]

def cut {α : Type} (l : List α) (lo hi : Option Int) : Option (List α) :=
  if 0 ≤ lo.getD 0 ∧ lo.getD 0 ≤ hi.getD l.length ∧ hi.getD l.length ≤ (l.length : Int) then some ((l.take (hi.getD l.length).toNat).drop (lo.getD 0).toNat) else none
def OB (n : Nat) (T : Fr) : Option Operand → Option Int → Prop
  | none, none => True
  | some x, some i => ∃ k, ev n T x = .int k i
  | _, _ => False
theorem cut_SlR {α : Type} {K : Kd α} {A : Option Addr} {cp l h m : Nat} {x : List α} (hs : SlR K G A cp x) (hlh : l ≤ h) (hh : h ≤ x.length) (hm : h ≤ m) (hc : m ≤ cp) :
    SlR K G (if m = l then A else A.map (·.add (l * K.sz))) (m - l) ((x.take h).drop l) := by
  refine ⟨by simp only [List.length_drop, List.length_take]; omega, fun e => ?_, fun a ha j y hy => ?_⟩
  · have : A = none := by
      split at e
      · exact e
      · cases A with
        | none => rfl
        | some a => cases e
    have := hs.2.1 this
    have : x.length = 0 := by rw [this.1]; rfl
    exact ⟨List.eq_nil_of_length_eq_zero (by simp only [List.length_drop, List.length_take]; omega), by omega⟩
  · have hj := (List.getElem?_eq_some_iff.1 hy).1
    simp only [List.length_drop, List.length_take] at hj
    have hne : ¬ m = l := by omega
    rw [if_neg hne] at ha
    cases A with
    | none => cases ha
    | some a0 =>
      cases ha
      rw [List.getElem?_drop, List.getElem?_take, if_pos (by omega)] at hy
      obtain ⟨cs, hr, hci⟩ := hs.2.2 a0 rfl (l + j) y hy
      refine ⟨cs, hr, fun i v hv => ?_⟩
      have := hci i v hv
      rw [add_add]
      rwa [show (l + j) * K.sz + i = l * K.sz + (j * K.sz + i) by rw [Nat.add_mul]; omega] at this
theorem rn_cut' {α : Type} {K : Kd α} {A : Option Addr} {cp : Nat} {x r : List α} {lo hi : Option Int} {t e : TypeId} {s : Operand} {ol oh : Option Operand}
    (hs : SlR K G A cp x) (hl : Sl P t e) (ht : Ty P e K.sz K.agg) (hx : ev n T s = .slice A x.length cp) (hol : OB n T ol lo) (hoh : OB n T oh hi) (hr : cut x lo hi = some r) :
    ∃ A' c', SlR K G A' c' r ∧ Rn P n T (.slice t s ol oh none) (.slice A' r.length c') := by
  unfold cut at hr
  split at hr
  · rename_i hb
    obtain ⟨h0, h1, h2⟩ := hb
    cases hr
    have hcp := hs.1
    refine ⟨_, _, cut_SlR hs (l := (lo.getD 0).toNat) (h := (hi.getD x.length).toNat) (m := cp) (by omega) (by omega) (by omega) (by omega), fun d ty pos af g w => ?_⟩
    have hlen : ((x.take (hi.getD x.length).toNat).drop (lo.getD 0).toNat).length = (hi.getD x.length).toNat - (lo.getD 0).toNat := by
      simp only [List.length_drop, List.length_take]; omega
    rw [hlen]
    unfold execOp
    cases ol with
    | none =>
      cases lo with
      | some i => exact hol.elim
      | none =>
        cases oh with
        | none =>
          cases hi with
          | some i => exact hoh.elim
          | none => simp [hx, Instr.sliceAt, Instr.slice, run_underlying hl.und, Instr.sliceBounds, ht.run_size]
        | some y =>
          cases hi with
          | none => exact hoh.elim
          | some i =>
            obtain ⟨k, hk⟩ := hoh
            simp only [Option.getD_some, Option.getD_none] at h0 h1 h2
            have hi0 : i ≤ (cp : Int) := by omega
            simp [hx, hk, Instr.sliceAt, Instr.slice, run_underlying hl.und, Instr.sliceBounds, Instr.sliceBound, asIntOf, ht.run_size, h1, hi0]
    | some z =>
      cases lo with
      | none => exact hol.elim
      | some i =>
        obtain ⟨k, hk⟩ := hol
        cases oh with
        | none =>
          cases hi with
          | some i => exact hoh.elim
          | none =>
            simp only [Option.getD_some, Option.getD_none] at h0 h1 h2
            simp [hx, hk, Instr.sliceAt, Instr.slice, run_underlying hl.und, Instr.sliceBounds, Instr.sliceBound, asIntOf, ht.run_size, h0, h1]
        | some y =>
          cases hi with
          | none => exact hoh.elim
          | some j =>
            obtain ⟨k', hk'⟩ := hoh
            simp only [Option.getD_some, Option.getD_none] at h0 h1 h2
            have hj0 : 0 ≤ j := by omega
            have hj1 : j ≤ (cp : Int) := by omega
            have hj2 : i ≤ (j.toNat : Int) := by omega
            simp [hx, hk, hk', Instr.sliceAt, Instr.slice, run_underlying hl.und, Instr.sliceBounds, fun code w => run_sliceBound (P := P) (w := w) k' j cp code hj0 hj1, fun code w => run_sliceBound (P := P) (w := w) k i j.toNat code h0 hj2, ht.run_size]
  · cases hr
theorem rn_cut {α : Type} {K : Kd α} {A : Option Addr} {cp : Nat} {x r : List α} {lo hi : Option Int} {t e : TypeId} {s : Operand} {ol oh : Option Operand}
    (hs : SlR K G A cp x) (hl : Sl P t e) (ht : Ty P e K.sz K.agg) (hx : ev n T s = .slice A x.length cp) (hol : OB n T ol lo) (hoh : OB n T oh hi) (hr : cut x lo hi = some r) :
    ∃ z : Option Addr × Nat, SlR K G z.1 z.2 r ∧ Rn P n T (.slice t s ol oh none) (.slice z.1 r.length z.2) := by
  obtain ⟨A', c', h, h'⟩ := rn_cut' hs hl ht hx hol hoh hr
  exact ⟨(A', c'), h, h'⟩
theorem rn_cutm' {α : Type} {K : Kd α} {A : Option Addr} {cp : Nat} {x r : List α} {lo : Option Int} {hi : Int} {t e : TypeId} {s oh om : Operand} {ol : Option Operand} {k k' : IntKind}
    (hs : SlR K G A cp x) (hl : Sl P t e) (ht : Ty P e K.sz K.agg) (hx : ev n T s = .slice A x.length cp) (hol : OB n T ol lo) (hoh : ev n T oh = .int k hi) (hom : ev n T om = .int k' hi) (hr : cut x lo (some hi) = some r) :
    ∃ A' c', SlR K G A' c' r ∧ Rn P n T (.slice t s ol (some oh) (some om)) (.slice A' r.length c') := by
  unfold cut at hr
  split at hr
  · rename_i hb
    obtain ⟨h0, h1, h2⟩ := hb
    cases hr
    have hcp := hs.1
    simp only [Option.getD_some] at h0 h1 h2
    refine ⟨_, _, cut_SlR hs (l := (lo.getD 0).toNat) (h := ((some hi).getD (x.length : Int)).toNat) (m := hi.toNat) (by simp; omega) (by simp; omega) (by simp) (by omega), fun d ty pos af g w => ?_⟩
    have hlen : ((x.take ((some hi).getD (x.length : Int)).toNat).drop (lo.getD 0).toNat).length = hi.toNat - (lo.getD 0).toNat := by
      simp only [List.length_drop, List.length_take, Option.getD_some]; omega
    rw [hlen]
    have hh0 : 0 ≤ hi := by omega
    have hh1 : hi ≤ (cp : Int) := by omega
    unfold execOp
    cases ol with
    | none =>
      cases lo with
      | some i => exact hol.elim
      | none =>
        simp [hx, hoh, hom, Instr.sliceAt, Instr.slice, run_underlying hl.und, Instr.sliceBounds, fun code w => run_sliceBound (P := P) (w := w) k' hi cp code hh0 hh1, fun code w => run_sliceBound (P := P) (w := w) k hi hi.toNat code hh0 (by omega), ht.run_size]
    | some z =>
      cases lo with
      | none => exact hol.elim
      | some i =>
        obtain ⟨k2, hk⟩ := hol
        simp only [Option.getD_some] at h0 h1
        have hj2 : i ≤ (hi.toNat : Int) := by omega
        simp [hx, hk, hoh, hom, Instr.sliceAt, Instr.slice, run_underlying hl.und, Instr.sliceBounds, fun code w => run_sliceBound (P := P) (w := w) k' hi cp code hh0 hh1, fun code w => run_sliceBound (P := P) (w := w) k hi hi.toNat code hh0 (by omega), fun code w => run_sliceBound (P := P) (w := w) k2 i hi.toNat code h0 hj2, ht.run_size]
  · cases hr
theorem rn_cutm {α : Type} {K : Kd α} {A : Option Addr} {cp : Nat} {x r : List α} {lo : Option Int} {hi : Int} {t e : TypeId} {s oh om : Operand} {ol : Option Operand} {k k' : IntKind}
    (hs : SlR K G A cp x) (hl : Sl P t e) (ht : Ty P e K.sz K.agg) (hx : ev n T s = .slice A x.length cp) (hol : OB n T ol lo) (hoh : ev n T oh = .int k hi) (hom : ev n T om = .int k' hi) (hr : cut x lo (some hi) = some r) :
    ∃ z : Option Addr × Nat, SlR K G z.1 z.2 r ∧ Rn P n T (.slice t s ol (some oh) (some om)) (.slice z.1 r.length z.2) := by
  obtain ⟨A', c', h, h'⟩ := rn_cutm' hs hl ht hx hol hoh hom hr
  exact ⟨(A', c'), h, h'⟩
def li (n m : Nat) : Array Bool := ((List.range n).map fun i => Nat.testBit m i).toArray
theorem jP {id : Nat} {ops : Array Oper} {f : Nat} (H : St c G w σ) (hm : P.follows .mixedOrders = true)
    (h : ∀ w', St c G w' σ → Any P ops Q f (li f 0) (mk n T) w') (hf : ops.size = f := by kernel_rfl) (hl : Array.replicate f false = li f 0 := by kernel_rfl) : (Code.region id ops true).wp P Q (mk n T) w := by
  refine wc_any hm (fun w' e => ?_)
  rw [hf, hl]
  refine h w' ?_
  subst e
  exact H.drew
theorem xW {fuel : Nat} {listed : Array Bool} {a : Act} (h : PF Q) (k : PF Q → Region.noSelect ops = true → Any P ops Q fuel listed a w) (hs : Region.noSelect ops = true := by kernel_rfl) : Any P ops Q fuel listed a w := k h hs
theorem qF {fuel fuel' z m m' : Nat} {a' : Act} (I : Act → World → Prop) (hI : ∀ a w, I a w → Any P ops Q fuel (li z m) a w)
    {w' : World} (h : (∀ a w, I a w → Any P ops Q fuel (li z m) a w) → Any P ops Q fuel' (li z m') a' w') : Any P ops Q fuel' (li z m') a' w' := h hI
section
variable {i fuel z m m' : Nat} {oi oj : Oper} {d j dj : Nat} {b : Bool} {v : Value}
theorem qq (hi : ops[i]? = some oi) (hv : Rn P n T oi.op v) (hQ : PF Q) (hs : Region.noSelect ops = true)
    (h : Any P ops Q fuel (li z m') (mk n (upd T d v)) w) (hd : oi.dst = some d := by rfl) (hg : oi.guard = none := by rfl) (hf : Region.free .any ops (li z m) i = true := by kernel_rfl)
    (hr : (Region.ready .any ops (li z m)).contains i = true := by kernel_rfl) (hl : (li z m).setIfInBounds i true = li z m' := by kernel_rfl) : Any P ops Q (fuel + 1) (li z m) (mk n T) w :=
  any_take v hi hd hs hf hr hl hQ hg (fun w => hv _ _ _ _ _ w) h
theorem zE (dj : Nat) (b : Bool) (hi : ops[i]? = some oi) (hv : Rn P n T oi.op v) (hb : T dj = .bool b) (hQ : PF Q) (hs : Region.noSelect ops = true)
    (h : Any P ops Q fuel (li z m') (mk n (upd T d v)) w) (hd : oi.dst = some d := by rfl) (hg : oi.guard = some (j, b) := by rfl) (hj : ops[j]? = some oj := by rfl) (hdj : oj.dst = some dj := by rfl) (hn : Nat.blt dj n = true := by rfl) (hf : Region.free .any ops (li z m) i = true := by kernel_rfl)
    (hr : (Region.ready .any ops (li z m)).contains i = true := by kernel_rfl) (hl : (li z m).setIfInBounds i true = li z m' := by kernel_rfl) : Any P ops Q (fuel + 1) (li z m) (mk n T) w :=
  any_on v hi hd hs hf hr hl hQ hg hj hdj hn hb (fun w => hv _ _ _ _ _ w) h
theorem qS (dj : Nat) (b : Bool) (hi : ops[i]? = some oi) (hb : T dj = .bool (!b)) (hQ : PF Q) (hs : Region.noSelect ops = true)
    (h : Any P ops Q fuel (li z m') (mk n (upd T d undef)) w) (hd : oi.dst = some d := by rfl) (hg : oi.guard = some (j, b) := by rfl) (hj : ops[j]? = some oj := by rfl) (hdj : oj.dst = some dj := by rfl) (hn : Nat.blt dj n = true := by rfl) (hf : Region.free .any ops (li z m) i = true := by kernel_rfl)
    (hr : (Region.ready .any ops (li z m)).contains i = true := by kernel_rfl) (hl : (li z m).setIfInBounds i true = li z m' := by kernel_rfl) : Any P ops Q (fuel + 1) (li z m) (mk n T) w :=
  any_off hi hd hs hf hr hl hQ hg hj hdj hn hb h
theorem jD {ι : Type} {p : ι → Prop} {v : ι → Value} (hi : ops[i]? = some oi) (hv : ∃ x, p x ∧ Rn P n T oi.op (v x)) (hQ : PF Q) (hs : Region.noSelect ops = true)
    (h : ∀ x, p x → Any P ops Q fuel (li z m') (mk n (upd T d (v x))) w) (hd : oi.dst = some d := by rfl) (hg : oi.guard = none := by rfl) (hf : Region.free .any ops (li z m) i = true := by kernel_rfl)
    (hr : (Region.ready .any ops (li z m)).contains i = true := by kernel_rfl) (hl : (li z m).setIfInBounds i true = li z m' := by kernel_rfl) : Any P ops Q (fuel + 1) (li z m) (mk n T) w := by
  obtain ⟨x, hp, hx⟩ := hv
  exact qq hi hx hQ hs (h x hp) hd hg hf hr hl
theorem any_rnEG {ι : Type} {p : ι → Prop} {v : ι → Value} (dj : Nat) (b : Bool) (hi : ops[i]? = some oi) (hv : ∃ x, p x ∧ Rn P n T oi.op (v x)) (hb : T dj = .bool b) (hQ : PF Q) (hs : Region.noSelect ops = true)
    (h : ∀ x, p x → Any P ops Q fuel (li z m') (mk n (upd T d (v x))) w) (hd : oi.dst = some d := by rfl) (hg : oi.guard = some (j, b) := by rfl) (hj : ops[j]? = some oj := by rfl) (hdj : oj.dst = some dj := by rfl) (hn : Nat.blt dj n = true := by rfl) (hf : Region.free .any ops (li z m) i = true := by kernel_rfl)
    (hr : (Region.ready .any ops (li z m)).contains i = true := by kernel_rfl) (hl : (li z m).setIfInBounds i true = li z m' := by kernel_rfl) : Any P ops Q (fuel + 1) (li z m) (mk n T) w := by
  obtain ⟨x, hp, hx⟩ := hv
  exact zE dj b hi hx hb hQ hs (h x hp) hd hg hj hdj hn hf hr hl
end
theorem qR {ι : Type} {p : ι → Prop} {v : ι → Value} {d : Nat} {op : Op} {ty : TypeId} {pos : String} {af : Array Edge} (hr : ∃ x, p x ∧ Rn P n T op (v x))
    (h : ∀ x, p x → wpList P ops Q rest (mk n (upd T d (v x))) w) : wpList P ops Q (⟨some d, op, ty, pos, af, none⟩ :: rest) (mk n T) w := by
  obtain ⟨x, hp, hx⟩ := hr
  exact qb hx (h x hp)
def Alls (P : Program) (ops : Array Oper) (Q : Exit → Act → World → Prop) (fuel : Nat) (listed : Array Bool) (a : Act) (w : World) : List Nat → Prop
  | [] => True
  | i :: l => wpOp P ops Q i (wpAny P .any ops Q fuel (listed.setIfInBounds i true)) a w ∧ Alls P ops Q fuel listed a w l
theorem alls_mem {fuel : Nat} {listed : Array Bool} {a : Act} : ∀ {rs : List Nat}, Alls P ops Q fuel listed a w rs → ∀ i, i ∈ rs → wpOp P ops Q i (wpAny P .any ops Q fuel (listed.setIfInBounds i true)) a w
  | [], _, i, hi => by cases hi
  | j :: rs, h, i, hi => by
    rcases List.mem_cons.1 hi with rfl | hi
    · exact h.1
    · exact alls_mem h.2 i hi
theorem qi {fuel : Nat} {listed : Array Bool} {a : Act} (rs : List Nat)
    (h : Alls P ops Q fuel listed a w rs) (hr : Region.ready .any ops listed = rs := by kernel_rfl) (hne : rs.isEmpty = false := by rfl) : Any P ops Q (fuel + 1) listed a w := wpAny_all hr (by intro e; rw [e] at hne; simp at hne) (alls_mem h)
theorem qg {i fuel z m m' : Nat} {oi : Oper}
    (h : ∀ Q' : Exit → Act → World → Prop, (∀ a w, Any P ops Q fuel (li z m') a w → Q' .normal a w) → wpList P ops Q' [oi] (mk n T) w) (hi : ops[i]? = some oi := by rfl) (hl : (li z m).setIfInBounds i true = li z m' := by kernel_rfl) :
    wpOp P ops Q i (wpAny P .any ops Q fuel ((li z m).setIfInBounds i true)) (mk n T) w := any_op hi hl (fun Q' hN _ _ => h Q' hN)
theorem zA {listed : Array Bool} {fuel : Nat} (h : Q .normal (mk n T) w) (hr : Region.ready .any ops listed = [] := by kernel_rfl) : Any P ops Q fuel listed (mk n T) w := any_done hr h
end
end Go.Proofs.YtadlndnagfnlgaaGreatDoor.W
