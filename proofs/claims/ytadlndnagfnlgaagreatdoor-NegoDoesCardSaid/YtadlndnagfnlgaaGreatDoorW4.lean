/- Words for walks, part 4: one lemma for each form of operation, over frames as functions. No program in it. -/
import Derived.Test.YtadlndnagfnlgaaGreatDoorW3
set_option linter.unusedSimpArgs false
set_option linter.unusedVariables false
namespace Go.Proofs.YtadlndnagfnlgaaGreatDoor.W
open Go

def bAnd (k : IntKind) (a b : Int) : Int := k.wrap (BitVec.ofInt k.bits a &&& BitVec.ofInt k.bits b).toNat
def bOr (k : IntKind) (a b : Int) : Int := k.wrap (BitVec.ofInt k.bits a ||| BitVec.ofInt k.bits b).toNat
def bXor (k : IntKind) (a b : Int) : Int := k.wrap (BitVec.ofInt k.bits a ^^^ BitVec.ofInt k.bits b).toNat
def sShl (k : IntKind) (a b : Int) : Int := k.wrap (a * 2 ^ (min b.toNat k.bits))
def sShr (k : IntKind) (a b : Int) : Int := a.fdiv (2 ^ (min b.toNat k.bits))
def streq (a b : ByteArray) : Bool := a.toList == b.toList
def binI (op : BinOp) (k : IntKind) (a b : Int) : Option Value :=
  match op with
  | .add => some (.int k (k.wrap (a + b)))
  | .sub => some (.int k (k.wrap (a - b)))
  | .mul => some (.int k (k.wrap (a * b)))
  | .quo => if b = 0 then none else some (.int k (k.wrap (a.tdiv b)))
  | .rem => if b = 0 then none else some (.int k (a.tmod b))
  | .and => some (.int k (bAnd k a b))
  | .or => some (.int k (bOr k a b))
  | .xor => some (.int k (bXor k a b))
  | .eql => some (.bool (a == b))
  | .neq => some (.bool (a != b))
  | .lss => some (.bool (decide (a < b)))
  | .leq => some (.bool (decide (a ≤ b)))
  | .gtr => some (.bool (decide (a > b)))
  | .geq => some (.bool (decide (a ≥ b)))
  | _ => none
def binV (op : BinOp) : Value → Value → Option Value
  | .int k a, .int k' b =>
    match op with
    | .shl => if b < 0 then none else some (.int k (sShl k a b))
    | .shr => if b < 0 then none else some (.int k (sShr k a b))
    | _ => if k = k' then binI op k a b else none
  | .string a, .string b =>
    match op with
    | .eql => some (.bool (streq a b))
    | .neq => some (.bool (!(streq a b)))
    | _ => none
  | _, _ => none
def unV (op : UnOp) : Value → Option Value
  | .bool b => match op with | .not => some (.bool (!b)) | _ => none
  | .int k a => match op with
    | .neg => some (.int k (k.wrap (0 - a)))
    | .xor => some (.int k (bXor k (if k.signed then -1 else k.max) a))
    | _ => none
  | _ => none
def pureV (n : Nat) (T : Fr) : Op → Option Value
  | .move x => some (ev n T x)
  | .assign x => some (ev n T x)
  | .pick c a b => match ev n T c with | .bool t => some (if t then ev n T a else ev n T b) | _ => none
  | .extract x i => match ev n T x with | .tuple vs => vs[i]? | _ => none
  | .makeFunc fn first captured => some (.func fn (first.toList.map (ev n T)).toArray (captured.toList.map (ev n T)).toArray)
  | .binOp op _ x y _ => binV op (ev n T x) (ev n T y)
  | .unOp op _ x => unV op (ev n T x)
  | _ => none
section
variable {P : Program} {ops : Array Oper} {Q : Exit → Act → World → Prop} {rest : List Oper} {n : Nat} {T : Fr} {w : World}
theorem wl_ok {d : Nat} {op : Op} {ty : TypeId} {pos : String} {af : Array Edge} {w' : World} {v : Value}
    (hrun : (execOp (ev n T) ⟨some d, op, ty, pos, af, none⟩).run P w = .ok (.value v) w')
    (h : wpList P ops Q rest (mk n (upd T d v)) w') : wpList P ops Q (⟨some d, op, ty, pos, af, none⟩ :: rest) (mk n T) w := by
  refine wpList_plain rfl fun K hK => ?_
  unfold Oper.wp
  rw [eval_mk', hrun]
  show K ((mk n T).put (some d) v) w'
  rw [put_mk]
  exact hK _ _ h
theorem wl_skip {op : Op} {ty : TypeId} {pos : String} {af : Array Edge} {w' : World}
    (hrun : (execOp (ev n T) ⟨none, op, ty, pos, af, none⟩).run P w = .ok .skip w')
    (h : wpList P ops Q rest (mk n T) w') : wpList P ops Q (⟨none, op, ty, pos, af, none⟩ :: rest) (mk n T) w := by
  refine wpList_plain rfl fun K hK => ?_
  unfold Oper.wp
  rw [eval_mk', hrun]
  exact hK _ _ h
theorem run_binV {op : BinOp} {t t' : TypeId} {x y : Operand} {ρ : Operand → Value} {v : Value} (h : binV op (ρ x) (ρ y) = some v) (d : Option Tmp) (ty : TypeId) (pos : String) (af : Array Edge) (g : Option (Nat × Bool)) :
    (execOp ρ ⟨d, .binOp op t x y t', ty, pos, af, g⟩).run P w = .ok (.value v) w := by
  have hg : (eqGuard op t x y (ρ x) (ρ y)).run P w = .ok () w := by
    unfold eqGuard
    cases hx : ρ x <;> cases hy : ρ y <;> first | (simp [binV, hx, hy] at h; done) | (split <;> rfl)
  have hb : (binOp op t (ρ x) (ρ y)).run P w = .ok v w := by
    cases hx : ρ x <;> cases hy : ρ y <;> simp only [hx, hy, binV] at h <;> try (cases h; done)
    · rename_i k a k' b
      cases op <;> simp only at h
      case shl =>
        split at h
        · cases h
        · rename_i hb
          cases h
          simp [binOp, Op.shift, hb, sShl]
      case shr =>
        split at h
        · cases h
        · rename_i hb
          cases h
          simp [binOp, Op.shift, hb, sShr]
      all_goals
        split at h
        · rename_i hk
          subst hk
          simp only [binI] at h
          first
            | (cases h; done)
            | (cases h; simp [binOp, Op.intArith, Op.intBits, Op.intCmp, bAnd, bOr, bXor]; done)
            | (split at h
               · cases h
               · rename_i hb
                 cases h
                 simp [binOp, Op.intDiv, hb])
        · cases h
    · rename_i a b
      cases op <;> simp only [reduceCtorEq] at h <;> cases h <;> simp [binOp, Op.stringOp, streq]
  unfold execOp
  simp only [Sem.run_bind, hg, Result.andThen_ok, hb, Sem.run_pure]
theorem run_unV {op : UnOp} {x v : Value} (h : unV op x = some v) : (Op.unary op x).run P w = .ok v w := by
  cases x <;> simp only [unV] at h <;> try (cases h; done)
  · cases op <;> simp only [reduceCtorEq] at h
    cases h
    rfl
  · cases op <;> simp only [reduceCtorEq] at h <;> cases h <;> rfl
theorem run_pureV {op : Op} {v : Value} (h : pureV n T op = some v) (d : Option Tmp) (ty : TypeId) (pos : String) (af : Array Edge) (g : Option (Nat × Bool)) :
    (execOp (ev n T) ⟨d, op, ty, pos, af, g⟩).run P w = .ok (.value v) w := by
  cases op <;> simp only [pureV] at h <;> try (cases h; done)
  case move x => cases h; rfl
  case assign x => cases h; rfl
  case pick c a b =>
    unfold execOp
    split at h
    · rename_i t ht
      cases h
      simp [ht, asBool]
    · cases h
  case extract x i =>
    unfold execOp
    split at h
    · rename_i vs hv
      simp [hv, Instr.extract, h]
    · cases h
  case makeFunc fn first captured =>
    cases h
    have e : ∀ l : Array Operand, (l.toList.map (ev n T)).toArray = l.map (ev n T) := fun l => by rw [← Array.toList_map, Array.toArray_toList]
    simp [execOp, Instr.makeFunc, e]
  case binOp op t x y t' => exact run_binV h _ _ _ _ _
  case unOp op t x =>
    unfold execOp
    simp [run_unV (P := P) (w := w) h]
theorem qd (h : Q .normal (mk n T) w) : wpList P ops Q [] (mk n T) w := h
theorem qj {dst : Option Nat} {op : Op} {ty : TypeId} {pos : String} {af : Array Edge} {j : Nat} {b : Bool} {oj : Oper} {dj : Nat} (hj : ops[j]? = some oj) (hd : oj.dst = some dj) (hn : Nat.blt dj n = true) (hb : T dj = .bool b)
    (h : wpList P ops Q (⟨dst, op, ty, pos, af, none⟩ :: rest) (mk n T) w) : wpList P ops Q (⟨dst, op, ty, pos, af, some (j, b)⟩ :: rest) (mk n T) w := by
  have hy : yielded ops (mk n T).tmps j = some b := by
    have hlt : dj < n := by simpa [Nat.blt_eq] using hn
    simp [yielded, hj, hd, mk, hlt, hb]
  unfold wpList at h ⊢
  rw [if_pos (by simp [Region.wanted, hy])]
  rw [if_pos (by simp [Region.wanted])] at h
  exact h
theorem qJ {d : Nat} {op : Op} {ty : TypeId} {pos : String} {af : Array Edge} {j : Nat} {b : Bool} {oj : Oper} {dj : Nat} (hj : ops[j]? = some oj) (hd : oj.dst = some dj) (hn : Nat.blt dj n = true) (hb : T dj = .bool (!b))
    (h : wpList P ops Q rest (mk n (upd T d undef)) w) : wpList P ops Q (⟨some d, op, ty, pos, af, some (j, b)⟩ :: rest) (mk n T) w := by
  have hy : yielded ops (mk n T).tmps j = some (!b) := by
    have hlt : dj < n := by simpa [Nat.blt_eq] using hn
    simp [yielded, hj, hd, mk, hlt, hb]
  unfold wpList
  rw [if_neg (by simp only [Region.wanted, hy]; cases b <;> simp)]
  show wpList P ops Q rest ((mk n T).put (some d) undef) w
  rw [put_mk]
  exact h

theorem qc {id : Nat} {l : List Oper} (h : wpList P l.toArray Q l (mk n T) w) : (Code.region id l.toArray false).wp P Q (mk n T) w := wp_region_lit h
theorem qs {c : Operand} {x y : Code} (hc : ev n T c = .bool true) (h : x.wp P Q (mk n T) w) : (Code.cond c x y).wp P Q (mk n T) w := wp_cond_true (by rw [eval_mk]; exact hc) h
theorem qn {c : Operand} {x y : Code} (hc : ev n T c = .bool false) (h : y.wp P Q (mk n T) w) : (Code.cond c x y).wp P Q (mk n T) w := wp_cond_false (by rw [eval_mk]; exact hc) h
def zy (P : Program) (s : TypeId) (i : Nat) : Option (Nat × Nat) :=
  match P.underlying s with
  | some (.struct fs) => match fs[i]? with
    | some f => (P.info? f.type).map fun j => (f.offset, j.size)
    | none => none
  | _ => none
theorem run_fieldAt {s : TypeId} {i off k : Nat} (ho : zy P s i = some (off, k + 1)) (a : Addr) : (Instr.fieldAt s (.pointer (some a)) i).run P w = .ok (.pointer (some (a.add off))) w := by
  unfold zy at ho
  split at ho
  · rename_i fs hu
    split at ho
    · rename_i f hf
      cases hi : P.info? f.type with
      | none => simp [hi] at ho
      | some j =>
        simp only [hi, Option.map_some, Option.some.injEq, Prod.mk.injEq] at ho
        obtain ⟨rfl, hs⟩ := ho
        simp [Instr.fieldAt, run_underlying hu, hf, Instr.sureAddr, fieldPlace, sizeOf, typeInfo, hi, hs]
    · cases ho
  · cases ho
theorem add_plain (b o k : Nat) : (⟨b, o, none⟩ : Addr).add k = ⟨b, o + k, none⟩ := by unfold Addr.add; split <;> simp_all
theorem add_add (a : Addr) (i j : Nat) : (a.add i).add j = a.add (i + j) := by
  unfold Addr.add
  by_cases hi : i = 0
  · subst hi; simp
  · by_cases hj : j = 0
    · subst hj; simp [hi]
    · simp [hi, hj, Nat.add_assoc]
variable {c : World} {G : qk} {σ : List Ent}
structure Zr {α : Type} (P : Program) (t : TypeId) (K : Kd α) (z : α) : Prop where
  zero : ∃ v, (P.info? t).map (·.zero) = some (some v) ∧ ∀ G, K.V G v z
theorem run_zero {t : TypeId} {v : Value} (h : (P.info? t).map (·.zero) = some (some v)) : (zeroValue t).run P w = .ok v w := by
  cases hi : P.info? t with
  | none => simp [hi] at h
  | some i => simp [hi] at h; simp [zeroValue, typeInfo, hi, h]
theorem qP {α : Type} {K : Kd α} {z : α} {d : Nat} {t ty : TypeId} {pos : String} {af : Array Edge} (H : St c G w σ) (hz : Zr P t K z)
    (h : ∀ b w', St c G w' (.box b t (K.at_ z) :: σ) → wpList P ops Q rest (mk n (upd T d (.pointer (some ⟨b, 0, none⟩)))) w') :
    wpList P ops Q (⟨some d, .alloc t, ty, pos, af, none⟩ :: rest) (mk n T) w := by
  obtain ⟨v, hv, hr⟩ := hz.zero
  refine wl_ok (v := .pointer (some ⟨w.heap.size, 0, none⟩)) (w' := w.alloc (.cells v.cells.toList.toArray t)) ?_ (h _ _ (H.alloc (hr G).cells))
  unfold execOp
  simp [Instr.alloc, run_zero hv, newVar, newRow]
theorem zp {α : Type} {K : Kd α} {x : α} {v : Value} {d : Nat} {t ty : TypeId} {y : Operand} {pos : String} {af : Array Edge} (H : St c G w σ) (hx : ev n T y = v) (hv : K.V G v x)
    (h : ∀ b w', St c G w' (.box b t (K.at_ x) :: σ) → wpList P ops Q rest (mk n (upd T d (.pointer (some ⟨b, 0, none⟩)))) w') :
    wpList P ops Q (⟨some d, .box t y, ty, pos, af, none⟩ :: rest) (mk n T) w := by
  refine wl_ok (v := .pointer (some ⟨w.heap.size, 0, none⟩)) (w' := w.alloc (.cells v.cells.toList.toArray t)) ?_ (h _ _ (H.alloc hv.cells))
  unfold execOp
  simp [Instr.box, hx, newVar, newRow]
theorem ql {α β : Type} {K : Kd α} {L : Kd β} {x : α} {b off i : Nat} {tb : TypeId} {get : α → β} {put : α → β → α} {d : Nat} {t ty : TypeId} {y : Operand} {pos : String} {af : Array Edge}
    (H : St c G w σ) (hi : σ[i]? = some (.box b tb (K.at_ x))) (l : Lens K off L get put) (ht : Ty P t L.sz L.agg) (hx : ev n T y = .pointer (some ⟨b, off, none⟩))
    (h : ∀ v, L.V G v (get x) → wpList P ops Q rest (mk n (upd T d v)) w) : wpList P ops Q (⟨some d, .load t y, ty, pos, af, none⟩ :: rest) (mk n T) w := by
  obtain ⟨_, cs, hh, hr⟩ := H.okAt hi
  have hg := l.get hr
  refine wl_ok (v := unc L.agg ((cs.drop off).take L.sz)) ?_ (h _ ⟨_, rfl, hg⟩)
  have hl := run_loadVar_K (P := P) (w := w) ht hg ⟨b, off, none⟩ (fun i v hv => by
    rw [add_plain, cell_of_row w b (off + i) cs.toArray tb (0, 0) hh]
    rw [List.getElem?_take] at hv
    split at hv
    · simpa using hv
    · cases hv)
  unfold execOp
  simp [hx, Instr.loadAt, Instr.sureAddr, hl]
theorem qp {α β : Type} {K : Kd α} {L : Kd β} {x : α} {b off i : Nat} {tb : TypeId} {get : α → β} {put : α → β → α} {enc : β → Value} {d : Nat} {t ty : TypeId} {y : Operand} {pos : String} {af : Array Edge}
    (H : St c G w σ) (hi : σ[i]? = some (.box b tb (K.at_ x))) (l : Lens K off L get put) (D : Det L enc) (ht : Ty P t L.sz L.agg) (hx : ev n T y = .pointer (some ⟨b, off, none⟩))
    (h : wpList P ops Q rest (mk n (upd T d (enc (get x)))) w) : wpList P ops Q (⟨some d, .load t y, ty, pos, af, none⟩ :: rest) (mk n T) w :=
  ql H hi l ht hx fun v hv => by rw [D.V hv]; exact h
theorem qy {α β : Type} {K : Kd α} {L : Kd β} {x : α} {z : β} {v : Value} {b off i : Nat} {tb : TypeId} {get : α → β} {put : α → β → α} {t ty : TypeId} {y u : Operand} {pos : String} {af : Array Edge}
    (H : St c G w σ) (hi : σ[i]? = some (.box b tb (K.at_ x))) (l : Lens K off L get put) (ht : Ty P t L.sz L.agg) (hx : ev n T y = .pointer (some ⟨b, off, none⟩)) (hu : ev n T u = v) (hv : L.V G v z)
    (h : ∀ w', St c G w' (σ.set i (.box b tb (K.at_ (put x z)))) → wpList P ops Q rest (mk n T) w') : wpList P ops Q (⟨none, .store t y u, ty, pos, af, none⟩ :: rest) (mk n T) w := by
  obtain ⟨h0, cs, hh, hr⟩ := H.okAt hi
  have hf := l.fits
  have hlen := K.len hr
  have hst := run_storeVar_K (P := P) (w := w) ht hv b off cs hh (by omega)
  refine wl_skip (w' := w.setRow b (cs.take off ++ v.cells.toList ++ cs.drop (off + v.cells.toList.length)).toArray) ?_ (h _ ?_)
  · unfold execOp
    simp [hx, hu, Instr.storeAt, Instr.sureAddr, hst]
  · exact H.turnAt hi (setRow_grown w b _) (fun k hk => hk) ⟨h0, _, setRow_heap w b _ _ tb _ hh, l.put hr hv.cells⟩ (fun k hk => .inl hk)
end
end Go.Proofs.YtadlndnagfnlgaaGreatDoor.W
