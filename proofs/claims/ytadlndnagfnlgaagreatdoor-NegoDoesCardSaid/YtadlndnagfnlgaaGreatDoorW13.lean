/- Words for walks, part 13: ranges over a function: rounds, yield, the mark among the deferred calls; maps with keys of two bools. No program in it. -/
import Derived.Test.YtadlndnagfnlgaaGreatDoorW12
import Derived.RangeFuncIn
import Derived.RangeFuncRecord
import Derived.TacticsIn
import Derived.OrdersIn
set_option linter.unusedSimpArgs false
set_option linter.unusedVariables false
namespace Go.Proofs.YtadlndnagfnlgaaGreatDoor.W
open Go Go.MapKept
section
variable {P : Program} {ops : Array Oper} {Q : Exit → Act → World → Prop} {n m : Nat} {T : Fr} {w : World} {c : World} {G : qk} {σ : List Ent}
abbrev FW (ro : Option Nat) : Fence := { Fence.wide with round := ro }
def noDefer (l : List Oper) : Bool := l.all fun o => match o.op with | .defer _ => false | _ => true
theorem operF_of {o : Oper} {a : Act} {w : World} {next : Act → World → Prop} (ro : Option Nat) (hd : (match o.op with | .defer _ => false | _ => true) = true) (h : o.wp P a w next Q) : o.wpIn (FW ro) n P a w next Q := by
  refine ⟨fun _ _ => trivial, ?_⟩
  have hs : o.semAt (FW ro).round a.eval = execOp a.eval o := by
    refine Oper.semAt_eq ro a.eval o fun c hc => ?_
    rw [hc] at hd
    cases hd
  rw [hs]
  unfold Oper.wp at h
  generalize (execOp a.eval o).run P w = res at h ⊢
  cases res with
  | ok nx w' =>
    cases nx <;> simp only [Oper.upon] at h <;> first
      | exact h
      | exact ⟨fun hh => (by cases hh), callsIn_wide.2 h⟩
      | exact h.elim
      | exact ⟨fun hh => (by cases hh), fun c cs hroom => (by obtain ⟨v, w2, r, s⟩ := h c cs; exact ⟨v, w2, r, stepsIn_wide.2 s⟩)⟩
  | halt x w' => cases x <;> first | exact h | exact h.elim
def QI (ro : Option Nat) (m : Nat) (P : Program) (ops : Array Oper) (Q : Exit → Act → World → Prop) (l2 : List Oper) : Exit → Act → World → Prop
  | .normal, a, w => wpListIn (FW ro) m P ops Q l2 a w
  | _, _, _ => False
theorem listF_pre (ro : Option Nat) (l2 : List Oper) : ∀ {l : List Oper} {a : Act} {w : World}, noDefer l = true → wpList P ops (QI ro m P ops Q l2) l a w → wpListIn (FW ro) m P ops Q (l ++ l2) a w := by
  intro l
  induction l with
  | nil => intro a w _ h; exact h
  | cons o l ih =>
    intro a w hd h
    simp only [noDefer, List.all_cons, Bool.and_eq_true] at hd
    unfold wpList at h
    rw [List.cons_append]
    unfold wpListIn
    split at h
    · rename_i hw
      rw [if_pos hw]
      rcases h with h | ⟨_, h⟩
      · have h2 := operF_of (n := m) ro hd.1 (Oper.wp_mono (fun a w hh => ih hd.2 hh) h)
        refine ⟨h2.1, ?_⟩
        have h3 := h2.2
        generalize (o.semAt (FW ro).round a.eval).run P w = res at h3 ⊢
        cases res with
        | ok nx w' =>
          cases nx <;> simp only [Oper.uponIn] at h3 ⊢ <;> first
            | exact h3
            | (refine ⟨h3.1, ?_⟩
               refine CallsIn.mono h3.2 ?_
               intro e w2 he
               cases e <;> first | exact he | exact he.elim | (obtain ⟨_, _, hx⟩ := he; exact hx.elim))
            | (refine ⟨h3.1, ?_⟩
               refine RoundIn.mono h3.2 ?_
               intro e w2 he
               cases e <;> first | exact he | exact he.elim | (obtain ⟨_, _, hx⟩ := he; exact hx.elim))
        | halt x w' => cases x <;> first | exact h3 | exact h3.elim
      · obtain ⟨_, _, hx⟩ := h
        exact hx.elim
    · rename_i hw
      rw [if_neg hw]
      exact ⟨fun _ _ => trivial, ih hd.2 h⟩
theorem listF_of (ro : Option Nat) {l : List Oper} {a : Act} {w : World} (hd : noDefer l = true) (h : wpList P ops (QI ro m P ops Q []) l a w) : wpListIn (FW ro) m P ops Q l a w := by
  have := listF_pre (Q := Q) (m := m) ro [] hd h
  rwa [List.append_nil] at this
theorem qi_nil {ro : Option Nat} {a : Act} (h : Q .normal a w) : QI ro m P ops Q [] .normal a w := h
theorem wc_regionY {id : Nat} (k : Nat) {l : List Oper} (hd : noDefer (l.take k) = true) (h : wpList P l.toArray (QI none 0 P l.toArray Q (l.drop k)) (l.take k) (mk n T) w) : (Code.region id l.toArray false).wp P Q (mk n T) w := by
  refine (wpIn_wide (n := 0)).1 (wpIn_region_lit ?_)
  have := listF_pre (Q := Q) (m := 0) none (l.drop k) hd h
  rw [List.take_append_drop] at this
  exact this
theorem wcI_region {l0 id : Nat} {l : List Oper} {a : Act} (hd : noDefer l = true) (h : wpList P l.toArray (QI (some l0) m P l.toArray Q []) l a w) : (Code.region id l.toArray false).wpIn (FW (some l0)) m P Q a w :=
  wpIn_region_lit (listF_of (some l0) hd h)

theorem putObj_grown (w : World) (r : Nat) (o : Obj) : w.grownBy (w.putObj r o) (some r) :=
  ⟨rfl, rfl, rfl, by simp, fun k _ hne => World.putObj_heap_other (fun e => hne (by rw [e]))⟩
theorem St.putOb {l i : Nat} {o : Obj} (o' : Obj) (H : St c G w σ) (hi : σ[i]? = some (.ob l o)) : St c G (w.putObj l o') (σ.set i (.ob l o')) := by
  obtain ⟨h0, hh⟩ := H.okAt hi
  exact H.turnAt (X := some l) hi (putObj_grown w l o') (fun k hk => hk) ⟨h0, World.putObj_heap_same (Array.getElem?_eq_some_iff.1 hh).1⟩ (fun k hk => .inl hk)
theorem St.newOb (H : St c G w σ) (o : Obj) : St c G (w.alloc o) (.ob w.heap.size o :: σ) :=
  H.add (World.grownBy_alloc w o none) ⟨H.ag.fresh (Nat.le_refl _), World.alloc_heap_new w o⟩ (fun k hk => by cases hk; exact Nat.le_refl _)
theorem St.obAt {l i : Nat} {o : Obj} (H : St c G w σ) (hi : σ[i]? = some (.ob l o)) : w.heap[l]? = some o := (H.okAt hi).2
theorem put2 {p q : Nat} {u v : Value} : ({ tmps := ((#[p, q] : Array Nat).zip (#[u, v] : Array Value)).foldl (fun t (x : Nat × Value) => t.setIfInBounds x.1 x.2) (mk n T).tmps, defers := [] } : Act) = mk n (upd (upd T p u) q v) := by
  rw [← put_mk, ← put_mk, show (#[p, q] : Array Nat).zip (#[u, v] : Array Value) = #[(p, u), (q, v)] by simp]
  simp [Act.put, show (mk n T).defers = [] from rfl]
theorem round_of {l m : Nat} {r : Loop} {p q : Nat} {u v : Value} {Ψ : Value → World → Prop} (hst : r.state = .ready) (ht : r.tmps = (mk n T).tmps) (hp : r.params = #[p, q])
    (ha : r.assign.wpIn (FW (some l)) m P (Exit.then (fun a1 w1 => (∃ (σ1 : List Ent) (i : Nat), St c G w1 σ1 ∧ σ1[i]? = some (.ob l (.loop r)) ∧
      ∀ w2, St c G w2 (σ1.set i (.ob l (.loop { r with state := .busy }))) → r.body.wpIn (FW (some l)) m P (roundPost P l (fun e w' => ∃ v, e = .returned v ∧ Ψ v w')) a1 w2)) (fun _ _ _ => False)) (mk n (upd (upd T p u) q v)) w) :
    RoundIn Fence.wide m P l r.fn ((r.params.zip #[u, v]).foldl (fun t (x : Nat × Value) => t.setIfInBounds x.1 x.2) r.tmps) r.assign r.body w (fun e w' => ∃ v, e = .returned v ∧ Ψ v w') := by
  refine roundIn_of_wpIn (F := Fence.wide) (n := m) trivial ?_
  rw [hp, ht, put2]
  refine wpIn_mono ha ?_
  intro e a1 w1 hq
  cases e with
  | normal =>
    obtain ⟨σ1, i, H1, hi1, hb⟩ := hq
    exact ⟨_, run_beginRound (H1.obAt hi1) hst, hb _ (H1.putOb _ hi1)⟩
  | exit id => exact hq
  | goto t => exact hq
  | ret => exact hq
  | panic ch => exact hq
  | outgrown => exact hq
theorem round_next {l i : Nat} {r : Loop} {a : Act} {Ψ : Value → World → Prop} (H : St c G w σ) (hi : σ[i]? = some (.ob l (.loop r)))
    (h : ∀ w', St c G w' (σ.set i (.ob l (.loop { r with state := .ready, pending := none }))) → Ψ (.bool true) w') : roundPost P l (fun e w' => ∃ v, e = .returned v ∧ Ψ v w') .normal a w :=
  ⟨_, _, run_endRound none (H.obAt hi), _, rfl, h _ (H.putOb _ hi)⟩
theorem round_ret {l i : Nat} {r : Loop} {a : Act} {Ψ : Value → World → Prop} (H : St c G w σ) (hi : σ[i]? = some (.ob l (.loop r)))
    (h : ∀ w', St c G w' (σ.set i (.ob l (.loop { r with state := .done, pending := some .ret }))) → Ψ (.bool false) w') : roundPost P l (fun e w' => ∃ v, e = .returned v ∧ Ψ v w') .ret a w :=
  ⟨_, _, run_endRound (some .ret) (H.obAt hi), _, rfl, h _ (H.putOb _ hi)⟩
theorem wl_yield {l i p q : Nat} {r : Loop} {rest : List Oper} {d ty : Nat} {pos : String} {af : Array Edge} {x : Operand} {xs : List Operand} {tys : Array TypeId} {u v : Value} {Ψ : Value → World → Prop}
    (H : St c G w σ) (hi : σ[i]? = some (.ob l (.loop r))) (hp : r.params = #[p, q]) (hx : ev n T x = .func (.yield l) #[] #[]) (hvs : xs.map (ev n T) = [u, v])
    (hr : RoundIn Fence.wide 0 P l r.fn ((r.params.zip #[u, v]).foldl (fun t (x : Nat × Value) => t.setIfInBounds x.1 x.2) r.tmps) r.assign r.body w (fun e w' => ∃ v, e = .returned v ∧ Ψ v w'))
    (hd : noDefer rest = true) (h : ∀ v w', Ψ v w' → wpList P ops (QI none 0 P ops Q []) rest (mk n (upd T d v)) w') :
    QI none 0 P ops Q (⟨some d, .call { callee := .value x, args := xs.toArray, argTypes := tys }, ty, pos, af, none⟩ :: rest) .normal (mk n T) w := by
  show wpListIn (FW none) 0 P ops Q _ _ _
  refine wpListIn_plain rfl fun K hK => ⟨fun _ _ => trivial, ?_⟩
  rw [show (FW none).round = none from rfl, Oper.semAt_none, eval_mk']
  have hrun : (execOp (ev n T) ⟨some d, .call { callee := .value x, args := xs.toArray, argTypes := tys }, ty, pos, af, none⟩).run P w = .ok (.round l r.fn ((r.params.zip #[u, v]).foldl (fun t (x : Nat × Value) => t.setIfInBounds x.1 x.2) r.tmps) r.assign r.body) w := by
    have e : (xs.toArray).map (ev n T) = #[u, v] := by
      apply Array.ext'
      simp [hvs]
    have hy := run_yield (P := P) (args := #[u, v]) (H.obAt hi) (by rw [hp]; rfl)
    unfold execOp
    simp only [Sem.run_bind, resolve, hx, Deferred.ofValue, Sem.run_pure, Result.andThen_ok, invoke, e, Array.empty_append, Array.append_empty, hy]
  rw [hrun]
  refine ⟨fun hh => (by cases hh), RoundIn.mono hr ?_⟩
  rintro e w' ⟨v, rfl, hΨ⟩
  show K ((mk n T).put (some d) v) w'
  rw [put_mk]
  exact hK _ _ (listF_of none hd (h v w' hΨ))

def wd (ds : List Deferred) (a : Act) : Act := { a with defers := ds }
def QD (ds : List Deferred) (Q : Exit → Act → World → Prop) : Exit → Act → World → Prop := fun e a w => ∃ a0 : Act, a = wd ds a0 ∧ Q e a0 w
def calm (l : List Oper) : Bool := l.all fun o => match o.op with | .load _ _ => true | .store _ _ _ => true | .move _ => true | .assign _ => true | _ => false
theorem calm_next {o : Oper} {ρ : Operand → Value} {nx : Next} {w w' : World} (hc : (match o.op with | .load _ _ => true | .store _ _ _ => true | .move _ => true | .assign _ => true | _ => false) = true)
    (h : (execOp ρ o).run P w = .ok nx w') : (∃ v, nx = .value v) ∨ nx = .skip := by
  unfold execOp at h
  split at hc <;> rename_i e <;> simp only [e] at h
  · rename_i t a
    rw [Sem.run_bind] at h
    cases hl : (Instr.loadAt t (ρ a)).run P w with
    | ok v w2 => rw [hl] at h; cases h; exact .inl ⟨_, rfl⟩
    | halt x w2 => rw [hl] at h; cases h
  · rename_i t a x
    rw [Sem.run_bind] at h
    cases hl : (Instr.storeAt t (ρ a) (ρ x)).run P w with
    | ok v w2 => rw [hl] at h; cases h; exact .inr rfl
    | halt x w2 => rw [hl] at h; cases h
  · cases h; exact .inl ⟨_, rfl⟩
  · cases h; exact .inl ⟨_, rfl⟩
  · cases hc
theorem wd_put (ds : List Deferred) (a : Act) (d : Option Tmp) (v : Value) : (wd ds a).put d v = wd ds (a.put d v) := by cases d <;> rfl
theorem list_wd (ds : List Deferred) : ∀ {l : List Oper} {a : Act} {w : World}, calm l = true → wpList P ops Q l a w → wpList P ops (QD ds Q) l (wd ds a) w := by
  intro l
  induction l with
  | nil => intro a w _ h; exact ⟨a, rfl, h⟩
  | cons o l ih =>
    intro a w hd h
    simp only [calm, List.all_cons, Bool.and_eq_true] at hd
    unfold wpList at h ⊢
    have ht : (wd ds a).tmps = a.tmps := rfl
    have he : (wd ds a).eval = a.eval := rfl
    have hlet : LetsOut Q → LetsOut (QD ds Q) := fun ⟨a1, w1, h1⟩ => ⟨wd ds a1, w1, a1, rfl, h1⟩
    rw [ht]
    split at h
    · rename_i hw
      rw [if_pos hw]
      rcases h with h | ⟨h1, h2⟩
      · left
        unfold Oper.wp at h ⊢
        rw [he]
        cases hres : (execOp a.eval o).run P w with
        | ok nx w' =>
          rw [hres] at h
          rcases calm_next hd.1 hres with ⟨v, rfl⟩ | rfl
          · show wpList P ops (QD ds Q) l ((wd ds a).put o.dst v) w'
            rw [wd_put]; exact ih hd.2 h
          · show wpList P ops (QD ds Q) l ((wd ds a).put o.dst undef) w'
            rw [wd_put]; exact ih hd.2 h
        | halt x w' =>
          rw [hres] at h
          cases x <;> first | exact ⟨_, rfl, h⟩ | exact h.elim
      · exact .inr ⟨h1, hlet h2⟩
    · rename_i hw
      rw [if_neg hw, wd_put]
      exact ih hd.2 h
theorem wc_range {g : Operand} {ps : Array Tmp} {assign body : Code} {gf : FuncId} {lb : List Value} (he : En P gf) (H : St c G w σ) (hg : ev n T g = .func (.func gf) #[] lb.toArray)
    (hcall : ∀ (fn l D : Nat) (w1 : World), St c G w1 (.ob l (.loop { state := .ready, pending := none, fn := fn, tmps := (mk n T).tmps, params := ps, assign := assign, body := body, defers := D }) :: .ob D (.deferred (some [])) :: σ) →
      Calls P gf (.func (.yield l) #[] #[] :: lb).toArray w1 (rangePost Fence.wide 0 P l Q (wd [{ target := .collected D, args := #[] }] (mk n T)))) : (Code.rangeFunc g ps assign body).wp P Q (mk n T) w := by
  refine (wpIn_wide (n := 0)).1 (wpIn_rangeFunc (F := Fence.wide) ?_)
  intro fn _
  have H1 := H.newOb (.deferred (some []))
  have H2 := H1.newOb (.loop { state := .ready, pending := none, fn := fn, tmps := (mk n T).tmps, params := ps, assign := assign, body := body, defers := w.heap.size })
  rw [World.size_alloc] at H2
  have hc := hcall fn _ _ _ H2
  generalize hW : (w.alloc (.deferred (some []))).alloc (.loop { state := .ready, pending := none, fn := fn, tmps := (mk n T).tmps, params := ps, assign := assign, body := body, defers := w.heap.size }) = W1 at hc
  refine ⟨w.heap.size + 1, [{ target := .collected w.heap.size, args := #[] }], W1, { target := .fn (.func gf) lb.toArray, args := #[.func (.yield (w.heap.size + 1)) #[] #[]] }, W1, gf,
    #[.func (.yield (w.heap.size + 1)) #[] #[]] ++ lb.toArray, W1, (by rw [← hW]; exact run_enterLoop_outer _ _ _ _ _), ?_, fun _ _ => trivial, ?_, fun hh => (by cases hh), ?_⟩
  · rw [eval_mk']
    simp only [resolve, hg, Deferred.ofValue]
    simp [ev]
  · simp only [invoke, he.run]
  · refine callsIn_wide.2 ?_
    have e : (#[Value.func (.yield (w.heap.size + 1)) #[] #[]] ++ lb.toArray) = (.func (.yield (w.heap.size + 1)) #[] #[] :: lb).toArray := by simp
    rw [e]
    exact hc
theorem range_none {l i : Nat} {r : Loop} {a' : Act} {v : Value} (H : St c G w σ) (hi : σ[i]? = some (.ob l (.loop r))) (hs : r.state = .ready) (hp : r.pending = none)
    (h : ∀ w4, St c G w4 (σ.set i (.ob l (.loop { r with state := .exhausted }))) → Q .normal a' w4) : rangePost Fence.wide 0 P l Q a' (.returned v) w := by
  refine ⟨r.pending, _, run_endLoop (P := P) (H.obAt hi) (by rw [hs]; simp), ?_⟩
  have hk := h _ (H.putOb _ hi)
  revert hk
  generalize w.putObj l (.loop { r with state := .exhausted }) = W4
  intro hk
  rw [hp]
  exact hk
theorem range_ret {l i : Nat} {r : Loop} {a' : Act} {v : Value} (H : St c G w σ) (hi : σ[i]? = some (.ob l (.loop r))) (hs : r.state = .done) (hp : r.pending = some .ret)
    (h : ∀ w4, St c G w4 (σ.set i (.ob l (.loop { r with state := .exhausted }))) → Q .ret a' w4) : rangePost Fence.wide 0 P l Q a' (.returned v) w := by
  refine ⟨r.pending, _, run_endLoop (P := P) (H.obAt hi) (by rw [hs]; simp), ?_⟩
  have hk := h _ (H.putOb _ hi)
  revert hk
  generalize w.putObj l (.loop { r with state := .exhausted }) = W4
  intro hk
  rw [hp]
  exact wpIn_ret hk
theorem calls_mkM {f : FuncId} {fn : Func} {b : Code} {args : List Value} {R : Ending → World → Prop}
    (hf : P.funcs[f]? = some fn) (hb : fn.body = some b) (hn : fn.ntmps = n) (ha : Nat.ble args.length n = true)
    (h : b.wp P (bodyPostM Fence.wide 0 P fn R) (mk n (argF args)) w) : Calls P f args.toArray w R := by
  refine (callsIn_wide (n := 0)).1 (callsIn_of_wp_marks (F := Fence.wide) hf hb trivial (wpIn_wide.2 ?_))
  have e : ({ tmps := args.toArray ++ Array.replicate (fn.ntmps - args.toArray.size) undef, defers := [] } : Act) = mk n (argF args) := by
    unfold mk argF
    congr 1
    apply Array.ext'
    have hle : args.length ≤ n := by simpa using ha
    rw [hn]
    simp only [Array.toList_append, Array.toList_replicate, List.size_toArray]
    apply List.ext_getElem
    · simp; omega
    · intro i h1 h2
      simp only [List.getElem_map, List.getElem_range]
      by_cases hi : i < args.length
      · rw [List.getElem_append_left (by simpa using hi)]
        simp [List.getD, List.getElem?_eq_getElem hi]
      · rw [List.getElem_append_right (by simpa using hi)]
        simp [List.getD, List.getElem?_eq_none (Nat.le_of_not_lt hi)]
  rw [e]
  exact h
theorem ret_mkM {fn : Func} {rs : List ResultVar} {Φ : Value → World → Prop} {i D : Nat} (H : St c G w σ) (hi : σ[i]? = some (.ob D (.deferred (some [])))) (hf : fn.results.toList = rs)
    (h : ∀ w', St c G w' (σ.set i (.ob D (.deferred none))) → ∃ vs, RV P n T w' rs vs ∧ Φ (tup vs) w') : bodyPostM Fence.wide 0 P fn (zu Φ) .ret (wd [{ target := .collected D, args := #[] }] (mk n T)) w := by
  refine ⟨by simp, .inl ⟨D, _, rfl, run_takeDeferred (H.obAt hi), ?_⟩⟩
  obtain ⟨vs, hr, hΦ⟩ := h _ (H.putOb _ hi)
  exact ⟨_, hr.results hf, hΦ⟩

structure KB (P : Program) (kt el : TypeId) : Prop where
  und : P.underlying kt = some (.array 2 el)
  bl : P.underlying el = some .bool
  sz : Ty P el 1 false
variable {kt el : TypeId}
theorem KB.part (h : KB P kt el) (a b : Bool) (w : World) : (Go.part el #[.bool a, .bool b] (0 * 1)).run P w = .ok (.bool a) w ∧ (Go.part el #[.bool a, .bool b] (1 * 1)).run P w = .ok (.bool b) w := by
  have h1 := run_part_K (K := Kd.bool) h.sz (x := a) (cs := [.bool a]) (G := fun _ => none) rfl [] [.bool b] (off := 0) rfl w
  have h2 := run_part_K (K := Kd.bool) h.sz (x := b) (cs := [.bool b]) (G := fun _ => none) rfl [.bool a] [] (off := 1) rfl w
  exact ⟨h1, h2⟩
theorem KB.equal (h : KB P kt el) (a b x y : Bool) (w : World) : (Op.equal kt (.agg #[.bool a, .bool b]) (.agg #[.bool x, .bool y])).run P w = .ok (a == x && b == y) w := by
  have hq := (eqk_arr h.und h.sz (eqkB h.bl)).run 10000 (by omega) (G := fun _ => none) (G' := fun _ => none) (cs := [.bool a, .bool b]) (ds := [.bool x, .bool y]) (x := [a, b]) (y := [x, y])
    ⟨rfl, ⟨[.bool a], [.bool b], rfl, rfl, ⟨[.bool b], [], rfl, rfl, rfl⟩⟩⟩ ⟨rfl, ⟨[.bool x], [.bool y], rfl, rfl, ⟨[.bool y], [], rfl, rfl, rfl⟩⟩⟩ w
  have e : eqL eqB [a, b] [x, y] = (a == x && b == y) := by cases a <;> cases b <;> cases x <;> cases y <;> rfl
  rw [e] at hq
  exact hq
def lkB (a b : Bool) : List (Bool × Bool × Value) → Nat → Option (Nat × Value)
  | [], _ => none
  | (x, y, v) :: l, j => if (a == x && b == y) then some (j, v) else lkB a b l (j + 1)
def esB : List (Bool × Bool × Value) → Nat → List MapEntry
  | [], _ => []
  | (x, y, v) :: l, j => ⟨.agg #[.bool x, .bool y], v, j⟩ :: esB l (j + 1)
theorem KB.asking (h : KB P kt el) (a b : Bool) (w : World) : ∀ (l : List (Bool × Bool × Value)) (k j : Nat), (Instr.findAsking kt (.agg #[.bool a, .bool b]) (esB l k) j).run P w = .ok (lkB a b l j) w
  | [], k, j => by simp [esB, Instr.findAsking, lkB]
  | (x, y, v) :: l, k, j => by
    simp only [esB, Instr.findAsking, lkB, Sem.run_bind, h.equal, Result.andThen_ok]
    split
    · rfl
    · exact KB.asking h a b w l (k + 1) (j + 1)
theorem KB.find (h : KB P kt el) (a b : Bool) (l : List (Bool × Bool × Value)) (w : World) : (Instr.findKey kt (.agg #[.bool a, .bool b]) (esB l 0)).run P w = .ok (lkB a b l 0) w := by
  unfold Instr.findKey
  simp only [Sem.run_bind, run_underlying h.und, Result.andThen_ok]
  cases l with
  | nil => simp [esB, Instr.findNow, lkB]
  | cons e l =>
    obtain ⟨x, y, v⟩ := e
    have : Instr.findNow (.array 2 el) (.agg #[.bool a, .bool b]) (esB ((x, y, v) :: l) 0) 0 = none := by simp [esB, Instr.findNow, Instr.sameNow]
    rw [this]
    exact h.asking a b w _ 0 0
def fdB (a b : Bool) (l : List (Bool × Bool × Value)) : Option Value := (l.find? fun e => a == e.1 && b == e.2.1).map (·.2.2)
structure EsB (es l : List (Bool × Bool × Value)) : Prop where
  eq : ∀ a b, fdB a b es = fdB a b l
theorem EsB.nil : EsB [] [] := ⟨fun _ _ => rfl⟩
theorem wc_regionD {id : Nat} {l : List Oper} {ds : List Deferred} (hd : calm l = true) (h : wpList P l.toArray (fun e a w => Q e (wd ds a) w) l (mk n T) w) : (Code.region id l.toArray false).wp P Q (wd ds (mk n T)) w := by
  have h2 := list_wd (Q := fun e a w => Q e (wd ds a) w) ds hd h
  refine wp_mono (wp_region_lit h2) ?_
  rintro e a w ⟨a0, rfl, hq⟩
  exact hq
theorem calls_range {F : Fence} {m l f : Nat} {args : Array Value} {Φ : Value → World → Prop} {a' : Act} (h : Calls P f args w (zu Φ)) (hr : ∀ v w', Φ v w' → rangePost F m P l Q a' (.returned v) w') : Calls P f args w (rangePost F m P l Q a') :=
  h.mono fun e w' he => by
    cases e with
    | returned v => exact hr v w' he
    | panicked ch => exact he.elim
    | outgrown => exact he.elim
abbrev LRl (b : Bool) (fn : FuncId) (tm : Array Value) (p q : Nat) (asg bdy : Code) (D : Nat) : Loop := { state := bif b then .ready else .done, pending := bif b then none else some .ret, fn := fn, tmps := tm, params := #[p, q], assign := asg, body := bdy, defers := D }
abbrev LR (b : Bool) (fn : FuncId) (tm : Array Value) (p q : Nat) (asg bdy : Code) (D : Nat) : Obj := .loop (LRl b fn tm p q asg bdy D)
def AnyI (P : Program) (ops : Array Oper) (Q : Exit → Act → World → Prop) (fuel : Nat) (listed : Array Bool) (a : Act) (w : World) : Prop := wpAnyIn (FW none) 0 P .any ops Q fuel listed a w
theorem wc_anyI {id : Nat} {ops : Array Oper} {f : Nat} (H : St c G w σ) (hm : P.follows .mixedOrders = true)
    (h : ∀ w', St c G w' σ → AnyI P ops Q f (li f 0) (mk n T) w') (hf : ops.size = f := by kernel_rfl) (hl : Array.replicate f false = li f 0 := by kernel_rfl) : (Code.region id ops true).wp P Q (mk n T) w := by
  refine (wpIn_wide (n := 0)).1 (wpIn_region_any hm ?_)
  rw [hf, hl]
  exact h _ H.drew
theorem any_pfI {fuel : Nat} {listed : Array Bool} {a : Act} (h : PF Q) (k : PF Q → Region.noSelect ops = true → AnyI P ops Q fuel listed a w) (hs : Region.noSelect ops = true := by kernel_rfl) : AnyI P ops Q fuel listed a w := k h hs
theorem any_memoI {fuel fuel' z m m' : Nat} {a' : Act} (I : Act → World → Prop) (hI : ∀ a w, I a w → AnyI P ops Q fuel (li z m) a w)
    {w' : World} (h : (∀ a w, I a w → AnyI P ops Q fuel (li z m) a w) → AnyI P ops Q fuel' (li z m') a' w') : AnyI P ops Q fuel' (li z m') a' w' := h hI
section
variable {i fuel z m m' : Nat} {oi oj : Oper} {d j dj : Nat} {b : Bool} {v : Value}
def noCall (o : Oper) : Bool := match o.op with | .call _ => false | _ => true
theorem about_none {o : Oper} (h : noCall o = true) (w : World) (ρ : Operand → Value) : o.about P w ρ = none := by
  unfold noCall at h
  unfold Oper.about
  split <;> simp_all
theorem any_rnI (hi : ops[i]? = some oi) (hv : Rn P n T oi.op v) (hQ : PF Q) (hs : Region.noSelect ops = true)
    (h : AnyI P ops Q fuel (li z m') (mk n (upd T d v)) w) (hd : oi.dst = some d := by rfl) (hg : oi.guard = none := by rfl) (hf : Region.free .any ops (li z m) i = true := by kernel_rfl)
    (hr : (Region.ready .any ops (li z m)).contains i = true := by kernel_rfl) (hl : (li z m).setIfInBounds i true = li z m' := by kernel_rfl) (hc : noCall oi = true := by rfl) : AnyI P ops Q (fuel + 1) (li z m) (mk n T) w := by
  refine wpAnyIn_take rfl hi hs hf hr (fun ch a w hq => absurd hq (hQ.no _ _ _)) (v := v) ⟨.inl ⟨by simp [Region.wanted, hg], fun w => by rw [eval_mk']; exact hv _ _ _ _ _ w⟩, fun w => about_none hc _ _⟩ ?_
  rw [hd, put_mk, hl]
  exact h
theorem any_rnEI {ι : Type} {p : ι → Prop} {v : ι → Value} (hi : ops[i]? = some oi) (hv : ∃ x, p x ∧ Rn P n T oi.op (v x)) (hQ : PF Q) (hs : Region.noSelect ops = true)
    (h : ∀ x, p x → AnyI P ops Q fuel (li z m') (mk n (upd T d (v x))) w) (hd : oi.dst = some d := by rfl) (hg : oi.guard = none := by rfl) (hf : Region.free .any ops (li z m) i = true := by kernel_rfl)
    (hr : (Region.ready .any ops (li z m)).contains i = true := by kernel_rfl) (hl : (li z m).setIfInBounds i true = li z m' := by kernel_rfl) (hc : noCall oi = true := by rfl) : AnyI P ops Q (fuel + 1) (li z m) (mk n T) w := by
  obtain ⟨x, hp, hx⟩ := hv
  exact any_rnI hi hx hQ hs (h x hp) hd hg hf hr hl hc
def AllsI (P : Program) (ops : Array Oper) (Q : Exit → Act → World → Prop) (fuel : Nat) (listed : Array Bool) (a : Act) (w : World) : List Nat → Prop
  | [] => True
  | i :: l => wpOpIn (FW none) 0 P ops Q i (AnyI P ops Q fuel (listed.setIfInBounds i true)) a w ∧ AllsI P ops Q fuel listed a w l
theorem allsI_mem {fuel : Nat} {listed : Array Bool} {a : Act} : ∀ {rs : List Nat}, AllsI P ops Q fuel listed a w rs → ∀ i, i ∈ rs → wpOpIn (FW none) 0 P ops Q i (AnyI P ops Q fuel (listed.setIfInBounds i true)) a w
  | [], _, i, hi => by cases hi
  | j :: rs, h, i, hi => by
    rcases List.mem_cons.1 hi with rfl | hi
    · exact h.1
    · exact allsI_mem h.2 i hi
theorem any_allsI {fuel : Nat} {listed : Array Bool} {a : Act} (rs : List Nat)
    (h : AllsI P ops Q fuel listed a w rs) (hr : Region.ready .any ops listed = rs := by kernel_rfl) (hne : rs.isEmpty = false := by rfl) : AnyI P ops Q (fuel + 1) listed a w := wpAnyIn_all hr (by intro e; rw [e] at hne; simp at hne) (allsI_mem h)
def QN (K : Act → World → Prop) : Exit → Act → World → Prop
  | .normal, a, w => K a w
  | _, _, _ => False
theorem operQ_of {o : Oper} {a : Act} {w : World} {K next : Act → World → Prop} (ro : Option Nat) (hd : (match o.op with | .defer _ => false | _ => true) = true) (h : o.wp P a w next (QN K)) : o.wpIn (FW ro) m P a w next Q := by
  have h2 := operF_of (n := m) ro hd h
  refine ⟨h2.1, ?_⟩
  have h3 := h2.2
  generalize (o.semAt (FW ro).round a.eval).run P w = res at h3 ⊢
  cases res with
  | ok nx w' =>
    cases nx <;> simp only [Oper.uponIn] at h3 ⊢ <;> first
      | exact h3
      | (refine ⟨h3.1, CallsIn.mono h3.2 ?_⟩
         intro e w2 he
         cases e <;> first | exact he | exact he.elim | (obtain ⟨_, _, hx⟩ := he; exact hx.elim))
      | (refine ⟨h3.1, RoundIn.mono h3.2 ?_⟩
         intro e w2 he
         cases e <;> first | exact he | exact he.elim | (obtain ⟨_, _, hx⟩ := he; exact hx.elim))
  | halt x w' => cases x <;> first | exact h3 | exact h3.elim
theorem any_opsI (hd : (match oi.op with | .defer _ => false | _ => true) = true)
    (h : ∀ Q' : Exit → Act → World → Prop, (∀ a w, AnyI P ops Q fuel (li z m') a w → Q' .normal a w) → wpList P ops Q' [oi] (mk n T) w) (hi : ops[i]? = some oi := by rfl) (hl : (li z m).setIfInBounds i true = li z m' := by kernel_rfl) :
    wpOpIn (FW none) 0 P ops Q i (AnyI P ops Q fuel ((li z m).setIfInBounds i true)) (mk n T) w := by
  have h2 := h (QN (AnyI P ops Q fuel (li z m'))) (fun _ _ h => h)
  unfold wpOpIn
  simp only [hi]
  rw [hl]
  unfold wpList at h2
  split at h2
  · rename_i hw
    rw [if_pos hw]
    rcases h2 with h2 | ⟨_, _, _, hx⟩
    · exact operQ_of (K := AnyI P ops Q fuel (li z m')) none hd h2
    · exact hx.elim
  · rename_i hw
    rw [if_neg hw]
    exact ⟨fun _ _ => trivial, h2⟩
theorem any_endI {listed : Array Bool} {fuel : Nat} (h : Q .normal (mk n T) w) (hr : Region.ready .any ops listed = [] := by kernel_rfl) : AnyI P ops Q fuel listed (mk n T) w := wpAnyIn_done hr h fuel
theorem run_yieldop {l p q i : Nat} {r : Loop} {d : Option Nat} {ty : Nat} {pos : String} {af : Array Edge} {g : Option (Nat × Bool)} {x : Operand} {xs : List Operand} {tys : Array TypeId} {u v : Value}
    (H : St c G w σ) (hi : σ[i]? = some (.ob l (.loop r))) (hp : r.params = #[p, q]) (hx : ev n T x = .func (.yield l) #[] #[]) (hvs : xs.map (ev n T) = [u, v]) :
    (execOp (ev n T) ⟨d, .call { callee := .value x, args := xs.toArray, argTypes := tys }, ty, pos, af, g⟩).run P w = .ok (.round l r.fn ((r.params.zip #[u, v]).foldl (fun t (x : Nat × Value) => t.setIfInBounds x.1 x.2) r.tmps) r.assign r.body) w := by
  have e : (xs.toArray).map (ev n T) = #[u, v] := by
    apply Array.ext'
    simp [hvs]
  have hy := run_yield (P := P) (args := #[u, v]) (H.obAt hi) (by rw [hp]; rfl)
  unfold execOp
  simp only [Sem.run_bind, resolve, hx, Deferred.ofValue, Sem.run_pure, Result.andThen_ok, invoke, e, Array.empty_append, hy]
theorem any_yieldI {l i p q d i' ty : Nat} {pos : String} {af : Array Edge} {r : Loop} {x : Operand} {xs : List Operand} {tys : Array TypeId} {u v : Value} {Ψ : Value → World → Prop}
    (H : St c G w σ) (hi : σ[i]? = some (.ob l (.loop r))) (hp : r.params = #[p, q]) (hx : ev n T x = .func (.yield l) #[] #[]) (hvs : xs.map (ev n T) = [u, v])
    (hr : RoundIn Fence.wide 0 P l r.fn ((r.params.zip #[u, v]).foldl (fun t (x : Nat × Value) => t.setIfInBounds x.1 x.2) r.tmps) r.assign r.body w (fun e w' => ∃ v, e = .returned v ∧ Ψ v w'))
    (h : ∀ v w', Ψ v w' → AnyI P ops Q fuel (li z m') (mk n (upd T d v)) w') (hi' : ops[i']? = some ⟨some d, .call { callee := .value x, args := xs.toArray, argTypes := tys }, ty, pos, af, none⟩) (hl : (li z m).setIfInBounds i' true = li z m' := by kernel_rfl) :
    wpOpIn (FW none) 0 P ops Q i' (AnyI P ops Q fuel ((li z m).setIfInBounds i' true)) (mk n T) w := by
  unfold wpOpIn
  simp only [hi']
  rw [if_pos (by simp [Region.wanted]), hl]
  refine ⟨fun _ _ => trivial, ?_⟩
  rw [show (FW none).round = none from rfl, Oper.semAt_none, eval_mk', run_yieldop H hi hp hx hvs]
  refine ⟨fun hh => (by cases hh), RoundIn.mono hr ?_⟩
  rintro e w' ⟨v, rfl, hΨ⟩
  show AnyI P ops Q fuel (li z m') ((mk n T).put (some d) v) w'
  rw [put_mk]
  exact h v w' hΨ
end
def lkK {α : Type} (l : List (Int × α)) (a : Int) : Option α := (l.find? fun p => a == p.1).map (·.2)
def AllV {α : Type} (K : Kd α) (G : qk) : List Value → List (Int × α) → Prop
  | [], [] => True
  | v :: vs, x :: xs => K.V G v x.2 ∧ AllV K G vs xs
  | _, _ => False
def esK {α : Type} (k : IntKind) : Nat → List Value → List (Int × α) → List MapEntry
  | j, v :: vs, x :: xs => ⟨.int k x.1, v, j⟩ :: esK k (j + 1) vs xs
  | _, _, _ => []
theorem fnd_K {α : Type} {K : Kd α} {k : IntKind} {a : Int} : ∀ {vs : List Value} {xs : List (Int × α)} {j i : Nat}, AllV K G vs xs →
    ∃ x, Instr.findNow (.int k) (.int k a) (esK k i vs xs) j = some x ∧ match x with | none => lkK xs a = none | some q => ∃ y, lkK xs a = some y ∧ K.V G q.2 y
  | [], [], j, i, _ => ⟨none, rfl, rfl⟩
  | v :: vs, (b, x) :: xs, j, i, h => by
    obtain ⟨z, hz, hq⟩ := fnd_K (k := k) (a := a) (vs := vs) (xs := xs) (j := j + 1) (i := i + 1) h.2
    cases hb : a == b with
    | true => exact ⟨some (j, v), by simp [esK, Instr.findNow, Instr.sameNow, hb], x, by simp [lkK, List.find?, hb], h.1⟩
    | false =>
      refine ⟨z, by simp [esK, Instr.findNow, Instr.sameNow, hb, hz], ?_⟩
      have e : lkK ((b, x) :: xs) a = lkK xs a := by simp [lkK, List.find?, hb]
      rw [e]
      exact hq
theorem wl_lookupK {α : Type} {K : Kd α} {rest : List Oper} {r i : Nat} {vs : List Value} {xs : List (Int × α)} {k : IntKind} {a : Int} {z : α} {d t kt et ty clock : Nat} {x y : Operand} {b : Bool} {pos : String} {af : Array Edge} (H : St c G w σ) (hv : AllV K G vs xs) (hi : σ[i]? = some (.mp r (esK k 0 vs xs) clock))
    (ht : P.underlying t = some (.map kt et)) (hkd : P.underlying kt = some (.int k)) (hx : ev n T x = .map (some r)) (hy : ev n T y = .int k a) (hz : Zr P et K z)
    (h : ∀ v, K.V G v ((lkK xs a).getD z) → wpList P ops Q rest (mk n (upd T d (if b then .tuple #[v, .bool (lkK xs a).isSome] else v))) w) : wpList P ops Q (⟨some d, .lookup t x y b, ty, pos, af, none⟩ :: rest) (mk n T) w := by
  obtain ⟨q, hq, hm⟩ := fnd_K (k := k) (a := a) (j := 0) (i := 0) hv
  obtain ⟨z0, hz0, hzv⟩ := hz.zero
  cases q with
  | none =>
    have hm : lkK xs a = none := hm
    rw [hm] at h
    exact jA (val := z0) (ok := false) H hi ht hkd hx hy (by simp [IsKey]) ⟨_, hq, .inr ⟨rfl, rfl, hz0⟩⟩ (h z0 (hzv G))
  | some q =>
    obtain ⟨y, hy1, hv1⟩ := hm
    rw [hy1] at h
    exact jA (val := q.2) (ok := true) H hi ht hkd hx hy (by simp [IsKey]) ⟨_, hq, .inl ⟨q.1, rfl, rfl⟩⟩ (h q.2 hv1)
end
end Go.Proofs.YtadlndnagfnlgaaGreatDoor.W
