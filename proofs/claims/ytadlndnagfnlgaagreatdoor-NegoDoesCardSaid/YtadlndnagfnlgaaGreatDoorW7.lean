/- Words for walks, part 7: joins, loops, rows of entries picked anew, regions in any order. No program in it. -/
import Derived.Test.YtadlndnagfnlgaaGreatDoorW6
set_option linter.unusedSimpArgs false
set_option linter.unusedVariables false
namespace Go.Proofs.YtadlndnagfnlgaaGreatDoor.W
open Go

theorem qu {α β : Type} {x : Option α} {f : α → Option β} {y : β} (h : x.bind f = some y) : ∃ a, x = some a ∧ f a = some y := by
  cases x with
  | none => cases h
  | some a => exact ⟨a, rfl, h⟩
theorem ifT {α : Type} {b : Bool} {x y z : α} (h : (if b = true then x else y) = z) (hb : b = true) : x = z := by rwa [if_pos hb] at h
theorem ifF {α : Type} {b : Bool} {x y z : α} (h : (if b = true then x else y) = z) (hb : b = false) : y = z := by rwa [if_neg (by simp [hb])] at h
theorem jJ {σ R : Type} {o : Option R} {x : σ ⊕ R} {r : R} (h : Option.map Sum.inr o = some x) (hx : ∀ r', x = .inr r' → r' = r) : o = some r := by
  cases o with
  | none => cases h
  | some r' =>
    simp only [Option.map_some, Option.some.injEq] at h
    rw [hx r' h.symm]
theorem noneF {α : Type} {y : α} {p : Prop} (h : (none : Option α) = some y) : p := by cases h
theorem qm (b : Bool) : b = true ∨ b = false := by cases b <;> simp

section
variable {P : Program} {Q : Exit → Act → World → Prop} {n : Nat} {T : Fr} {a : Act} {w : World} {c : World} {G : qk} {σ : List Ent}
theorem qe {K : Act → World → Prop} (h : K a w) : Exit.then K Q .normal a w := h
theorem xB {K : Act → World → Prop} {id : Nat} (h : Q (.exit id) a w) : Exit.then K Q (.exit id) a w := h
theorem qI {K : Act → World → Prop} (h : Q .ret a w) : Exit.then K Q .ret a w := h
theorem zn {id : Nat} (h : Q .normal a w) : Exit.inBlock id Q .normal a w := h
theorem zg {id : Nat} (h : Q .ret a w) : Exit.inBlock id Q .ret a w := h
theorem blk_e {id : Nat} (h : Q .normal a w) : Exit.inBlock id Q (.exit id) a w := by
  show (if id = id then Q .normal a w else Q (.exit id) a w)
  rw [if_pos rfl]
  exact h
structure PF (Q : Exit → Act → World → Prop) : Prop where no : ∀ ch a w, ¬ Q (.panic ch) a w
theorem PF.base {fn : Func} {Φ : Value → World → Prop} : PF (bodyPost P fn (zu Φ)) := ⟨fun _ _ _ h => h.2⟩
theorem PF.then_ {K : Act → World → Prop} (h : PF Q) : PF (Exit.then K Q) := ⟨fun ch a w hq => h.no ch a w hq⟩
theorem PF.blk {id : Nat} (h : PF Q) : PF (Exit.inBlock id Q) := ⟨fun ch a w hq => h.no ch a w hq⟩
theorem join {x : Code} {Φ : Act → World → Prop} (I : Act → World → Prop) (hJ : ∀ a w, I a w → Φ a w) (h : x.wp P (Exit.then I Q) a w) : x.wp P (Exit.then Φ Q) a w :=
  wp_mono h fun e a w q => by
    cases e with
    | normal => exact hJ a w q
    | exit id => exact q
    | goto l => exact q
    | ret => exact q
    | panic ch => exact q
    | outgrown => exact q
theorem ja {x : Code} {S R : Type} {step : S → Option (S ⊕ R)} (I : S → Act → World → Prop) {s : S} {r : R} (hs : xL step s = some r) (h0 : I s a w)
    (h : ∀ s a w y, I s a w → step s = some y → (∀ r', y = .inr r' → r' = r) → x.wp P (Exit.then (fun a' w' => ∃ s', y = .inl s' ∧ I s' a' w') Q) a w) : (Code.loop x).wp P Q a w := by
  refine wp_loopM step I r ?_ hs h0
  intro s a w hI hst
  rcases hst with ⟨s', hs'⟩ | hr
  · refine wp_mono (h s a w _ hI hs' (fun r' e => by cases e)) fun e a w q => ?_
    cases e with
    | normal =>
      obtain ⟨s2, he, hI2⟩ := q
      cases he
      exact ⟨s', hs', hI2⟩
    | exit id => exact q
    | goto l => exact q
    | ret => exact q
    | panic ch => exact q
    | outgrown => exact q
  · refine wp_mono (h s a w _ hI hr (fun r' e => by cases e; rfl)) fun e a w q => ?_
    cases e with
    | normal =>
      obtain ⟨s2, he, _⟩ := q
      cases he
    | exit id => exact q
    | goto l => exact q
    | ret => exact q
    | panic ch => exact q
    | outgrown => exact q
theorem qf (l : List (Nat × Value)) (h : Holds T l) : mk n T = mk n (qQ T l) := by rw [upds_same h]

theorem St.pick (l l' : List Ent) (is : List Nat) (h : St c G w (l ++ σ)) (hn : decide is.Nodup = true) (hl : is.map (fun i => l[i]?) = l'.map some) : St c G w (l' ++ σ) := by
  have hnd : is.Nodup := of_decide_eq_true hn
  have hmem : ∀ e, e ∈ l' → e ∈ l := by
    intro e he
    have : some e ∈ is.map (fun i => l[i]?) := by rw [hl]; exact List.mem_map.2 ⟨e, he, rfl⟩
    obtain ⟨i, _, hi⟩ := List.mem_map.1 this
    exact List.mem_of_getElem? hi
  have hp := List.pairwise_append.1 h.ap
  refine ⟨h.os, h.tape, h.output, h.base, h.ag, ?_, List.pairwise_append.2 ⟨?_, hp.2.1, ?_⟩⟩
  · intro e he
    rcases List.mem_append.1 he with he | he
    · exact h.ok e (List.mem_append.2 (.inl (hmem e he)))
    · exact h.ok e (List.mem_append.2 (.inr he))
  · have key : ∀ (js : List Nat) (m : List Ent), js.Nodup → js.map (fun i => l[i]?) = m.map some → m.Pairwise fun e e' => ∀ k, e.blk = some k → e'.blk ≠ some k := by
      intro js
      induction js with
      | nil => intro m _ hm; cases m with | nil => exact List.Pairwise.nil | cons => simp at hm
      | cons j js ih =>
        intro m hjs hm
        cases m with
        | nil => simp at hm
        | cons e m =>
          simp only [List.map_cons, List.cons.injEq] at hm
          obtain ⟨hj, hm⟩ := hm
          have hjn := List.nodup_cons.1 hjs
          refine List.pairwise_cons.2 ⟨?_, ih m hjn.2 hm⟩
          intro e' he' k hk hk'
          have : some e' ∈ js.map (fun i => l[i]?) := by rw [hm]; exact List.mem_map.2 ⟨e', he', rfl⟩
          obtain ⟨i, hi, hie⟩ := List.mem_map.1 this
          have hne : j ≠ i := fun e => hjn.1 (e ▸ hi)
          obtain ⟨hjl, hje⟩ := List.getElem?_eq_some_iff.1 hj
          obtain ⟨hil, hie2⟩ := List.getElem?_eq_some_iff.1 hie
          have hpw := List.pairwise_iff_getElem.1 hp.1
          rcases Nat.lt_or_gt_of_ne hne with hlt | hlt
          · exact hpw j i hjl hil hlt k (by rw [hje]; exact hk) (by rw [hie2]; exact hk')
          · exact hpw i j hil hjl hlt k (by rw [hie2]; exact hk') (by rw [hje]; exact hk)
    exact key is l' hnd hl
  · intro e he e' he'
    exact hp.2.2 e (hmem e he) e' he'
theorem St.pk (is : List Nat) (k : Nat) {σ0 σ1 : List Ent} (h : St c G w σ0) (e : σ1 = (is.filterMap fun i => σ0[i]?) ++ σ0.drop k) (hn : decide (is.Nodup ∧ ∀ i, i ∈ is → i < k) = true) : St c G w σ1 := by
  subst e
  obtain ⟨hnd, hlt⟩ := of_decide_eq_true hn
  have hpw := List.pairwise_iff_getElem.1 h.ap
  have R : ∀ (i j : Nat) (a b : Ent), i ≠ j → σ0[i]? = some a → σ0[j]? = some b → ∀ q, a.blk = some q → b.blk ≠ some q := fun i j a b hne ha hb q hq hq' => by
    obtain ⟨hi, rfl⟩ := List.getElem?_eq_some_iff.1 ha
    obtain ⟨hj, rfl⟩ := List.getElem?_eq_some_iff.1 hb
    rcases Nat.lt_or_gt_of_ne hne with hl | hl
    · exact hpw i j hi hj hl q hq hq'
    · exact hpw j i hj hi hl q hq' hq
  have mem : ∀ {js : List Nat} {a : Ent}, a ∈ js.filterMap (fun i => σ0[i]?) → ∃ i, i ∈ js ∧ σ0[i]? = some a := fun ha => by
    obtain ⟨i, hi, e⟩ := List.mem_filterMap.1 ha
    exact ⟨i, hi, e⟩
  have key : ∀ js : List Nat, js.Nodup → (js.filterMap fun i => σ0[i]?).Pairwise fun e e' => ∀ q, e.blk = some q → e'.blk ≠ some q := by
    intro js
    induction js with
    | nil => intro _; exact List.Pairwise.nil
    | cons j js ih =>
      intro hjs
      obtain ⟨hj, hjs⟩ := List.nodup_cons.1 hjs
      rw [List.filterMap_cons]
      split
      · exact ih hjs
      · rename_i a ha
        refine List.pairwise_cons.2 ⟨fun b hb => ?_, ih hjs⟩
        obtain ⟨i, hi, hb⟩ := mem hb
        exact R j i a b (fun e => hj (e ▸ hi)) ha hb
  refine ⟨h.os, h.tape, h.output, h.base, h.ag, fun a ha => ?_, List.pairwise_append.2 ⟨key is hnd, h.ap.sublist (List.drop_sublist _ _), fun a ha b hb => ?_⟩⟩
  · rcases List.mem_append.1 ha with ha | ha
    · obtain ⟨i, _, ha⟩ := mem ha
      exact h.ok a (List.mem_of_getElem? ha)
    · exact h.ok a ((List.drop_sublist _ _).subset ha)
  · obtain ⟨i, hi, ha⟩ := mem ha
    obtain ⟨j, hj⟩ := List.getElem?_of_mem hb
    rw [List.getElem?_drop] at hj
    exact R i (k + j) a b (by have := hlt i hi; omega) ha hj
theorem St.recast {b t i : Nat} {p p' : Pd} (h : St c G w σ) (hi : σ[i]? = some (.box b t p)) (hp : ∀ cs, p.p G cs → p'.p G cs) : St c G w (σ.set i (.box b t p')) := by
  obtain ⟨h0, cs, hh, hr⟩ := h.okAt hi
  exact h.turnAt (X := none) hi (grown_refl w none) (fun k hk => by cases hk) ⟨h0, cs, hh, hp cs hr⟩ (fun k hk => .inl hk)

variable {ops : Array Oper} {rest : List Oper}
theorem wl_nou {d : Nat} {op : Op} {ty : TypeId} {pos : String} {af : Array Edge} {j : Nat} {b : Bool} {oj : Oper} {dj : Nat} (hj : ops[j]? = some oj) (hd : oj.dst = some dj) (hn : Nat.blt dj n = true) (hb : T dj = undef)
    (h : wpList P ops Q rest (mk n (upd T d undef)) w) : wpList P ops Q (⟨some d, op, ty, pos, af, some (j, b)⟩ :: rest) (mk n T) w := by
  have hy : yielded ops (mk n T).tmps j = none := by
    have hlt : dj < n := by simpa [Nat.blt_eq] using hn
    simp [yielded, hj, hd, mk, hlt, hb, undef]
  unfold wpList
  rw [if_neg (by simp only [Region.wanted, hy]; simp)]
  show wpList P ops Q rest ((mk n T).put (some d) undef) w
  rw [put_mk]
  exact h
theorem val_V {G : qk} {v x : Value} (h : Kd.val.V G v x) : v = x := by
  obtain ⟨cs, rfl, rfl, _⟩ := h
  rfl

def Any (P : Program) (ops : Array Oper) (Q : Exit → Act → World → Prop) (fuel : Nat) (listed : Array Bool) (a : Act) (w : World) : Prop := wpAny P .any ops Q fuel listed a w
theorem wc_any {id : Nat} {ops : Array Oper} (hm : P.follows .mixedOrders = true) (h : ∀ w', w' = w.drew → Any P ops Q ops.size (Array.replicate ops.size false) (mk n T) w') :
    (Code.region id ops true).wp P Q (mk n T) w := wp_region_any hm (h _ rfl)
theorem any_take {i fuel : Nat} {listed listed' : Array Bool} {oi : Oper} {d : Nat} (v : Value) (hi : ops[i]? = some oi) (hd : oi.dst = some d) (hs : Region.noSelect ops = true) (hf : Region.free .any ops listed i = true)
    (hr : (Region.ready .any ops listed).contains i = true) (hl : listed.setIfInBounds i true = listed') (hQ : PF Q) (hg : oi.guard = none) (hv : ∀ w, (execOp (ev n T) oi).run P w = .ok (.value v) w)
    (h : Any P ops Q fuel listed' (mk n (upd T d v)) w) : Any P ops Q (fuel + 1) listed (mk n T) w := by
  refine wpAny_take hi hs hf hr (fun ch a w hq => absurd hq (hQ.no _ _ _)) (v := v) (.inl ⟨by simp [Region.wanted, hg], fun w => by rw [eval_mk']; exact hv w⟩) ?_
  rw [hd, put_mk, hl]
  exact h
theorem any_off {i fuel : Nat} {listed listed' : Array Bool} {oi oj : Oper} {d j dj : Nat} {b : Bool} (hi : ops[i]? = some oi) (hd : oi.dst = some d) (hs : Region.noSelect ops = true) (hf : Region.free .any ops listed i = true)
    (hr : (Region.ready .any ops listed).contains i = true) (hl : listed.setIfInBounds i true = listed') (hQ : PF Q) (hg : oi.guard = some (j, b)) (hj : ops[j]? = some oj) (hdj : oj.dst = some dj) (hn : Nat.blt dj n = true) (hb : T dj = .bool (!b))
    (h : Any P ops Q fuel listed' (mk n (upd T d undef)) w) : Any P ops Q (fuel + 1) listed (mk n T) w := by
  have hy : yielded ops (mk n T).tmps j = some (!b) := by
    have hlt : dj < n := by simpa [Nat.blt_eq] using hn
    simp [yielded, hj, hdj, mk, hlt, hb]
  refine wpAny_take hi hs hf hr (fun ch a w hq => absurd hq (hQ.no _ _ _)) (v := undef) (.inr ⟨by simp only [Region.wanted, hg, hy]; cases b <;> rfl, rfl⟩) ?_
  rw [hd, put_mk, hl]
  exact h
theorem any_on {i fuel : Nat} {listed listed' : Array Bool} {oi oj : Oper} {d j dj : Nat} {b : Bool} (v : Value) (hi : ops[i]? = some oi) (hd : oi.dst = some d) (hs : Region.noSelect ops = true) (hf : Region.free .any ops listed i = true)
    (hr : (Region.ready .any ops listed).contains i = true) (hl : listed.setIfInBounds i true = listed') (hQ : PF Q) (hg : oi.guard = some (j, b)) (hj : ops[j]? = some oj) (hdj : oj.dst = some dj) (hn : Nat.blt dj n = true) (hb : T dj = .bool b)
    (hv : ∀ w, (execOp (ev n T) oi).run P w = .ok (.value v) w)
    (h : Any P ops Q fuel listed' (mk n (upd T d v)) w) : Any P ops Q (fuel + 1) listed (mk n T) w := by
  have hy : yielded ops (mk n T).tmps j = some b := by
    have hlt : dj < n := by simpa [Nat.blt_eq] using hn
    simp [yielded, hj, hdj, mk, hlt, hb]
  refine wpAny_take hi hs hf hr (fun ch a w hq => absurd hq (hQ.no _ _ _)) (v := v) (.inl ⟨by simp [Region.wanted, hg, hy], fun w => by rw [eval_mk']; exact hv w⟩) ?_
  rw [hd, put_mk, hl]
  exact h
theorem any_op {i fuel : Nat} {listed listed' : Array Bool} {oi : Oper} (hi : ops[i]? = some oi) (hl : listed.setIfInBounds i true = listed')
    (h : ∀ Q', (∀ a w, Any P ops Q fuel listed' a w → Q' .normal a w) → (∀ ch a w, Q (.panic ch) a w → Q' (.panic ch) a w) → (∀ a w, Q .outgrown a w → Q' .outgrown a w) → wpList P ops Q' [oi] (mk n T) w) :
    wpOp P ops Q i (wpAny P .any ops Q fuel (listed.setIfInBounds i true)) (mk n T) w := by
  have := h (fun e a w => match e with | .normal => Any P ops Q fuel listed' a w | e => Q e a w) (fun _ _ h => h) (fun _ _ _ h => h) (fun _ _ h => h)
  unfold wpOp
  simp only [hi]
  subst hl
  unfold wpList at this
  simp only [wpList] at this
  split at this
  · rename_i hw
    rw [if_pos hw]
    rcases this with h1 | ⟨h1, h2⟩
    · left
      unfold Oper.wp at h1 ⊢
      generalize (execOp (mk n T).eval oi).run P w = res at h1 ⊢
      cases res with
      | ok nx w' =>
        cases nx <;> simp only [Oper.upon] at h1 ⊢ <;>
          first
            | exact h1
            | exact Calls.mono h1 (fun e w'' he => by cases e <;> first | exact he | exact he)
            | exact Rows.mono h1 (fun _ _ he => he)
      | halt x w' => cases x <;> simp only [Oper.upon] at h1 ⊢ <;> exact h1
    · right
      exact ⟨h1, h2⟩
  · rename_i hw
    rw [if_neg hw]
    exact this
theorem any_done {listed : Array Bool} {fuel : Nat} (hr : Region.ready .any ops listed = []) (h : Q .normal (mk n T) w) : Any P ops Q fuel listed (mk n T) w := wpAny_done hr h fuel
end
end Go.Proofs.YtadlndnagfnlgaaGreatDoor.W
