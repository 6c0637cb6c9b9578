/- Words for walks, part 6: slices of the call's own, append, calls, results. No program in it. -/
import Derived.Test.YtadlndnagfnlgaaGreatDoorW5
set_option linter.unusedSimpArgs false
set_option linter.unusedVariables false
namespace Go.Proofs.YtadlndnagfnlgaaGreatDoor.W
open Go

def app {α : Type} (l m : List α) : Option (List α) := if l.length + m.length ≤ 1000000 then some (l ++ m) else none
theorem app_some {α : Type} {l m r : List α} (h : app l m = some r) : l.length + m.length ≤ 1000000 ∧ r = l ++ m := by
  unfold app at h
  split at h
  · rename_i hl
    cases h
    exact ⟨hl, rfl⟩
  · cases h
abbrev Ent.row {α : Type} (K : Kd α) (g : Option Nat) (A : Option Addr) (cap : Nat) (t : TypeId) (l : List α) : Ent := .own g A l.length cap t K.sz (K.row l)
def SrcR {α : Type} (K : Kd α) (G : qk) (w : World) (B : Option Addr) (m : List α) : Prop :=
  (B = none → m = []) ∧ ∀ b, B = some b → ∃ news, zN K G news m ∧ ∀ j u, news[j]? = some u → w.cell? (b.add j) = some u
theorem SlR.cells {α : Type} {K : Kd α} {G : qk} {a : Addr} : ∀ {l : List α} {k : Nat}, (∀ j x, l[j]? = some x → ∃ cs, K.rd G cs x ∧ ∀ i v, cs[i]? = some v → gcell G (a.add ((k + j) * K.sz + i)) = some v) →
    ∃ news, zN K G news l ∧ ∀ j u, news[j]? = some u → gcell G (a.add (k * K.sz + j)) = some u
  | [], k, _ => ⟨[], rfl, fun j u h => by simp at h⟩
  | x :: l, k, h => by
    obtain ⟨cs, hr, hc⟩ := h 0 x rfl
    obtain ⟨ds, hd, hdc⟩ := SlR.cells (l := l) (k := k + 1) (fun j y hy => by
      obtain ⟨es, he, hec⟩ := h (j + 1) y (by simpa using hy)
      exact ⟨es, he, fun i v hv => by have := hec i v hv; rwa [show k + (j + 1) = k + 1 + j by omega] at this⟩)
    refine ⟨cs ++ ds, ⟨cs, ds, rfl, hr, hd⟩, fun j u hu => ?_⟩
    have hl := K.len hr
    by_cases hj : j < cs.length
    · rw [List.getElem?_append_left hj] at hu
      simpa using hc j u hu
    · rw [List.getElem?_append_right (by omega)] at hu
      have := hdc _ u hu
      rwa [show (k + 1) * K.sz + (j - cs.length) = k * K.sz + j by rw [Nat.add_mul]; omega] at this
section
variable {P : Program} {ops : Array Oper} {Q : Exit → Act → World → Prop} {rest : List Oper} {n : Nat} {T : Fr} {w : World} {c : World} {G : qk} {σ : List Ent}
theorem SlR.src {α : Type} {K : Kd α} {A : Option Addr} {cp : Nat} {l : List α} (h : SlR K G A cp l) (H : Agree G w) : SrcR K G w A l := by
  refine ⟨fun e => (h.2.1 e).1, fun a ha => ?_⟩
  obtain ⟨news, hr, hc⟩ := SlR.cells (K := K) (G := G) (a := a) (l := l) (k := 0) (fun j x hx => by simpa using h.2.2 a ha j x hx)
  exact ⟨news, hr, fun j u hu => H.cell (by simpa using hc j u hu)⟩
theorem Ent.ok.src {α : Type} {K : Kd α} {g : Option Nat} {A : Option Addr} {cap : Nat} {t : TypeId} {l : List α} (h : (Ent.row K g A cap t l).ok G w) : SrcR K G w A l := by
  obtain ⟨_, ⟨_, hn, _, hp⟩ | ⟨k, cur, rfl, rfl, hn, _, hh, hcs, hp⟩⟩ := h
  · have e : l = [] := List.eq_nil_of_length_eq_zero hn
    subst e
    exact ⟨fun _ => rfl, fun b _ => ⟨[], rfl, fun j u hu => by simp at hu⟩⟩
  · refine ⟨(fun e => by cases e), fun b hb => ?_⟩
    cases hb
    refine ⟨_, hp, fun j u hu => ?_⟩
    rw [add_plain, Nat.zero_add, cell_of_row w k j cur t (0, 0) hh]
    rw [List.getElem?_take] at hu
    split at hu
    · simpa using hu
    · cases hu
theorem St.nilrow {α : Type} (H : St c G w σ) (K : Kd α) (A : Option Addr) (t : TypeId) : St c G w (.row K none A 0 t [] :: σ) :=
  H.add (grown_refl w none) ⟨(fun k hk => by cases hk), .inl ⟨rfl, rfl, rfl, rfl⟩⟩ (fun k hk => by cases hk)
theorem St.stay {α : Type} {K : Kd α} {g : Option Nat} {A : Option Addr} {cap : Nat} {t : TypeId} {l : List α} {i : Nat} (H : St c G w σ) (hi : σ[i]? = some (.row K g A cap t l)) (hA : A = none → cap = 0) :
    ∃ G', GLe G G' ∧ St c G' w (σ.eraseIdx i) ∧ SlR K G' A cap l := by
  have hF := H.front hi
  obtain ⟨h0, ⟨rfl, hn, hc, hp⟩ | ⟨k, cur, rfl, rfl, hn, hm, hh, hcs, hp⟩⟩ := H.okAt hi
  · have e : l = [] := List.eq_nil_of_length_eq_zero hn
    subst e
    exact ⟨G, GLe.refl G, hF.drop, Nat.zero_le _, (fun _ => ⟨rfl, hc⟩), (fun a ha j x hx => by simp at hx)⟩
  · obtain ⟨hle, hS⟩ := hF.keep k rfl _ hh
    refine ⟨_, hle, hS, hn, (fun e => by cases e), fun a ha j x hx => ?_⟩
    cases ha
    obtain ⟨cs, hr, hci⟩ := zN.at_ hp j x hx
    refine ⟨cs, K.mono hle hr, fun i v hv => ?_⟩
    have := hci i v hv
    rw [List.getElem?_take] at this
    split at this
    · rw [add_plain, Nat.zero_add]
      simp only [gcell, qk.with_, if_true]
      simpa using this
    · cases this
theorem St.capA {α : Type} {K : Kd α} {g : Option Nat} {A : Option Addr} {cap : Nat} {t : TypeId} {l : List α} {i : Nat} (H : St c G w σ) (hi : σ[i]? = some (.row K g A cap t l)) : A = none → cap = 0 := by
  intro e
  obtain ⟨_, ⟨_, _, hc, _⟩ | ⟨k, cur, _, hA, _⟩⟩ := H.okAt hi
  · exact hc
  · rw [e] at hA; cases hA

def Vs {α : Type} (K : Kd α) (G : qk) : List Value → List α → Prop
  | [], [] => True
  | v :: vs, x :: xs => K.V G v x ∧ Vs K G vs xs
  | _, _ => False
theorem Vs.len {α : Type} {K : Kd α} : ∀ {vs : List Value} {xs : List α}, Vs K G vs xs → vs.length = xs.length
  | [], [], _ => rfl
  | _ :: _, _ :: _, h => by simp [Vs.len h.2]
theorem Vs.row {α : Type} {K : Kd α} : ∀ {vs : List Value} {xs : List α}, Vs K G vs xs → zN K G (vs.flatMap fun v => v.cells.toList) xs
  | [], [], _ => rfl
  | v :: vs, x :: xs, h => ⟨v.cells.toList, _, by simp, h.1.cells, Vs.row h.2⟩
def enumV : Nat → List Value → List (Nat × Value)
  | _, [] => []
  | k, v :: vs => (k, v) :: enumV (k + 1) vs
theorem fill_enum {α : Type} {K : Kd α} : ∀ {vs : List Value} {xs : List α} {k : Nat} {cells : Array Value}, Vs K G vs xs → cells.size = (k + vs.length) * K.sz →
    Instr.fill (fun i => some (i * K.sz, K.sz)) cells (enumV k vs) = some (cells.toList.take (k * K.sz) ++ (vs.flatMap fun v => v.cells.toList)).toArray
  | [], [], k, cells, _, hs => by
    simp only [enumV, Instr.fill, List.flatMap_nil, List.append_nil]
    rw [List.take_of_length_le (by simp at hs ⊢; omega)]
  | v :: vs, x :: xs, k, cells, h, hs => by
    have hl := K.len h.1.cells
    simp only [Array.length_toList] at hl
    have hsz : (k + (vs.length + 1)) * K.sz = k * K.sz + K.sz + vs.length * K.sz := by rw [Nat.add_mul, Nat.add_mul]; omega
    have hk1 : (k + 1) * K.sz = k * K.sz + K.sz := by rw [Nat.add_mul]; omega
    rw [List.length_cons, hsz] at hs
    simp only [enumV]
    rw [fill_cons (off := k * K.sz) (size := K.sz) rfl hl (by omega)]
    rw [fill_enum (xs := xs) h.2 (by
      simp only [List.size_toArray, List.length_append, List.length_take, Array.length_toList, List.length_drop, hl]
      rw [Nat.add_mul, hk1]
      omega)]
    congr 2
    rw [List.flatMap_cons, ← List.append_assoc]
    congr 1
    rw [hk1, List.take_append_of_le_length (by simp [hl]; omega), List.take_of_length_le (by simp [hl]; omega)]
structure El (P : Program) (e : TypeId) (sz : Nat) : Prop where
  info : (P.info? e).map (fun i => (i.size, decide (i.bytes ≤ 100000), i.zero.map (·.cells.size))) = some (sz, true, some sz)
  pos : 0 < sz
theorem El.at_ {e : TypeId} {sz : Nat} (h : El P e sz) : ∃ i z, P.info? e = some i ∧ i.size = sz ∧ i.bytes ≤ 100000 ∧ i.zero = some z ∧ z.cells.size = sz := by
  have hi := h.info
  cases hx : P.info? e with
  | none => simp [hx] at hi
  | some i =>
    simp only [hx, Option.map_some, Option.some.injEq, Prod.mk.injEq, decide_eq_true_eq] at hi
    obtain ⟨h1, h2, h3⟩ := hi
    cases hz : i.zero with
    | none => simp [hz] at h3
    | some z => exact ⟨i, z, rfl, h1, h2, hz, by simpa [hz] using h3⟩
theorem zh {α : Type} {K : Kd α} {vs : List Value} {xs : List α} {d : Nat} {t e ty m : Nat} {parts : List (Nat × Operand)} {pos : String} {af : Array Edge}
    (H : St c G w σ) (hl : Sl P t e) (he : El P e K.sz) (hps : (parts.map fun p => (p.1, ev n T p.2)) = enumV 0 vs) (hv : Vs K G vs xs) (hm : xs.length = m) (hlim : m * K.sz ≤ 100000)
    (h : ∀ g w', St c G w' (.row K (some g) (some ⟨g, 0, none⟩) m e xs :: σ) → wpList P ops Q rest (mk n (upd T d (.slice (some ⟨g, 0, none⟩) m m))) w') :
    wpList P ops Q (⟨some d, .buildSlice t m parts.toArray, ty, pos, af, none⟩ :: rest) (mk n T) w := by
  obtain ⟨i, z, hi, hsz, hby, hz, hzs⟩ := he.at_
  have hvl := hv.len
  have hrow := hv.row
  have hlen := zN.len hrow
  have hfill : ∀ cells : Array Value, cells.size = m * K.sz → Instr.fill (fun i => some (i * K.sz, K.sz)) cells (enumV 0 vs) = some (vs.flatMap fun v => v.cells.toList).toArray := by
    intro cells hc
    have := fill_enum (k := 0) (cells := cells) hv (by rw [hc, Nat.zero_add, hvl, hm])
    simpa using this
  refine wl_ok (v := .slice (some ⟨w.heap.size, 0, none⟩) m m) (w' := w.alloc (.cells (vs.flatMap fun v => v.cells.toList).toArray e)) ?_ (h _ _ ?_)
  · have hps' : ((parts.toArray).map fun p => (p.1, ev n T p.2)).toList = enumV 0 vs := by rw [← hps]; simp
    have hno : ¬ (m * K.sz > 2 ^ 24) := by omega
    unfold execOp
    simp only [Sem.run_bind, Instr.buildSlice, run_underlying hl.und, Result.andThen_ok]
    have hs : (sizeOf e).run P w = .ok K.sz w := by simp [sizeOf, typeInfo, hi, hsz]
    have hzv : (zeroValue e).run P w = .ok z w := by simp [zeroValue, typeInfo, hi, hz]
    simp only [hs, Result.andThen_ok, hno, if_false]
    by_cases h0 : m * K.sz = 0
    · simp only [if_pos h0, Sem.run_bind, Sem.run_pure, Result.andThen_ok, hps']
      rw [hfill _ (by simp)]
      simp only [newRow, Sem.run_bind, run_newObj_alloc, Result.andThen_ok, Sem.run_pure]
    · simp only [if_neg h0, Sem.run_bind, hzv, Sem.run_pure, Result.andThen_ok, hps']
      rw [hfill _ (by simp)]
      simp only [newRow, Sem.run_bind, run_newObj_alloc, Result.andThen_ok, Sem.run_pure]
  · refine H.add (World.grownBy_alloc w _ none) ⟨(fun k hk => by cases hk; exact H.ag.fresh (Nat.le_refl _)), .inr ⟨w.heap.size, _, rfl, rfl, by omega, ?_, heap_alloc_new w _, ?_, ?_⟩⟩ (fun k hk => by cases hk; exact Nat.le_refl _)
    · have := he.pos
      have : m ≤ m * K.sz := Nat.le_mul_of_pos_right m he.pos
      simp only [maxLen]; omega
    · simp only [List.size_toArray]; rw [hlen, hm]
    · show zN K G _ xs
      rw [List.take_of_length_le (by rw [hlen]; exact Nat.le_refl _)]
      exact hrow

theorem run_append_row {α : Type} {K : Kd α} {g : Option Nat} {A B : Option Addr} {cap cb : Nat} {l m : List α} {t e ty i : Nat} (H : St c G w σ) (hl : Sl P t e) (he : El P e K.sz)
    (hi : σ[i]? = some (.row K g A cap e l)) (hs : SrcR K G w B m) (hlim : l.length + m.length ≤ 1000000) :
    ∃ g' A' cap' w', (Builtin.append_ #[t, t] ty #[.slice A l.length cap, .slice B m.length cb]).run P w = .ok (.slice A' (l ++ m).length cap') w' ∧ St c G w' (σ.set i (.row K g' A' cap' e (l ++ m))) := by
  obtain ⟨ti, z, hti, hsz, hby, hz, hzs⟩ := he.at_
  have hpos := he.pos
  cases hm : m with
  | nil =>
    refine ⟨g, A, cap, w, ?_, ?_⟩
    · rw [List.append_nil]
      have hcap : l.length ≤ cap := by
        obtain ⟨_, ⟨_, hn, hc, _⟩ | ⟨k, cur, _, _, hn, _⟩⟩ := H.okAt hi
        · omega
        · exact hn
      cases B with
      | none => cases A <;> simp [Builtin.append_, run_underlying hl.und, sizeOf, typeInfo, hti, Builtin.lenOf, hcap, Builtin.firstCells, storeCells]
      | some b => cases A <;> simp [Builtin.append_, run_underlying hl.und, sizeOf, typeInfo, hti, Builtin.lenOf, hcap, Builtin.firstCells, storeCells, loadCells, loadCellsFrom]
    · rw [List.append_nil]
      have : σ.set i (.row K g A cap e l) = σ := by
        apply List.ext_getElem?
        intro j
        rw [List.getElem?_set]
        split
        · rename_i hj
          subst hj
          split
          · exact hi.symm
          · rename_i hlt; rw [List.getElem?_eq_none (by omega)]
        · rfl
      rw [this]
      exact H
  | cons x0 m0 =>
    rw [← hm]
    have hmpos : 0 < m.length := by rw [hm]; simp
    cases B with
    | none => have := hs.1 rfl; rw [this] at hmpos; simp at hmpos
    | some b =>
      obtain ⟨news, hr, hc⟩ := hs.2 b rfl
      have hnl : news.length = m.length * ti.size := by rw [zN.len hr, hsz]
      have hone := zN.one hr
      have hfitb : (l.length + m.length) * ti.bytes ≤ 140737488355328 := by
        have : (l.length + m.length) * ti.bytes ≤ 1000000 * 100000 := Nat.mul_le_mul hlim hby
        omega
      have hlen2 : (l ++ m).length = l.length + m.length := List.length_append
      have grow : ∀ (olds : List Value), zN K G olds l → ∀ (old : Nat), old < l.length + m.length →
          St c G (w.drew.alloc (.cells (olds.toArray ++ news.toArray ++ Builtin.zeroCells z.cells (grownCap w (l.length + m.length) old e - (l.length + m.length))) e))
            (σ.set i (.row K (some w.heap.size) (some ⟨w.heap.size, 0, none⟩) (grownCap w (l.length + m.length) old e) e (l ++ m))) := by
        intro olds hro old ho
        have hge := grownCap_ge w (l.length + m.length) old e
        have hcm : grownCap w (l.length + m.length) old e ≤ maxLen := grownCap_le_maxLen w _ old e (by simp only [maxLen]; omega)
        have hol := zN.len hro
        refine H.turnAt (X := none) hi ⟨rfl, rfl, rfl, by simp, fun k hk _ => heap_alloc_old w.drew _ hk⟩ (fun k hk => by cases hk) ?_ (fun k hk => by cases hk; exact .inr (Nat.le_refl _))
        refine ⟨(fun k hk => by cases hk; exact H.ag.fresh (Nat.le_refl _)), .inr ⟨w.heap.size, _, rfl, rfl, by rw [hlen2]; exact hge, hcm, heap_alloc_new w.drew _, ?_, ?_⟩⟩
        · simp only [Array.size_append, List.size_toArray, size_zeroCells, hzs, hol, hnl, hsz, ← Nat.add_mul]
          congr 1
          omega
        · show zN K G _ (l ++ m)
          simp only [Array.toList_append, List.append_assoc]
          have e3 : (olds ++ news).length = (l ++ m).length * K.sz := by rw [hlen2, List.length_append, hol, hnl, hsz, Nat.add_mul]
          rw [← List.append_assoc, List.take_append_of_le_length (Nat.le_of_eq e3.symm), List.take_of_length_le (Nat.le_of_eq e3)]
          exact hro.append hr
      obtain ⟨h0, ⟨rfl, hn, hcap, hp⟩ | ⟨k, cur, rfl, rfl, hn, hmx, hh, hcs, hp⟩⟩ := H.okAt hi
      · have e : l = [] := List.eq_nil_of_length_eq_zero hn
        subst e
        subst hcap
        have hgr := grow [] rfl 0 (by simp; omega)
        simp only [List.length_nil, Nat.zero_add, List.nil_append] at hgr ⊢
        refine ⟨_, _, _, _, ?_, hgr⟩
        cases A with
        | none =>
          have := run_append_nil (P := P) w t ty e ti z hl.und hti hz b m.length cb news hnl hc hmpos (by omega) (by have := hfitb; simp at this; omega)
          simpa using this
        | some a =>
          have := run_append_grow (P := P) w t ty e ti z hl.und hti hz a 0 0 [] (by simp) (fun j v hv => by simp at hv) b m.length cb news hnl hc (by omega) (by omega) (growslice_fits (by omega) (by have := hfitb; simp at this; simpa using this))
          simpa using this
      · by_cases hroom : l.length + m.length ≤ cap
        · have hfit : l.length * ti.size + news.length ≤ cur.size := by rw [hnl, hcs, hsz, ← Nat.add_mul]; exact Nat.mul_le_mul_right _ hroom
          have hrun := run_append_room (P := P) w t ty e ti hl.und hti k l.length cap cur hh b m.length cb news hnl hc hone hroom hfit
          refine ⟨some k, some ⟨k, 0, none⟩, cap, _, by rw [hlen2]; exact hrun, ?_⟩
          refine H.turnAt hi (setRow_grown w k _) (fun j hj => hj) ?_ (fun j hj => .inl hj)
          refine ⟨h0, .inr ⟨k, _, rfl, rfl, by rw [hlen2]; exact hroom, hmx, setRow_heap w k cur _ e _ hh, ?_, ?_⟩⟩
          · simp only [List.size_toArray, List.length_append, List.length_take, List.length_drop, Array.length_toList]
            omega
          · show zN K G _ (l ++ m)
            have hol := zN.len hp
            rw [hsz]
            have e2 : (l ++ m).length * K.sz = (cur.toList.take (l.length * K.sz) ++ news).length := by
              rw [hlen2, List.length_append, hol, hnl, hsz, Nat.add_mul]
            show zN K G (List.take ((l ++ m).length * K.sz) (cur.toList.take (l.length * K.sz) ++ news ++ cur.toList.drop (l.length * K.sz + news.length))) (l ++ m)
            rw [e2, List.take_left]
            exact hp.append hr
        · have holds : ∀ j u, (cur.toList.take (l.length * K.sz))[j]? = some u → w.cell? ((⟨k, 0, none⟩ : Addr).add j) = some u := by
            intro j u hu
            rw [add_plain, Nat.zero_add, cell_of_row w k j cur e (0, 0) hh]
            rw [List.getElem?_take] at hu
            split at hu
            · simpa using hu
            · cases hu
          have hrun := run_append_grow (P := P) w t ty e ti z hl.und hti hz ⟨k, 0, none⟩ l.length cap _ (by rw [zN.len hp, hsz]) holds b m.length cb news hnl hc (by omega) (by omega) (growslice_fits (by omega) hfitb)
          exact ⟨_, _, _, _, by rw [hlen2]; exact hrun, grow _ hp cap (by omega)⟩
theorem zB {α : Type} {K : Kd α} {g : Option Nat} {A B : Option Addr} {cap cb : Nat} {l m r : List α} {d t e ty i : Nat} {x y : Operand} {pos : String} {af : Array Edge} (H : St c G w σ) (hl : Sl P t e) (he : El P e K.sz)
    (hi : σ[i]? = some (.row K g A cap e l)) (hx : ev n T x = .slice A l.length cap) (hy : ev n T y = .slice B m.length cb) (hs : SrcR K G w B m) (ha : app l m = some r)
    (h : ∀ g' A' cap' w', St c G w' (σ.set i (.row K g' A' cap' e r)) → wpList P ops Q rest (mk n (upd T d (.slice A' r.length cap'))) w') :
    wpList P ops Q (⟨some d, .call { callee := .builtin .append, args := #[x, y], argTypes := #[t, t] }, ty, pos, af, none⟩ :: rest) (mk n T) w := by
  obtain ⟨hlim, rfl⟩ := app_some ha
  obtain ⟨g', A', cap', w', hr, hS⟩ := run_append_row (ty := ty) (cb := cb) H hl he hi hs hlim
  refine wl_ok ?_ (h g' A' cap' w' hS)
  unfold execOp
  simp [resolve, invoke, builtin, hx, hy, hr]

def zu (Φ : Value → World → Prop) : Ending → World → Prop
  | .returned v, w => Φ v w
  | _, _ => False
structure En (P : Program) (f : FuncId) : Prop where
  ent : ∃ fn, P.funcs[f]? = some fn ∧ (fn.name == "runtime.NumGoroutine") = false ∧ fn.body.isNone = false
theorem En.run {f : FuncId} (h : En P f) (args : Array Value) : (callFunc f args).run P w = .ok (.enter f args) w := by
  obtain ⟨fn, hf, h1, h2⟩ := h.ent
  simp only [callFunc, Sem.run_bind, run_program, Result.andThen_ok, hf]
  rw [if_neg (by rw [h1]; simp), if_neg (by rw [h2]; simp)]
  rfl
theorem wl_enter {op : Op} {d ty : Nat} {pos : String} {af : Array Edge} {f : FuncId} {args : Array Value} {Φ : Value → World → Prop}
    (hrun : (execOp (ev n T) ⟨some d, op, ty, pos, af, none⟩).run P w = .ok (.enter f args) w) (hc : Calls P f args w (zu Φ))
    (h : ∀ v w', Φ v w' → wpList P ops Q rest (mk n (upd T d v)) w') : wpList P ops Q (⟨some d, op, ty, pos, af, none⟩ :: rest) (mk n T) w := by
  refine wpList_plain rfl fun K hK => ?_
  unfold Oper.wp
  rw [eval_mk', hrun]
  show Calls P f args w _
  refine hc.mono fun e w' he => ?_
  cases e with
  | returned v =>
    show K ((mk n T).put (some d) v) w'
    rw [put_mk]
    exact hK _ _ (h v w' he)
  | panicked ch => exact he.elim
  | outgrown => exact he.elim
theorem qo {d ty : Nat} {pos : String} {af : Array Edge} {f : FuncId} {xs : List Operand} {tys : Array TypeId} {vs : List Value} {Φ : Value → World → Prop}
    (he : En P f) (hvs : xs.map (ev n T) = vs) (hc : Calls P f vs.toArray w (zu Φ))
    (h : ∀ v w', Φ v w' → wpList P ops Q rest (mk n (upd T d v)) w') : wpList P ops Q (⟨some d, .call { callee := .value (.func f), args := xs.toArray, argTypes := tys }, ty, pos, af, none⟩ :: rest) (mk n T) w := by
  refine wl_enter (f := f) (args := vs.toArray) ?_ hc h
  have e : (xs.toArray).map (ev n T) = vs.toArray := by rw [← hvs]; simp
  unfold execOp
  simp only [Sem.run_bind, resolve, ev, Deferred.ofValue, e, Sem.run_pure, Result.andThen_ok, invoke, Array.empty_append, Array.append_empty, he.run]
theorem jT {d ty : Nat} {pos : String} {af : Array Edge} {f : FuncId} {x : Operand} {xs : List Operand} {tys : Array TypeId} {first captured : List Value} {vs : List Value} {Φ : Value → World → Prop}
    (he : En P f) (hx : ev n T x = .func (.func f) first.toArray captured.toArray) (hvs : first ++ xs.map (ev n T) ++ captured = vs) (hc : Calls P f vs.toArray w (zu Φ))
    (h : ∀ v w', Φ v w' → wpList P ops Q rest (mk n (upd T d v)) w') : wpList P ops Q (⟨some d, .call { callee := .value x, args := xs.toArray, argTypes := tys }, ty, pos, af, none⟩ :: rest) (mk n T) w := by
  refine wl_enter (f := f) (args := vs.toArray) ?_ hc h
  have e : first.toArray ++ (xs.toArray).map (ev n T) ++ captured.toArray = vs.toArray := by
    apply Array.ext'
    rw [← hvs]
    simp
  unfold execOp
  simp only [Sem.run_bind, resolve, hx, Deferred.ofValue, Sem.run_pure, Result.andThen_ok, invoke, e, he.run]
def tup : List Value → Value
  | [v] => v
  | vs => .tuple vs.toArray
inductive RV (P : Program) (n : Nat) (T : Fr) (w : World) : List ResultVar → List Value → Prop
  | nil : RV P n T w [] []
  | tmp {t : Tmp} {v : Value} {rs : List ResultVar} {vs : List Value} (h : ev n T (.tmp t) = v) (r : RV P n T w rs vs) : RV P n T w (.tmp t :: rs) (v :: vs)
  | cell {a : Tmp} {t : TypeId} {p : Addr} {v : Value} {rs : List ResultVar} {vs : List Value} (h : ev n T (.tmp a) = .pointer (some p)) (hl : (loadVar t p).run P w = .ok v w) (r : RV P n T w rs vs) :
      RV P n T w (.cell a t :: rs) (v :: vs)
theorem getD_mk (t : Tmp) : (mk n T).tmps.getD t undef = ev n T (.tmp t) := eval_mk n T (.tmp t)
def resF (n : Nat) (T : Fr) : ResultVar → Sem Value
  | .tmp t => pure ((mk n T).tmps.getD t undef)
  | .cell a t => do loadVar t (← asAddr ((mk n T).tmps.getD a undef))
theorem RV.run {rs : List ResultVar} {vs : List Value} (h : RV P n T w rs vs) : (rs.mapM (resF n T)).run P w = .ok vs w := by
  induction h with
  | nil => simp
  | tmp h _ ih =>
    rw [List.mapM_cons]
    have e : ∀ t, (resF n T (.tmp t)).run P w = .ok (ev n T (.tmp t)) w := fun t => by rw [← getD_mk]; rfl
    simp only [Sem.run_bind, e, h, Result.andThen_ok, ih, Sem.run_pure]
  | cell h hl _ ih =>
    rw [List.mapM_cons]
    have e : ∀ a t, (resF n T (.cell a t)).run P w = ((asAddr (ev n T (.tmp a))).run P w).andThen fun p w => (loadVar t p).run P w := fun a t => by
      rw [← getD_mk]; simp only [resF, Sem.run_bind]
    simp only [Sem.run_bind, e, h, asAddr, Sem.run_pure, Result.andThen_ok, hl, ih]
theorem RV.results {fn : Func} {rs : List ResultVar} {vs : List Value} (hf : fn.results.toList = rs) (h : RV P n T w rs vs) : (Go.results fn (mk n T).tmps).run P w = .ok (tup vs) w := by
  have hr := h.run
  rw [← hf] at hr
  have e : Go.results fn (mk n T).tmps = (do
      let vs ← fn.results.mapM (resF n T)
      pure (if h : vs.size = 1 then vs[0] else .tuple vs)) := by
    unfold Go.results
    have : (fun r => resF n T r) = resF n T := rfl
    rw [← this]
    congr 1
  rw [e, ← Array.toArray_toList (xs := fn.results), List.mapM_toArray]
  simp only [map_eq_pure_bind, Sem.run_bind, hr, Result.andThen_ok, Sem.run_pure]
  congr 1
  match vs with
  | [] => rfl
  | [v] => rfl
  | _ :: _ :: _ => rfl
theorem qt {fn : Func} {rs : List ResultVar} {vs : List Value} {Φ : Value → World → Prop} (hf : fn.results.toList = rs) (h : RV P n T w rs vs) (hΦ : Φ (tup vs) w) : bodyPost P fn (zu Φ) .ret (mk n T) w :=
  ⟨rfl, _, h.results hf, hΦ⟩
theorem end_mk {fn : Func} {rs : List ResultVar} {vs : List Value} {Φ : Value → World → Prop} (hf : fn.results.toList = rs) (h : RV P n T w rs vs) (hΦ : Φ (tup vs) w) : bodyPost P fn (zu Φ) .normal (mk n T) w :=
  ⟨rfl, _, h.results hf, hΦ⟩
theorem St.loadv {α : Type} {K : Kd α} {x : α} {b i : Nat} {tb t : TypeId} (H : St c G w σ) (hi : σ[i]? = some (.box b tb (K.at_ x))) (ht : Ty P t K.sz K.agg) :
    ∃ v, K.V G v x ∧ (loadVar t ⟨b, 0, none⟩).run P w = .ok v w := by
  obtain ⟨_, cs, hh, hr⟩ := H.okAt hi
  refine ⟨unc K.agg cs, ⟨cs, rfl, hr⟩, ?_⟩
  exact run_loadVar_K (P := P) (w := w) ht hr ⟨b, 0, none⟩ (fun i v hv => by rw [add_plain, Nat.zero_add, cell_of_row w b i cs.toArray tb (0, 0) hh]; simpa using hv)
end
end Go.Proofs.YtadlndnagfnlgaaGreatDoor.W
