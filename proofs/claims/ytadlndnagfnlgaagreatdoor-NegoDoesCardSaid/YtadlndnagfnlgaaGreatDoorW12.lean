/- Words for walks, part 12: a row of the call's own that is read, written and cut in place. No program in it. -/
import Derived.Test.YtadlndnagfnlgaaGreatDoorW10
set_option linter.unusedSimpArgs false
set_option linter.unusedVariables false
namespace Go.Proofs.YtadlndnagfnlgaaGreatDoor.W
open Go
section
variable {P : Program} {ops : Array Oper} {Q : Exit → Act → World → Prop} {rest : List Oper} {n : Nat} {T : Fr} {w : World} {c : World} {G : qk} {σ : List Ent}
variable {α : Type} {K : Kd α} {g : Option Nat} {A : Option Addr} {cap e i : Nat} {l : List α}
theorem row_at (H : St c G w σ) (hi : σ[i]? = some (.row K g A cap e l)) (hne : 0 < l.length) : ∃ (k : Nat) (cur : Array Value), g = some k ∧ A = some ⟨k, 0, none⟩ ∧ l.length ≤ cap ∧ cap ≤ maxLen ∧ w.heap[k]? = some (.cells cur e (0, 0)) ∧ cur.size = cap * K.sz ∧ zN K G (cur.toList.take (l.length * K.sz)) l ∧ G k = none := by
  obtain ⟨h0, ⟨_, hn, _⟩ | ⟨k, cur, hk, hA, hn, hm, hh, hcs, hp⟩⟩ := H.okAt hi
  · have hn : l.length = 0 := hn
    omega
  · exact ⟨k, cur, hk, hA, hn, hm, hh, hcs, hp, h0 k hk⟩
theorem rn_indexO {j : Int} {x : α} {t m : Nat} {s ix : Operand} {k : IntKind} (H : St c G w σ) (hi : σ[i]? = some (.row K g A cap e l)) (hl : Sl P t e) (ht : Ty P e K.sz K.agg) (hx : ev n T s = .slice A m cap) (hm : m = l.length) (hix : ev n T ix = .int k j) (hj : idx l j = some x) :
    ∃ a, A = some a ∧ Rn P n T (.indexAddr t s ix) (.pointer (some (a.add (j.toNat * K.sz)))) := by
  obtain ⟨h0, h1, hg⟩ := idx_some hj
  obtain ⟨k', cur, rfl, rfl, _⟩ := row_at H hi (by omega)
  refine ⟨_, rfl, fun d ty pos af g w => ?_⟩
  subst hm
  unfold execOp
  simp [hx, hix, Instr.indexAt, asIntOf, run_underlying hl.und, h0, h1, ht.run_size]
theorem wl_loadO {j : Int} {x : α} {a : Addr} {d t ty : Nat} {y : Operand} {pos : String} {af : Array Edge} (H : St c G w σ) (hi : σ[i]? = some (.row K g A cap e l)) (hA : A = some a) (hj : idx l j = some x) (ht : Ty P t K.sz K.agg) (hx : ev n T y = .pointer (some (a.add (j.toNat * K.sz))))
    (h : ∀ v, K.V G v x → wpList P ops Q rest (mk n (upd T d v)) w) : wpList P ops Q (⟨some d, .load t y, ty, pos, af, none⟩ :: rest) (mk n T) w := by
  obtain ⟨h0, h1, hg⟩ := idx_some hj
  obtain ⟨k, cur, rfl, hA', hn, hm, hh, hcs, hp, _⟩ := row_at H hi (by omega)
  rw [hA] at hA'
  cases hA'
  obtain ⟨cs, hr, hc⟩ := zN.at_ hp j.toNat x hg
  refine wl_ok (v := unc K.agg cs) ?_ (h _ ⟨cs, rfl, hr⟩)
  have hlo := run_loadVar_K (P := P) (w := w) ht hr ((⟨k, 0, none⟩ : Addr).add (j.toNat * K.sz)) (fun i v hv => by
    rw [add_add, add_plain, Nat.zero_add, cell_of_row w k _ cur e (0, 0) hh]
    have := hc i v hv
    rw [List.getElem?_take] at this
    split at this
    · simpa using this
    · cases this)
  unfold execOp
  simp [hx, Instr.loadAt, Instr.sureAddr, hlo]
theorem wl_storeO {j : Int} {x z : α} {v : Value} {a : Addr} {t ty : Nat} {y u : Operand} {pos : String} {af : Array Edge} (H : St c G w σ) (hi : σ[i]? = some (.row K g A cap e l)) (hA : A = some a) (hj : idx l j = some x) (ht : Ty P t K.sz K.agg) (hx : ev n T y = .pointer (some (a.add (j.toNat * K.sz)))) (hu : ev n T u = v) (hv : K.V G v z)
    (h : ∀ w', St c G w' (σ.set i (.row K g A cap e (l.set j.toNat z))) → wpList P ops Q rest (mk n T) w') : wpList P ops Q (⟨none, .store t y u, ty, pos, af, none⟩ :: rest) (mk n T) w := by
  obtain ⟨h0, h1, hg⟩ := idx_some hj
  obtain ⟨k, cur, rfl, hA', hn, hm, hh, hcs, hp, hG⟩ := row_at H hi (by omega)
  rw [hA] at hA'
  cases hA'
  have hjl : j.toNat < l.length := by omega
  have hle : j.toNat * K.sz + K.sz ≤ l.length * K.sz := by rw [← Nat.succ_mul]; exact Nat.mul_le_mul_right _ hjl
  have hle2 : l.length * K.sz ≤ cap * K.sz := Nat.mul_le_mul_right _ hn
  have hst := run_storeVar_K (P := P) (w := w) ht hv k (j.toNat * K.sz) cur.toList (tb := e) (by simpa using hh) (by simp; omega)
  have hvl : v.cells.toList.length = K.sz := K.len hv.cells
  refine wl_skip (w' := w.setRow k (cur.toList.take (j.toNat * K.sz) ++ v.cells.toList ++ cur.toList.drop (j.toNat * K.sz + v.cells.toList.length)).toArray) ?_ (h _ ?_)
  · unfold execOp
    simp [hx, hu, Instr.storeAt, Instr.sureAddr, add_plain, hst]
  · refine H.turnAt hi (setRow_grown w k _) (fun k hk => hk) ⟨(fun k' hk' => by cases hk'; exact hG), .inr ⟨k, _, rfl, hA, by simpa using hn, hm, setRow_heap w k cur _ e _ hh, ?_, ?_⟩⟩ (fun k hk => .inl hk)
    · simp only [List.size_toArray, List.length_append, List.length_take, List.length_drop, Array.length_toList, hvl]
      omega
    · show zN K G _ (l.set j.toNat z)
      have := (hp.split (d := x) hjl).2 hv.cells
      rw [List.length_set]
      rw [hvl] at this ⊢
      have e2 : (cur.toList.take (j.toNat * K.sz) ++ v.cells.toList ++ cur.toList.drop (j.toNat * K.sz + K.sz)).take (l.length * K.sz) = (cur.toList.take (l.length * K.sz)).take (j.toNat * K.sz) ++ v.cells.toList ++ (cur.toList.take (l.length * K.sz)).drop (j.toNat * K.sz + K.sz) := by
        rw [List.take_append, List.take_of_length_le (l := cur.toList.take (j.toNat * K.sz) ++ v.cells.toList) (by simp only [List.length_append, List.length_take, Array.length_toList, hvl]; omega), List.take_take, Nat.min_eq_left (by omega), List.drop_take]
        congr 2
        simp only [List.length_append, List.length_take, Array.length_toList, hvl]
        omega
      rw [e2]
      exact this
theorem cut_len {r : List α} {j : Int} (h : cut l none (some j) = some r) : 0 ≤ j ∧ j ≤ l.length ∧ r = l.take j.toNat ∧ r.length = j.toNat := by
  unfold cut at h
  split at h
  · rename_i hb
    cases h
    simp only [Option.getD_none, Option.getD_some] at hb
    obtain ⟨h0, h1, h2⟩ := hb
    refine ⟨h1, h2, by simp, ?_⟩
    simp
    omega
  · cases h
def tailA (A : Option Addr) (cap j sz : Nat) : Option Addr := if cap = j then A else A.map (·.add (j * sz))
theorem rn_cutT {j : Int} {t m sz : Nat} {agg : Bool} {s ol : Operand} {k : IntKind} (hl : Sl P t e) (ht : Ty P e sz agg) (hx : ev n T s = .slice A m cap) (ho : ev n T ol = .int k j) (h0 : 0 ≤ j) (h1 : j ≤ (m : Int)) : Rn P n T (.slice t s (some ol) none none) (.slice (tailA A cap j.toNat sz) (m - j.toNat) (cap - j.toNat)) := by
  intro d ty pos af g w
  unfold execOp
  simp [hx, ho, Instr.sliceAt, Instr.slice, run_underlying hl.und, Instr.sliceBounds, fun code w => run_sliceBound (P := P) (w := w) k j m code h0 h1, ht.run_size, tailA]
theorem rn_cutH {j : Int} {t m sz : Nat} {agg : Bool} {s oh : Operand} {k : IntKind} (hl : Sl P t e) (ht : Ty P e sz agg) (hx : ev n T s = .slice A m cap) (ho : ev n T oh = .int k j) (h0 : 0 ≤ j) (h1 : j ≤ (cap : Int)) : Rn P n T (.slice t s none (some oh) none) (.slice A j.toNat cap) := by
  intro d ty pos af g w
  unfold execOp
  simp [hx, ho, Instr.sliceAt, Instr.slice, run_underlying hl.und, Instr.sliceBounds, fun code w => run_sliceBound (P := P) (w := w) k j cap code h0 h1, ht.run_size]
  cases A <;> simp [Addr.add]
theorem zN.take {G : qk} : ∀ {l : List α} {cs : List Value} (j : Nat), zN K G cs l → zN K G (cs.take (j * K.sz)) (l.take j)
  | l, cs, 0, _ => by simp [zN]
  | [], cs, j + 1, h => by rw [show cs = [] from h]; simp [zN]
  | x :: l, cs, j + 1, h => by
    obtain ⟨c1, c2, rfl, h1, h2⟩ := h
    have hl := K.len h1
    rw [show (j + 1) * K.sz = c1.length + j * K.sz by rw [Nat.add_mul]; omega, List.take_length_add_append]
    exact ⟨c1, _, rfl, h1, zN.take j h2⟩
theorem wl_okN {op : Op} {ty : TypeId} {pos : String} {af : Array Edge} {w' : World} {v : Value}
    (hrun : (execOp (ev n T) ⟨none, op, ty, pos, af, none⟩).run P w = .ok (.value v) w')
    (h : wpList P ops Q rest (mk n T) w') : wpList P ops Q (⟨none, op, ty, pos, af, none⟩ :: rest) (mk n T) w := by
  refine wpList_plain rfl fun K hK => ?_
  unfold Oper.wp
  rw [eval_mk', hrun]
  exact hK _ _ h
theorem wl_clearT {z : α} {j : Int} {r : List α} {m t ty : Nat} {x : Operand} {pos : String} {af : Array Edge} (H : St c G w σ) (hi : σ[i]? = some (.row K g A cap e l)) (hl : Sl P t e) (hz : Zr P e K z) (hm : m = l.length) (hr : cut l none (some j) = some r)
    (hx : ev n T x = .slice (tailA A cap j.toNat K.sz) (m - j.toNat) (cap - j.toNat))
    (h : ∀ w', St c G w' (σ.set i (.row K g A cap e r)) → wpList P ops Q rest (mk n T) w') : wpList P ops Q (⟨none, .call { callee := .builtin .clear, args := #[x], argTypes := #[t] }, ty, pos, af, none⟩ :: rest) (mk n T) w := by
  subst hm
  obtain ⟨h0, h1, rfl, hrl⟩ := cut_len hr
  obtain ⟨v0, hv0, hzr⟩ := hz.zero
  by_cases hj : j.toNat = l.length
  · have hS : σ.set i (.row K g A cap e (l.take j.toNat)) = σ := by
      rw [hj, List.take_length]
      apply List.ext_getElem?
      intro q
      rw [List.getElem?_set]
      split
      · rename_i hq
        subst hq
        split
        · exact hi.symm
        · rename_i hlt; rw [List.getElem?_eq_none (by omega)]
      · rfl
    have h2 := h w (by rw [hS]; exact H)
    have hx' : ev n T x = .slice (tailA A cap j.toNat K.sz) 0 (cap - j.toNat) := by rw [hx, hj, Nat.sub_self]
    refine wl_okN (v := .tuple #[]) ?_ h2
    unfold execOp
    cases ht : tailA A cap j.toNat K.sz <;> simp [resolve, invoke, builtin, hx', ht, Builtin.clear_, run_underlying hl.und]
  · obtain ⟨k, cur, rfl, rfl, hn, hmx, hh, hcs, hp, hG⟩ := row_at H hi (by omega)
    have hjl : j.toNat < l.length := by omega
    have hta : tailA (some ⟨k, 0, none⟩) cap j.toNat K.sz = some ⟨k, j.toNat * K.sz, none⟩ := by
      unfold tailA
      rw [if_neg (by omega)]
      simp [add_plain]
    rw [hta] at hx
    obtain ⟨q, hq⟩ : ∃ q, l.length - j.toNat = q + 1 := ⟨l.length - j.toNat - 1, by omega⟩
    have hv := hzr G
    have hvl : v0.cells.size = K.sz := by have := K.len hv.cells; simpa using this
    have hone := K.one hv.cells
    have hzl : (Builtin.zeroCells v0.cells (q + 1)).toList.length = (q + 1) * K.sz := by rw [Array.length_toList, size_zeroCells, hvl]
    have hz1 : ∀ u ∈ (Builtin.zeroCells v0.cells (q + 1)).toList, u.oneCell' = true := by
      intro u hu
      simp only [Builtin.zeroCells, Array.toList_map, List.mem_map, Array.toList_range] at hu
      obtain ⟨p, hp1, rfl⟩ := hu
      have hp1 := List.mem_range.1 hp1
      have hsz : 0 < v0.cells.size := by
        rcases Nat.eq_zero_or_pos v0.cells.size with h0 | h0
        · rw [h0] at hp1; simp at hp1
        · exact h0
      have hlt : p % v0.cells.size < v0.cells.size := Nat.mod_lt _ hsz
      rw [getElem!_pos v0.cells _ hlt]
      exact hone _ (by simp)
    have hmul : (j.toNat + (q + 1)) * K.sz = j.toNat * K.sz + (q + 1) * K.sz := Nat.add_mul _ _ _
    have hle : (j.toNat + (q + 1)) * K.sz ≤ cap * K.sz := Nat.mul_le_mul_right _ (by omega)
    have hst := run_storeCells_at P k (j.toNat * K.sz) e (Builtin.zeroCells v0.cells (q + 1)).toList 0 cur w hh (by rw [hzl]; omega) hz1
    simp only [Nat.add_zero] at hst
    refine wl_okN (v := .tuple #[]) (w' := w.setRow k (cur.toList.take (j.toNat * K.sz) ++ (Builtin.zeroCells v0.cells (q + 1)).toList ++ cur.toList.drop (j.toNat * K.sz + (Builtin.zeroCells v0.cells (q + 1)).toList.length)).toArray) ?_ (h _ ?_)
    rotate_left
    · refine H.turnAt hi (setRow_grown w k _) (fun k hk => hk) ⟨(fun k' hk' => by cases hk'; exact hG), .inr ⟨k, _, rfl, rfl, by rw [hrl]; omega, hmx, setRow_heap w k cur _ e _ hh, ?_, ?_⟩⟩ (fun k hk => .inl hk)
      · simp only [List.size_toArray, List.length_append, List.length_take, List.length_drop, Array.length_toList]
        rw [Array.length_toList] at hzl
        omega
      · show zN K G _ (l.take j.toNat)
        have := zN.take j.toNat hp
        rw [List.take_take, Nat.min_eq_left (Nat.mul_le_mul_right _ (by omega))] at this
        rw [hrl, List.append_assoc, List.take_append_of_le_length (by simp only [List.length_take, Array.length_toList]; omega), List.take_take, Nat.min_self]
        exact this
    · unfold execOp
      rw [hq] at hx
      simp [resolve, invoke, builtin, hx, Builtin.clear_, run_underlying hl.und, run_zero hv0, hst]
theorem row_cap (H : St c G w σ) (hi : σ[i]? = some (.row K g A cap e l)) : l.length ≤ cap := by
  obtain ⟨_, ⟨_, hn, hc, _⟩ | ⟨k, cur, _, _, hn, _⟩⟩ := H.okAt hi
  · omega
  · exact hn
theorem rn_cutR {r : List α} {j : Int} {t m sz : Nat} {agg : Bool} {s oh : Operand} {k : IntKind} (hr : cut l none (some j) = some r) (hc : r.length ≤ cap) (hl : Sl P t e) (ht : Ty P e sz agg) (hx : ev n T s = .slice A m cap) (ho : ev n T oh = .int k j) : Rn P n T (.slice t s none (some oh) none) (.slice A r.length cap) := by
  obtain ⟨h0, _, _, h3⟩ := cut_len hr
  have := rn_cutH hl ht hx ho h0 (by omega)
  rw [h3]
  exact this
end
end Go.Proofs.YtadlndnagfnlgaaGreatDoor.W
