/- Plain lemmas: the references of the automaton and of events compute as the program does; rows and texts. -/
import Derived.Test.YtadlndnagfnlgaaGreatDoorR1
namespace Go.Proofs.YtadlndnagfnlgaaGreatDoor.W
open Go
set_option linter.unusedVariables false
set_option linter.unusedSimpArgs false
theorem toList_loop (b : ByteArray) : ∀ (j i : Nat) (r : List UInt8), i + j = b.size → ByteArray.toList.loop b i r = r.reverse ++ b.data.toList.drop i
  | 0, i, r, h => by
    rw [ByteArray.toList.loop.eq_1, if_neg (by omega), List.drop_of_length_le (show b.data.toList.length ≤ i from by rw [Array.length_toList]; exact Nat.le_of_eq h.symm), List.append_nil]
  | j + 1, i, r, h => by
    have hi : i < b.data.toList.length := by rw [Array.length_toList]; exact (show i < b.size by omega)
    have hg : b.get! i = b.data.toList[i] := by
      have hi' : i < b.data.size := by simpa using hi
      show b.data[i]! = _
      rw [getElem!_pos b.data i hi', Array.getElem_toList]
    rw [ByteArray.toList.loop.eq_1, if_pos (by omega), toList_loop b j (i + 1) _ (by omega), List.drop_eq_getElem_cons hi, hg]
    simp
theorem toList_data (b : ByteArray) : b.toList = b.data.toList := by
  show ByteArray.toList.loop b 0 [] = _
  rw [toList_loop b b.size 0 [] (by omega)]
  simp
theorem bstr_go : ∀ (l : List Int) (r : ByteArray), (l.foldl (fun r n => r.push (UInt8.ofNat n.toNat)) r).data.toList = r.data.toList ++ l.map (fun n => UInt8.ofNat n.toNat)
  | [], r => by simp
  | x :: l, r => by
    rw [List.foldl_cons, bstr_go l]
    simp [ByteArray.push]
theorem bstr_data (l : List Int) : (bstr l).toList = l.map (fun n => UInt8.ofNat n.toNat) := by
  rw [toList_data]
  unfold bstr
  rw [bstr_go]
  rfl
theorem map_inj : ∀ {a b : List Int}, xE a → xE b → a.map (fun n => UInt8.ofNat n.toNat) = b.map (fun n => UInt8.ofNat n.toNat) → a = b
  | [], [], _, _, _ => rfl
  | [], _ :: _, _, _, h => by simp at h
  | _ :: _, [], _, _, h => by simp at h
  | x :: a, y :: b, ha, hb, h => by
    simp only [List.map_cons, List.cons.injEq] at h
    have hx := ha x (by simp)
    have hy := hb y (by simp)
    have e := congrArg UInt8.toNat h.1
    simp only [UInt8.toNat_ofNat'] at e
    rw [map_inj (fun z hz => ha z (by simp [hz])) (fun z hz => hb z (by simp [hz])) h.2]
    congr 1
    omega
theorem equal_spec {a b : List Int} (ha : xE a) (hb : xE b) : bytes_Equal a b = some (decide (a = b)) := by
  unfold bytes_Equal streq
  rw [bstr_data, bstr_data]
  congr 1
  by_cases h : a = b
  · rw [decide_eq_true h, h]; simp
  · rw [decide_eq_false h, beq_eq_false_iff_ne]
    exact fun g => h (map_inj ha hb g)
theorem row_spec {a b : List Int} (hl : a.length ≤ 100000) : jz a b = some (decide (a = b)) := by
  by_cases h : a = b
  · rw [decide_eq_true h, h]; exact row_self (by rw [← h]; exact hl)
  rw [decide_eq_false h]
  unfold jz
  by_cases hn : a.length = b.length
  · rw [if_neg (show ¬ ((a.length : Int) != (b.length : Int)) = true by simp [hn])]
    refine loopM_eq (fun (x : Int) => ∃ k : Nat, x = (k : Int) ∧ k ≤ a.length ∧ a.take k = b.take k) (fun (x : Int) => 100001 - x.toNat) _ ⟨0, rfl, by omega, rfl⟩ (by simp) ?_
    rintro _ ⟨k, rfl, hk, ht⟩
    unfold pr01_Row_l1
    by_cases hlt : k < a.length
    · rw [if_pos (show decide ((k : Int) < (a.length : Int)) = true by simpa using hlt)]
      simp only [zW hlt, zW (show k < b.length by omega), Option.bind_some]
      by_cases hx : a[k] = b[k]
      · left
        rw [if_neg (by simpa using hx)]
        refine ⟨_, rfl, ⟨k + 1, by rw [w64 (by omega) (by omega)]; omega, by omega, ?_⟩, by rw [w64 (by omega) (by omega)]; omega⟩
        rw [List.take_succ_eq_append_getElem hlt, List.take_succ_eq_append_getElem (show k < b.length by omega), ht, hx]
      · right
        rw [if_pos (by simpa using hx)]
        rfl
    · exfalso
      apply h
      have e : k = a.length := by omega
      subst e
      rw [List.take_length, hn, List.take_length] at ht
      exact ht
  · rw [if_pos (show ((a.length : Int) != (b.length : Int)) = true by simpa using fun g : (a.length : Int) = (b.length : Int) => hn (by omega))]
def PeerOk (l : List TOpt) : Prop := l.length ≤ 1000 ∧ ∀ o, o ∈ l → o.Data.length ≤ 253
theorem sameL_peer {l : List TOpt} (h : PeerOk l) : jY l l = some true := by
  have hl := h.1
  unfold jY
  rw [if_neg (by simp)]
  refine run_loop (fun k => (k : Int)) l.length _ rfl (by omega) (fun k hk => ?_) ?_
  · unfold pr10_Same_l1
    rw [if_pos (by simpa using hk)]
    simp only [zW hk, Option.bind_some, one_self (h.2 _ (List.getElem_mem hk))]
    rw [if_neg (by simp), w64s (by omega)]
  · unfold pr10_Same_l1
    rw [if_neg (by simp)]; rfl
theorem is_self {n : TNego} {out : List TPkt} {told l : List Int} (hf : FewL n.Ours) (hp : PeerOk n.Peer) (ho : ∀ x, x ∈ out → x.Data.length ≤ 1496) (h2 : out.length ≤ 2) (h8 : told.length ≤ 8) : yo (Tref14_Out.mk n out told l) n out told = some true := by
  have hs : xF n n = some true := by
    unfold xF
    rw [sameL_self hf, sameL_peer hp]
    simp [eTAuto_self, eTRule_self]
  have hpk : pr14_Pkts out out = some true := by
    unfold pr14_Pkts
    rw [if_neg (by simp)]
    refine run_loop (fun k => (k : Int)) out.length _ rfl (by omega) (fun k hk => ?_) ?_
    · unfold pr14_Pkts_l1
      rw [if_pos (by simpa using hk)]
      have hx := ho _ (List.getElem_mem hk)
      have : pr09_Same out[k] out[k] = some true := by
        unfold pr09_Same
        rw [row_self (by omega)]
        simp
      simp only [zW hk, Option.bind_some, this]
      rw [if_neg (by simp), w64s (by omega)]
    · unfold pr14_Pkts_l1
      rw [if_neg (by simp)]; rfl
  have hin : pr11_Ints told told = some true := by
    unfold pr11_Ints
    rw [if_neg (by simp)]
    refine run_loop (fun k => (k : Int)) told.length _ rfl (by omega) (fun k hk => ?_) ?_
    · unfold pr11_Ints_l1
      rw [if_pos (by simpa using hk)]
      simp only [zW hk, Option.bind_some]
      rw [if_neg (by simp), w64s (by omega)]
    · unfold pr11_Ints_l1
      rw [if_neg (by simp)]; rfl
  unfold yo
  simp only
  rw [hs, hpk, hin]
  rfl
theorem refHas {l : List Int} (h : l.length < 1000000) (x : Int) : jx l x = some (has l x) := by
  have key : jx l x = some ((fun o : Option Nat => o.isSome) (l.findIdx? (x == ·))) := by
    unfold jx
    refine find_loopM (x == ·) (fun o : Option Nat => o.isSome) l (fun k => (k : Int)) rfl (by omega) (fun k hk hp => ?_) (fun k hk hp => ?_) ?_
    · unfold pr11_Has_l1
      rw [if_pos (by simpa using hk), zW hk]
      simp only [Option.bind_some]
      rw [if_neg (by simpa using fun g : l[k] = x => by simp [g] at hp), w64s (by omega)]
    · unfold pr11_Has_l1
      rw [if_pos (by simpa using hk), zW hk]
      simp only [Option.bind_some]
      rw [if_pos (by have : x = l[k] := (by simpa using hp); simpa using this.symm)]
      rfl
    · unfold pr11_Has_l1
      rw [if_neg (by simp)]; rfl
  rw [key]
  simp only [List.findIdx?_isSome]
  rfl
def tabEq (s e : Int) : Bool :=
  match fsm_Next s e, zV s e with
  | some (l, t, true), some (l', t', ok') => ok' && (l == l' && (t == t' && ((!(s == 0) || !(has l 5 && has l 7)) && ((!(e == 6) || !has l 9) && ((!(e == 7) || !has l 8) && (!(e == 4 || e == 5) || !has l 11))))))
  | some (_, _, false), some (_, _, ok') => !ok'
  | _, _ => false
theorem tabEq_all : ((List.range 10).all fun s => (List.range 16).all fun e => tabEq (s : Int) (e : Int)) = true := by kernel_rfl
structure Tab2 (s e : Int) (l : List Int) : Prop where
  zero : s = 0 → ¬ (has l 5 = true ∧ has l 7 = true)
  six : e = 6 → has l 9 = false
  seven : e = 7 → has l 8 = false
  tick : e = 4 ∨ e = 5 → has l 11 = false
theorem next_both {s e : Int} (h0 : 0 ≤ s) (h9 : s ≤ 9) (e0 : 0 ≤ e) (e15 : e ≤ 15) : (∃ l t l' t', fsm_Next s e = some (l, t, false) ∧ zV s e = some (l', t', false)) ∨ (∃ l t, fsm_Next s e = some (l, t, true) ∧ zV s e = some (l, t, true) ∧ TabOk s e l t ∧ Tab2 s e l) := by
  have h := tabEq_all
  rw [List.all_eq_true] at h
  have h1 := h s.toNat (by simp; omega)
  rw [List.all_eq_true] at h1
  have h2 := h1 e.toNat (by simp; omega)
  rw [show ((s.toNat : Nat) : Int) = s by omega, show ((e.toNat : Nat) : Int) = e by omega] at h2
  obtain ⟨l, t, hn | ⟨hn, ht⟩⟩ := next_spec h0 h9 e0 e15
  · unfold tabEq at h2
    rw [hn] at h2
    left
    cases hr : zV s e with
    | none => rw [hr] at h2; simp at h2
    | some r =>
      obtain ⟨l', t', ok'⟩ := r
      rw [hr] at h2
      simp only [Bool.not_eq_true'] at h2
      subst h2
      exact ⟨l, t, l', t', hn, rfl⟩
  · unfold tabEq at h2
    rw [hn] at h2
    right
    cases hr : zV s e with
    | none => rw [hr] at h2; simp at h2
    | some r =>
      obtain ⟨l', t', ok'⟩ := r
      rw [hr] at h2
      simp only [Bool.and_eq_true, beq_iff_eq, Bool.or_eq_true, Bool.not_eq_true', Bool.and_eq_false_iff, beq_eq_false_iff_ne, ne_eq, Bool.or_eq_false_iff] at h2
      obtain ⟨rfl, rfl, rfl, g0, g6, g7, g4⟩ := h2
      refine ⟨l, t, hn, rfl, ht, ⟨fun hs g => ?_, fun he => ?_, fun he => ?_, fun he => ?_⟩⟩
      · rcases g0 with g0 | g0 | g0
        · exact g0 hs
        · rw [g0] at g; simp at g
        · rw [g0] at g; simp at g
      · exact g6.resolve_left (fun x => x he)
      · exact g7.resolve_left (fun x => x he)
      · rcases g4 with ⟨a, b⟩ | g4
        · exact absurd he (fun x => x.elim a b)
        · exact g4
theorem cnt_eq (y : Int) : (if 0 < y then y else 0) = (if y < 0 then 0 else y) := by split <;> split <;> omega
theorem refTimed (t : Int) : xl t = some (decide (4 ≤ t ∧ t ≤ 8)) := by
  unfold xl
  by_cases h : 4 ≤ t
  · rw [if_pos (show decide (t ≥ 4) = true by simpa using h)]; simp [h]
  · rw [if_neg (show ¬ decide (t ≥ 4) = true by simpa using h)]; simp [h]
theorem refDo_no {a : TAuto} {e : Int} {l : List Int} {t : Int} (h : zV a.State e = some (l, t, false)) : jI a e = some (a, [], 1) := by
  unfold jI
  rw [h]; rfl
theorem refDo_eq {a : TAuto} {e : Int} {l : List Int} {t : Int} (hl : l.length < 1000000) (h : zV a.State e = some (l, t, true)) : jI a e = some (finA t (l.foldl (actA (has l 10)) a), l, 0) := by
  unfold jI
  rw [h]
  simp only [Option.bind_some]
  rw [if_neg (by simp), refHas hl]
  simp only [Option.bind_some]
  refine run_loop (fun k => ((k : Int), (l.take k).foldl (actA (has l 10)) a)) l.length _ rfl (by omega) (fun k hk => ?_) ?_
  · unfold pr12_Do_l1
    simp only
    rw [if_pos (by simpa using hk), zW hk, foldl_take_succ _ _ hk]
    simp only [Option.bind_some]
    generalize (l.take k).foldl (actA (has l 10)) a = b
    generalize l[k] = x
    have j3t : xj k b true = some (.inl (((k + 1 : Nat) : Int), sendA b)) := by
      unfold xj jl sendA
      rw [if_pos rfl, cnt_eq, w64s (by omega)]
    have j3f : xj k b false = some (.inl (((k + 1 : Nat) : Int), b)) := by
      unfold xj jl
      rw [if_neg (by simp), w64s (by omega)]
    unfold actA jl
    rw [w64s (by omega)]
    by_cases h5 : x = 5
    · rw [if_pos (show (x == 5) = true by simpa using h5), if_pos h5]
      cases has l 10 <;> rfl
    · rw [if_neg (show ¬ (x == 5) = true by simpa using h5), if_neg h5]
      by_cases h6 : x = 6
      · rw [if_pos (show (x == 6) = true by simpa using h6), if_pos h6]
      · rw [if_neg (show ¬ (x == 6) = true by simpa using h6), if_neg h6]
        by_cases h7 : x = 7
        · rw [if_pos (show (x == 7) = true by simpa using h7), if_pos (show x = 7 ∨ x = 10 from .inl h7), show (x == 7) = true by simpa using h7, j3t]
        · rw [if_neg (show ¬ (x == 7) = true by simpa using h7)]
          by_cases h10 : x = 10
          · rw [show (x == 10) = true by simpa using h10, if_pos (show x = 7 ∨ x = 10 from .inr h10), j3t]
          · rw [show (x == 10) = false by simpa using h10, if_neg (show ¬ (x = 7 ∨ x = 10) from fun g => g.elim h7 h10), j3f]
  · unfold pr12_Do_l1
    simp only
    rw [if_neg (by simp), List.take_length, refTimed]
    simp only [Option.bind_some, finA]
    by_cases ht : 4 ≤ t ∧ t ≤ 8
    · rw [if_neg (by simp [ht]), if_pos ht]; rfl
    · rw [if_pos (by simp only [decide_eq_false ht]; rfl), if_neg ht]; rfl
theorem refAct_j1 {n : TNego} (h : FewL n.Ours) (p q a4 : TPkt) {l : List Int} (hl : l.length ≤ 1000) (h4 : a4 = TPkt.mk 6 p.Id [] ∨ has l 11 = false) : yd l q a4 n = some (Tref14_Out.mk n (l.flatMap (snd1 n p q)) (l.filter jS) l) := by
  unfold yd
  refine run_loop (fun k => ((k : Int), n, (l.take k).flatMap (snd1 n p q), (l.take k).filter jS, l)) l.length _ (by simp) (by omega) (fun k hk => ?_) ?_
  · have h1 := flatMap_le (snd1 n p q) (snd1_le n p q) (l.take k)
    have h2 := List.length_filter_le jS (l.take k)
    have h3 : (l.take k).length ≤ 1000 := by rw [List.length_take]; omega
    have h11 : l[k] = 11 → a4 = TPkt.mk 6 p.Id [] := fun g => h4.resolve_right (fun x => by
      unfold has at x
      rw [List.any_eq_false] at x
      exact x _ (List.getElem_mem hk) (by simp [g]))
    unfold pr14_acted_l2
    simp only
    rw [if_pos (by simpa using hk), zW hk, List.take_succ_eq_append_getElem hk, List.flatMap_append, List.filter_append]
    simp only [Option.bind_some]
    have hix := zW hk
    generalize l[k] = x at h11 hix
    have j3 (o : List TPkt) (d : List Int) : zR k n o d l = some (.inl (((k + 1 : Nat) : Int), n, o, d, l)) := by
      unfold zR
      rw [w64s (by omega)]
    have tt : jS x = true → ji l q a4 n k x true n ((l.take k).flatMap (snd1 n p q)) ((l.take k).filter jS) l = some (.inl (((k + 1 : Nat) : Int), n, (l.take k).flatMap (snd1 n p q) ++ [x].flatMap (snd1 n p q), (l.take k).filter jS ++ [x].filter jS, l)) := fun ht => by
      have e1 : snd1 n p q x = [] := by
        simp only [jS, Bool.or_eq_true, beq_iff_eq] at ht
        unfold snd1
        rw [if_neg (by omega), if_neg (by omega), if_neg (by omega), if_neg (by omega)]
      unfold ji
      rw [if_pos rfl, hix]
      simp only [Option.bind_some]
      rw [xf (by simp only [List.length_singleton]; omega)]
      simp only [Option.bind_some, j3]
      simp [e1, ht]
    by_cases t1 : x = 1
    · rw [if_pos (show (x == 1) = true by simpa using t1), show (x == 1) = true by simpa using t1]; exact tt (by simp [jS, t1])
    rw [if_neg (show ¬ (x == 1) = true by simpa using t1)]
    by_cases t2 : x = 2
    · rw [if_pos (show (x == 2) = true by simpa using t2), show (x == 2) = true by simpa using t2]; exact tt (by simp [jS, t2])
    rw [if_neg (show ¬ (x == 2) = true by simpa using t2)]
    by_cases t3 : x = 3
    · rw [if_pos (show (x == 3) = true by simpa using t3), show (x == 3) = true by simpa using t3]; exact tt (by simp [jS, t3])
    rw [if_neg (show ¬ (x == 3) = true by simpa using t3)]
    by_cases t4 : x = 4
    · rw [show (x == 4) = true by simpa using t4]; exact tt (by simp [jS, t4])
    rw [show (x == 4) = false by simpa using t4]
    have ht : jS x = false := by simp [jS, t1, t2, t3, t4]
    have ef : [x].filter jS = [] := by simp [ht]
    have es : [x].flatMap (snd1 n p q) = snd1 n p q x := by simp
    rw [ef, es, List.append_nil]
    generalize (l.take k).flatMap (snd1 n p q) = A at h1 ⊢
    unfold ji
    rw [if_neg (by simp)]
    unfold snd1
    by_cases g7 : x = 7
    · rw [if_pos (show (x == 7) = true by simpa using g7), if_pos g7, refBytes_spec h]
      simp only [Option.bind_some]
      rw [xf (by simp only [List.length_singleton]; omega)]
      simp only [Option.bind_some, j3]
      unfold bytesOf
      split <;> rfl
    rw [if_neg (show ¬ (x == 7) = true by simpa using g7), if_neg g7]
    by_cases g10 : x = 10
    · rw [if_pos (show (x == 10) = true by simpa using g10), if_pos g10, xf (by simp only [List.length_singleton]; omega)]
      simp only [Option.bind_some, j3]
      rfl
    rw [if_neg (show ¬ (x == 10) = true by simpa using g10), if_neg g10]
    by_cases g11 : x = 11
    · rw [if_pos (show (x == 11) = true by simpa using g11), if_pos g11, xf (by simp only [List.length_singleton]; omega), h11 g11]
      simp only [Option.bind_some, j3]
    rw [if_neg (show ¬ (x == 11) = true by simpa using g11), if_neg g11]
    have yes : (x = 8 ∨ x = 9 ∨ x = 12 ∨ x = 13) → jh q k true n A ((l.take k).filter jS) l = some (.inl (((k + 1 : Nat) : Int), n, A ++ (if x = 8 ∨ x = 9 ∨ x = 12 ∨ x = 13 then [q] else []), (l.take k).filter jS, l)) := fun hx => by
      unfold jh
      rw [if_pos rfl, if_pos hx, xf (by simp only [List.length_singleton]; omega)]
      simp only [Option.bind_some, j3]
    by_cases g8 : x = 8
    · rw [if_pos (show (x == 8) = true by simpa using g8), show (x == 8) = true by simpa using g8]; exact yes (.inl g8)
    rw [if_neg (show ¬ (x == 8) = true by simpa using g8)]
    by_cases g9 : x = 9
    · rw [if_pos (show (x == 9) = true by simpa using g9), show (x == 9) = true by simpa using g9]; exact yes (.inr (.inl g9))
    rw [if_neg (show ¬ (x == 9) = true by simpa using g9)]
    by_cases g12 : x = 12
    · rw [if_pos (show (x == 12) = true by simpa using g12), show (x == 12) = true by simpa using g12]; exact yes (.inr (.inr (.inl g12)))
    rw [if_neg (show ¬ (x == 12) = true by simpa using g12)]
    by_cases g13 : x = 13
    · rw [show (x == 13) = true by simpa using g13]; exact yes (.inr (.inr (.inr g13)))
    rw [show (x == 13) = false by simpa using g13, if_neg (show ¬ (x = 8 ∨ x = 9 ∨ x = 12 ∨ x = 13) by omega), List.append_nil]
    unfold jh
    rw [if_neg (by simp), j3]
  · unfold pr14_acted_l2
    simp only
    rw [if_neg (by simp), List.take_length]
    rfl
theorem refAct {n : TNego} (h : FewL n.Ours) (hr : RuleOk n.R) (p q a4 : TPkt) (was : Int) (h0 : 0 ≤ was) {l : List Int} (hl : l.length ≤ 1000) (h4 : a4 = TPkt.mk 6 p.Id [] ∨ has l 11 = false) (hz : was = 0 → ¬ (has l 5 = true ∧ has l 7 = true)) : jM n was l q a4 = some (Tref14_Out.mk (askN was l n) (l.flatMap (snd1 (askN was l n) p q)) (l.filter jS) l) := by
  have yes : (was ≤ 3 ∧ has l 5 = true ∧ has l 7 = true) → zO n l q a4 true = some (Tref14_Out.mk (askN was l n) (l.flatMap (snd1 (askN was l n) p q)) (l.filter jS) l) := fun hx => by
    unfold zO
    rw [if_pos rfl, refAsk hr]
    simp only [Option.bind_some]
    rw [refAct_j1 (ask_few _).1 p q a4 hl h4]
    unfold askN
    rw [if_pos hx]
  have no : ¬ (was ≤ 3 ∧ has l 5 = true ∧ has l 7 = true) → zO n l q a4 false = some (Tref14_Out.mk (askN was l n) (l.flatMap (snd1 (askN was l n) p q)) (l.filter jS) l) := fun hx => by
    unfold zO
    rw [if_neg (by simp), refAct_j1 h p q a4 hl h4]
    unfold askN
    rw [if_neg hx]
  unfold jM
  rw [refHas (by omega), refHas (by omega)]
  simp only [Option.bind_some]
  by_cases h5 : has l 5 = true
  · rw [if_pos h5]
    by_cases h7 : has l 7 = true
    · rw [if_pos h7]
      have h1 : was ≥ 1 := by
        by_cases g : was = 0
        · exact absurd ⟨h5, h7⟩ (hz g)
        · omega
      rw [if_pos (show decide (was ≥ 1) = true by simpa using h1)]
      by_cases h3 : was ≤ 3
      · rw [decide_eq_true h3]; exact yes ⟨h3, h5, h7⟩
      · rw [decide_eq_false h3]; exact no (fun g => h3 g.1)
    · rw [if_neg h7]; exact no (fun g => h7 g.2.2)
  · rw [if_neg h5]; exact no (fun g => h5 g.2.1)
theorem askN_peer (was : Int) (l : List Int) (n : TNego) : (askN was l n).Peer = n.Peer ∨ (askN was l n).Peer = [] := by unfold askN; split <;> simp
theorem both_event {n : TNego} (hf : FewL n.Ours) (hr : RightN n) (hu : RuleOk n.R) (p q : TPkt) {e : Int} (e0 : 0 ≤ e) (e15 : e ≤ 15) : ∃ l n' out told, ze n [] [] p e q = some (l, n', out, told, p) ∧ qV n e q p.Id = some (Tref14_Out.mk n' out told l) ∧ l.length ≤ 8 ∧ (n'.Peer = n.Peer ∨ n'.Peer = []) ∧ (e = 6 → has l 9 = false) ∧ (e = 7 → has l 8 = false) := by
  rcases next_both hr.a.s0 hr.a.s9 e0 e15 with ⟨l, t, l', t', h1, h2⟩ | ⟨l, t, h1, h2, ht, hq⟩
  · refine ⟨[], n, [], [], event_no h1 p q, ?_, by simp, .inl rfl, fun _ => rfl, fun _ => rfl⟩
    unfold qV
    rw [refDo_no h2]
    rfl
  · have hl := ht.len
    refine ⟨l, _, _, _, event_eq hf (by omega) h1 p q, ?_, hl, askN_peer _ _ _, hq.six, hq.seven⟩
    unfold qV
    rw [refDo_eq (by omega) h2]
    simp only [Option.bind_some]
    rw [if_neg (by simp), refAct (n := TNego.mk (finA t (l.foldl (actA (has l 10)) n.A)) n.R n.Ours n.Naks n.Peer) hf hu p q (TPkt.mk 6 p.Id zj.Data) n.A.State hr.a.s0 (by omega) (.inl rfl) hq.zero]
    rfl
theorem both_tick {n : TNego} (hf : FewL n.Ours) (hr : RightN n) (hu : RuleOk n.R) : ∃ n' out told l, nego_Tick n = some (n', out, told) ∧ pr14_Tick n = some (Tref14_Out.mk n' out told l) ∧ (n'.Peer = n.Peer ∨ n'.Peer = []) := by
  have nilr (m : TNego) (hm : FewL m.Ours) (hum : RuleOk m.R) (s : Int) (hs : 0 ≤ s) : jM m s [] zj zj = some (Tref14_Out.mk m [] [] []) := by
    rw [refAct hm hum zj zj zj s hs (by simp) (.inr rfl) (fun _ => by simp [has])]
    unfold askN
    rw [if_neg (by simp [has])]
    rfl
  unfold nego_Tick auto_Tick pr14_Tick pr12_Tick
  have hl := hr.a.left
  by_cases h0 : n.A.Left = 0
  · rw [if_pos (show (n.A.Left == 0) = true by simpa using h0), if_pos (show (n.A.Left == 0) = true by simpa using h0)]
    simp only [Option.bind_some]
    rw [acts_nil hf, nilr (TNego.mk n.A n.R n.Ours n.Naks n.Peer) hf hu _ hr.a.s0]
    exact ⟨n, [], [], [], rfl, rfl, .inl rfl⟩
  · rw [if_neg (show ¬ (n.A.Left == 0) = true by simpa using h0), if_neg (show ¬ (n.A.Left == 0) = true by simpa using h0), w64 (x := n.A.Left - 1) (by omega) (by omega)]
    have ht : 4 ≤ n.A.State ∧ n.A.State ≤ 8 ∧ 1 ≤ n.A.Left ∧ n.A.Left ≤ 3 := by omega
    by_cases h1 : n.A.Left - 1 > 0
    · rw [if_pos (show decide (n.A.Left - 1 > 0) = true by simpa using h1), if_pos (show decide (n.A.Left - 1 > 0) = true by simpa using h1)]
      simp only [Option.bind_some]
      rw [acts_nil (n := TNego.mk (TAuto.mk n.A.State n.A.Count (n.A.Left - 1) n.A.Id) n.R n.Ours n.Naks n.Peer) hf, nilr (TNego.mk (TAuto.mk n.A.State n.A.Count (n.A.Left - 1) n.A.Id) n.R n.Ours n.Naks n.Peer) hf hu _ hr.a.s0]
      exact ⟨_, [], [], [], rfl, rfl, .inl rfl⟩
    · rw [if_neg (show ¬ decide (n.A.Left - 1 > 0) = true by simpa using h1), if_neg (show ¬ decide (n.A.Left - 1 > 0) = true by simpa using h1)]
      have main : ∀ e : Int, (e = 4 ∨ e = 5) → ∃ n' out told l, ((auto_Tick_j1 n.A e).bind fun r19 => ((xQ (TNego.mk r19.1 n.R n.Ours n.Naks n.Peer) ([] : (List TPkt)) ([] : (List Int)) zj n.A.State r19.2 zj).bind fun r47 => ((nego_work_told r47.1 r47.2.1 r47.2.2.1 r47.2.2.2).bind fun r60 => (some (r60.1, r60.2.1, r60.2.2))))) = some (n', out, told) ∧ (((jI (TAuto.mk n.A.State n.A.Count (n.A.Left - 1) n.A.Id) e).bind fun r30 => (some (r30.1, r30.2.1))).bind fun r11 => ((jM (TNego.mk r11.1 n.R n.Ours n.Naks n.Peer) n.A.State r11.2 zj zj).bind fun r39 => (some r39))) = some (Tref14_Out.mk n' out told l) ∧ (n'.Peer = n.Peer ∨ n'.Peer = []) := fun e he => by
        obtain ⟨l, t, hn, htab⟩ := tick_next ht.1 ht.2.1 he
        have hlen := htab.len
        have hr2 : zV n.A.State e = some (l, t, true) ∧ Tab2 n.A.State e l := by
          rcases next_both hr.a.s0 hr.a.s9 (e := e) (by omega) (by omega) with ⟨l1, t1, l2, t2, g1, g2⟩ | ⟨l1, t1, g1, g2, g3, g4⟩
          · rw [hn] at g1; simp at g1
          · rw [hn] at g1
            simp only [Option.some.injEq, Prod.mk.injEq] at g1
            obtain ⟨rfl, rfl, _⟩ := g1
            exact ⟨g2, g4⟩
        refine ⟨_, l.flatMap (snd1 (askN n.A.State l (TNego.mk (finA t (l.foldl (actA (has l 10)) (TAuto.mk n.A.State n.A.Count (n.A.Left - 1) n.A.Id))) n.R n.Ours n.Naks n.Peer)) zj zj), l.filter jS, l, ?_, ?_, askN_peer n.A.State l (TNego.mk (finA t (l.foldl (actA (has l 10)) (TAuto.mk n.A.State n.A.Count (n.A.Left - 1) n.A.Id))) n.R n.Ours n.Naks n.Peer)⟩
        · unfold auto_Tick_j1
          rw [w64 (x := n.A.Left - 1) (by omega) (by omega), auto_Do_eq (a := TAuto.mk n.A.State n.A.Count (n.A.Left - 1) n.A.Id) (by omega) hn]
          simp only [Option.bind_some]
          rw [acts_spec (n := TNego.mk (finA t (l.foldl (actA (has l 10)) (TAuto.mk n.A.State n.A.Count (n.A.Left - 1) n.A.Id))) n.R n.Ours n.Naks n.Peer) hf zj zj n.A.State (by omega)]
          rfl
        · rw [refDo_eq (a := TAuto.mk n.A.State n.A.Count (n.A.Left - 1) n.A.Id) (by omega) hr2.1]
          simp only [Option.bind_some]
          rw [refAct (n := TNego.mk (finA t (l.foldl (actA (has l 10)) (TAuto.mk n.A.State n.A.Count (n.A.Left - 1) n.A.Id))) n.R n.Ours n.Naks n.Peer) hf hu zj zj zj n.A.State hr.a.s0 (by omega) (.inr (hr2.2.tick he)) hr2.2.zero]
          rfl
      by_cases hc : n.A.Count > 0
      · rw [if_pos (show decide (n.A.Count > 0) = true by simpa using hc), if_pos (show decide (n.A.Count > 0) = true by simpa using hc)]; exact main 4 (.inl rfl)
      · rw [if_neg (show ¬ decide (n.A.Count > 0) = true by simpa using hc), if_neg (show ¬ decide (n.A.Count > 0) = true by simpa using hc)]; exact main 5 (.inr rfl)
end Go.Proofs.YtadlndnagfnlgaaGreatDoor.W
