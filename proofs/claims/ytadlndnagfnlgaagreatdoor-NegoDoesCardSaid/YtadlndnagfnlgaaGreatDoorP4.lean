/- Plain lemmas: options read, found, put, turned; the answer to a request. -/
import Derived.Test.YtadlndnagfnlgaaGreatDoorP3
namespace Go.Proofs.YtadlndnagfnlgaaGreatDoor.W
open Go
set_option linter.unusedVariables false
def xE (l : List Int) : Prop := ∀ z, z ∈ l → 0 ≤ z ∧ z ≤ 255
def readL : Nat → List Int → Option (List TOpt)
  | _, [] => some []
  | 0, _ :: _ => none
  | _ + 1, [_] => none
  | f + 1, t :: b :: r => if 2 ≤ b ∧ b ≤ (r.length : Int) + 2 then (readL f (r.drop (b.toNat - 2))).map (TOpt.mk t (r.take (b.toNat - 2)) :: ·) else none
theorem xE.drop {l : List Int} (h : xE l) (k : Nat) : xE (l.drop k) := fun z hz => h z (List.mem_of_mem_drop hz)
theorem cut_mid {α : Type} {l : List α} {i j : Nat} (h : i ≤ j) (h' : j ≤ l.length) : cut l (some (i : Int)) (some (j : Int)) = some ((l.take j).drop i) := by
  simp only [cut]
  rw [if_pos (by simp; omega)]
  simp
theorem enc_take {t b : Int} {r : List Int} (h2 : 2 ≤ b) (hb : b ≤ 255) (hr : b ≤ (r.length : Int) + 2) : encO (TOpt.mk t (r.take (b.toNat - 2))) = t :: b :: r.take (b.toNat - 2) := by
  unfold encO
  simp only [List.length_take]
  rw [show ((min (b.toNat - 2) r.length : Nat) : Int) = b - 2 by omega, w64 (by omega) (by omega), wu8]
  congr 2
  omega
theorem readL_enc : ∀ (f : Nat) (d : List Int) (os : List TOpt), xE d → readL f d = some os → jK os = d ∧ (∀ o, o ∈ os → o.Data.length ≤ 253) ∧ os.length ≤ d.length
  | f, [], os, _, h => by
    obtain rfl : os = [] := by cases f <;> simpa [readL] using h.symm
    exact ⟨rfl, by simp, by simp⟩
  | 0, _ :: _, os, _, h => by simp [readL] at h
  | f + 1, [_], os, _, h => by simp [readL] at h
  | f + 1, t :: b :: r, os, hd, h => by
    simp only [readL] at h
    split at h
    · rename_i hb
      rw [Option.map_eq_some_iff] at h
      obtain ⟨os', h', rfl⟩ := h
      have hb8 := hd b (by simp)
      have hr : xE r := fun z hz => hd z (by simp [hz])
      obtain ⟨i1, i2, i3⟩ := readL_enc f _ os' (hr.drop _) h'
      refine ⟨?_, fun o ho => ?_, ?_⟩
      · unfold jK at i1 ⊢
        rw [List.flatMap_cons, i1, enc_take hb.1 hb8.2 hb.2]
        simp
      · rcases List.mem_cons.1 ho with rfl | ho
        · simp only [List.length_take]; omega
        · exact i2 o ho
      · simp only [List.length_cons, List.length_drop] at i3 ⊢; omega
    · simp at h
theorem runM_inl {S R : Type} {step : S → Option (S ⊕ R)} {s s' : S} {k : Nat} (h : step s = some (.inl s')) : runM step (k + 1) s = runM step k s' := by simp only [runM, h]
theorem runM_inr {S R : Type} {step : S → Option (S ⊕ R)} {s : S} {r : R} {k : Nat} (h : step s = some (.inr r)) : runM step (k + 1) s = some r := by simp only [runM, h]
theorem read_loop : ∀ (f : Nat) (d : List Int) (x : List TOpt) (fuel : Nat), xE d → d.length ≤ f → f < fuel → x.length + d.length ≤ 100000 →
    match readL f d with
    | some os => runM (fun s : List TOpt × List TOpt × Int × List Int => jZ s.1 s.2.1 s.2.2.1 s.2.2.2) fuel (x, [], 0, d) = some (true, x ++ os, [], 0, [])
    | none => ∃ x' r', runM (fun s : List TOpt × List TOpt × Int × List Int => jZ s.1 s.2.1 s.2.2.1 s.2.2.2) fuel (x, [], 0, d) = some (false, x', [], 2, r')
  | _, _, _, 0, _, _, hf, _ => by omega
  | f, [], x, k + 1, _, _, _, _ => by
    have e : readL f [] = some [] := by cases f <;> rfl
    rw [e]
    simp [runM, jZ]
  | 0, _ :: _, _, _, _, h, _, _ => by simp at h
  | f + 1, [t], x, k + 1, _, _, _, _ => by
    simp only [readL]
    simp [runM, jZ, jX, rd_opts_Read_f]
  | f + 1, t :: b :: r, x, k + 1, hd, hl, hf, hx => by
    have hb8 := hd b (by simp)
    have hr : xE r := fun z hz => hd z (by simp [hz])
    have e0 : jZ x [] 0 (t :: b :: r) = jX [] 0 (t :: b :: r) (decide (¬ (2 ≤ b ∧ b ≤ (r.length : Int) + 2))) x := by
      unfold jZ
      rw [if_pos (by simp; omega), if_neg (by simp; omega), show idx (t :: b :: r) 1 = some b from rfl]
      simp only [Option.bind_some]
      by_cases h2 : b < 2
      · rw [if_pos (by simpa using h2), decide_eq_true (by omega)]
      · rw [if_neg (by simpa using h2), w64 (by omega) (by omega)]
        congr 1
        by_cases h3 : b ≤ (r.length : Int) + 2
        · rw [decide_eq_false (by simp; omega), decide_eq_false (by omega)]
        · rw [decide_eq_true (by simp; omega), decide_eq_true (by omega)]
    simp only [readL]
    by_cases hb : 2 ≤ b ∧ b ≤ (r.length : Int) + 2
    · rw [if_pos hb]
      have e1 : jX [] 0 (t :: b :: r) false x = some (.inl (x ++ [TOpt.mk t (r.take (b.toNat - 2))], [], 0, r.drop (b.toNat - 2))) := by
        unfold jX
        rw [if_neg (by simp), show idx (t :: b :: r) 1 = some b from rfl, show idx (t :: b :: r) 0 = some t from rfl]
        simp only [Option.bind_some]
        rw [w64 (by omega) (by omega)]
        have hB : b = ((b.toNat - 2 + 2 : Nat) : Int) := by omega
        have c1 : cut (t :: b :: r) (some 2) (some b) = some (r.take (b.toNat - 2)) := by
          conv => lhs; rw [show (some b : Option Int) = some ((b.toNat - 2 + 2 : Nat) : Int) by rw [← hB]]
          rw [show (some (2 : Int)) = some ((2 : Nat) : Int) from rfl, cut_mid (by omega) (by simp; omega)]
          simp
        have c2 : cut (t :: b :: r) (some b) none = some (r.drop (b.toNat - 2)) := by
          conv => lhs; rw [show (some b : Option Int) = some ((b.toNat - 2 + 2 : Nat) : Int) by rw [← hB]]
          rw [cut_from (by simp; omega)]
          simp
        rw [c1, c2]
        simp only [Option.bind_some, rd_opts_Read_t]
        simp only [List.length_cons] at hx
        rw [xf (by simp; omega)]
        rfl
      rw [runM_inl (show (fun s : List TOpt × List TOpt × Int × List Int => jZ s.1 s.2.1 s.2.2.1 s.2.2.2) (x, [], 0, t :: b :: r) = _ from (e0.trans (by rw [decide_eq_false (by simpa using hb)])).trans e1)]
      have ih := read_loop f (r.drop (b.toNat - 2)) (x ++ [TOpt.mk t (r.take (b.toNat - 2))]) k (hr.drop _) (by simp at hl ⊢; omega) (by omega) (by simp at hx ⊢; omega)
      cases hrd : readL f (r.drop (b.toNat - 2)) with
      | none => rw [hrd] at ih; exact ih
      | some os => rw [hrd] at ih; simp only [Option.map_some]; simpa using ih
    · rw [if_neg hb]
      rw [decide_eq_true (by simpa using hb)] at e0
      exact ⟨_, _, runM_inr e0⟩
theorem read_spec {d : List Int} (hd : xE d) (hl : d.length ≤ 100000) : opts_Read d = some (match readL d.length d with | some os => (os, 0) | none => ([], 2)) := by
  have h := read_loop d.length d [] 1048576 hd (Nat.le_refl _) (by omega) (by simpa using hl)
  unfold opts_Read opts_parts opts_parts_1_yld xL
  simp only [Option.bind_some]
  cases hr : readL d.length d with
  | none =>
    rw [hr] at h
    obtain ⟨x', r', h⟩ := h
    rw [h]; rfl
  | some os =>
    rw [hr] at h
    simp only at h
    rw [h]; rfl
def fidx (l : List TOpt) (t : Int) : Option Nat := l.findIdx? (fun o => o.Typ == t)
def hasT (l : List TOpt) (t : Int) : Bool := l.any (fun o => o.Typ == t)
theorem fidx_some (l : List TOpt) (t : Int) : (fidx l t).isSome = hasT l t := by unfold fidx hasT; exact List.findIdx?_isSome
theorem ixI_nneg (k : Nat) : ¬ decide (ixI (some k) < 0) = true := fun h => absurd (of_decide_eq_true h) (by simp only [ixI]; omega)
theorem index_spec {l : List TOpt} (h : l.length ≤ 1000000) (t : Int) : jG l t = some (ixI (fidx l t), t) := by
  unfold jG
  refine find_loopM (fun o : TOpt => o.Typ == t) (fun o => (ixI o, t)) l (fun k => ((k : Int), t)) rfl (by omega) (fun k hk hp => ?_) (fun k hk hp => ?_) ?_
  · unfold jj opts_of_1
    simp only
    rw [if_pos (by simpa using hk), zW hk]
    simp only [Option.bind_some]
    rw [if_neg (by simp [hp]), w64s (by omega)]
  · unfold jj opts_of_1
    simp only
    rw [if_pos (by simpa using hk), zW hk]
    simp only [Option.bind_some]
    rw [if_pos (by simpa using hp)]; rfl
  · unfold jj
    simp only
    rw [if_neg (by simp)]; rfl
def getO (l : List TOpt) : Option Nat → TOpt | none => zTOpt | some k => l[k]?.getD zTOpt
theorem fidx_lt {l : List TOpt} {t : Int} {k : Nat} (h : fidx l t = some k) : k < l.length ∧ ∃ hk : k < l.length, (l[k]).Typ = t := by
  unfold fidx at h
  rw [List.findIdx?_eq_some_iff_getElem] at h
  obtain ⟨hk, hp, _⟩ := h
  exact ⟨hk, hk, by simpa using hp⟩
theorem first_spec {l : List TOpt} (h : l.length ≤ 1000000) (t : Int) : xS l t = some (getO l (fidx l t), ixI (fidx l t), t) := by
  unfold xS
  rw [index_spec h]
  simp only [Option.bind_some]
  cases hf : fidx l t with
  | none => rw [if_pos (by simp [ixI])]; rfl
  | some k =>
    obtain ⟨hk, _⟩ := fidx_lt hf
    rw [if_neg (ixI_nneg k), show ixI (some k) = (k : Int) from rfl, zW hk]
    simp [getO, List.getElem?_eq_getElem hk]
theorem finds_spec {l : List TOpt} (h : l.length ≤ 1000000) (t : Int) : opts_Find l t = some (getO l (fidx l t), hasT l t) := by
  unfold opts_Find opts_of
  simp only [Option.bind_some, first_spec h, ixI_ge, fidx_some]
def putL (l : List TOpt) (o : TOpt) : List TOpt := match fidx l o.Typ with | none => l ++ [o] | some k => l.set k o
theorem put_spec {l : List TOpt} (h : l.length ≤ 100000) (o : TOpt) : opts_Put l o = some (putL l o) := by
  unfold opts_Put slices_Clone_Opt opts_of putL
  rw [xf (by simp; omega)]
  simp only [Option.bind_some, first_spec (show l.length ≤ 1000000 by omega), List.nil_append]
  cases hf : fidx l o.Typ with
  | none =>
    rw [if_pos (by simp [ixI]), xf (by simp; omega)]; rfl
  | some k =>
    obtain ⟨hk, _⟩ := fidx_lt hf
    rw [if_neg (ixI_nneg k), show ixI (some k) = (k : Int) from rfl, zW hk]
    rfl
def dropL (l ds : List TOpt) : List TOpt := l.filter (fun o => !hasT ds o.Typ)
theorem turn1_spec {ds : List TOpt} (h : ds.length ≤ 1000000) (o : TOpt) : rules_Turn_1 o ds = some (hasT ds o.Typ, ds) := by
  unfold rules_Turn_1
  rw [finds_spec h]; rfl
theorem delIdx_spec {l ds : List TOpt} (hl : l.length ≤ 100000) (h : ds.length ≤ 1000000) : xk l ds = some (ixI (l.findIdx? (fun o => hasT ds o.Typ)), ds) := by
  unfold xk
  refine find_loopM (fun o : TOpt => hasT ds o.Typ) (fun o => (ixI o, ds)) l (fun k => ((k : Int), ds)) rfl (by omega) (fun k hk hp => ?_) (fun k hk hp => ?_) ?_
  · unfold jd
    simp only
    rw [if_pos (by simpa using hk), zW hk]
    simp only [Option.bind_some, turn1_spec h]
    rw [if_neg (by simp [hp]), w64s (by omega)]
  · unfold jd
    simp only
    rw [if_pos (by simpa using hk), zW hk]
    simp only [Option.bind_some, turn1_spec h]
    rw [if_pos (by simpa using hp)]; rfl
  · unfold jd
    simp only
    rw [if_neg (by simp)]; rfl
theorem delete_spec {l ds : List TOpt} (hl : l.length ≤ 100000) (h : ds.length ≤ 1000000) : xV l ds = some (dropL l ds, ds) := by
  unfold xV
  rw [delIdx_spec hl h]
  simp only [Option.bind_some]
  cases hf : l.findIdx? (fun o => hasT ds o.Typ) with
  | none =>
    rw [if_pos (by simp [ixI])]
    rw [List.findIdx?_eq_none_iff] at hf
    congr 2
    unfold dropL
    rw [List.filter_eq_self.2 (fun o ho => by simp [hf o ho])]
  | some k0 =>
    rw [List.findIdx?_eq_some_iff_getElem] at hf
    obtain ⟨hk0, hp0, hn0⟩ := hf
    rw [if_neg (by simp [ixI]), show ixI (some k0) = (k0 : Int) from rfl]
    have hfil : (l.take (k0 + 1)).filter (fun o => !hasT ds o.Typ) = l.take k0 := by
      rw [List.take_succ_eq_append_getElem hk0, List.filter_append]
      have e1 : (l.take k0).filter (fun o => !hasT ds o.Typ) = l.take k0 := List.filter_eq_self.2 (fun o ho => by
        obtain ⟨j, hj, rfl⟩ := List.getElem_of_mem ho
        simp only [List.length_take] at hj
        rw [List.getElem_take]
        have := hn0 j (by omega)
        simpa using this)
      rw [e1]
      simp [hp0]
    refine loopM_eq (fun (s : List TOpt × Int × Int × List TOpt) => ∃ (arr : List TOpt) (m : Nat), s = (arr, (((l.take m).filter (fun o => !hasT ds o.Typ)).length : Int), (m : Int), ds) ∧ m ≤ l.length ∧ arr.length = l.length ∧ arr.drop m = l.drop m ∧ arr.take ((l.take m).filter (fun o => !hasT ds o.Typ)).length = (l.take m).filter (fun o => !hasT ds o.Typ)) (fun s => 100001 - s.2.2.1.toNat) _ ⟨l, k0 + 1, ?_, by omega, rfl, rfl, ?_⟩ (by simp only; omega) ?_
    · rw [hfil, w64s (by omega), List.length_take, Nat.min_eq_left (by omega)]
    · rw [hfil, List.length_take, Nat.min_eq_left (by omega)]
    · rintro _ ⟨arr, m, rfl, hm, ha, hd, ht⟩
      have hfl : ((l.take m).filter (fun o => !hasT ds o.Typ)).length ≤ m := Nat.le_trans (List.length_filter_le _ _) (by rw [List.length_take]; omega)
      unfold slices_DeleteFunc_Opt_rules_Turn_1_l1
      simp only
      by_cases hlt : m < l.length
      · left
        have hx : arr[m]'(by omega) = l[m] := by
          have e1 : (arr.drop m)[0]? = (l.drop m)[0]? := by rw [hd]
          rw [List.getElem?_drop, List.getElem?_drop, Nat.add_zero, List.getElem?_eq_getElem (by omega), List.getElem?_eq_getElem (by omega)] at e1
          exact Option.some.inj e1
        rw [if_pos (by simp [ha]; omega), zW (show m < arr.length by omega)]
        simp only [Option.bind_some, turn1_spec h, hx]
        have hd' : arr.drop (m + 1) = l.drop (m + 1) := by
          rw [← List.drop_drop, ← List.drop_drop, hd]
        unfold xp
        cases hp : hasT ds l[m].Typ with
        | true =>
          rw [if_neg (by simp), w64s (by omega)]
          have hfil' : (l.take (m + 1)).filter (fun o => !hasT ds o.Typ) = (l.take m).filter (fun o => !hasT ds o.Typ) := by
            rw [List.take_succ_eq_append_getElem hlt, List.filter_append]; simp [hp]
          refine ⟨_, rfl, ⟨arr, m + 1, by rw [hfil'], by omega, ha, hd', by rw [hfil']; exact ht⟩, by simp only; omega⟩
        | false =>
          rw [if_pos (by simp), zW (by omega)]
          simp only [Option.bind_some]
          have hfil' : (l.take (m + 1)).filter (fun o => !hasT ds o.Typ) = (l.take m).filter (fun o => !hasT ds o.Typ) ++ [l[m]] := by
            rw [List.take_succ_eq_append_getElem hlt, List.filter_append]; simp [hp]
          rw [w64s (by omega), w64s (by omega)]
          refine ⟨_, rfl, ⟨arr.set ((l.take m).filter (fun o => !hasT ds o.Typ)).length l[m], m + 1, ?_, by omega, by simpa using ha, ?_, ?_⟩, by simp only; omega⟩
          · rw [hfil']; simp
          · rw [List.drop_set_of_lt (by omega), hd']
          · rw [hfil', List.length_append, List.length_singleton, List.take_succ_eq_append_getElem (by simp; omega)]
            rw [List.take_set_of_le (Nat.le_refl _), ht]
            simp
      · right
        obtain rfl : m = l.length := by omega
        rw [if_neg (by simp [ha]), cut_to (by omega)]
        simp only [Option.bind_some, Option.map_some]
        rw [ht, List.take_length]
        rfl
def turnL (r : TRule) (ours : List TOpt) (code : Int) (ps : List TOpt) : List TOpt × Bool :=
  if r.Ip = false ∧ hasT ps 3 = true then (ours, false)
  else if code = 4 then (dropL ours ps, true)
  else if code ≠ 3 then (ours, false)
  else if r.Ip = false ∧ hasT ps 5 = true ∧ hasT ours 5 = true then (putL ours (TOpt.mk 5 (b4 r.Other)), true)
  else (ours, true)
theorem turn_spec {r : TRule} {ours ps : List TOpt} (h1 : ours.length ≤ 100000) (h2 : ps.length ≤ 100000) (code : Int) : rules_Turn r ours code ps = some (turnL r ours code ps) := by
  have jf : ∀ b : Bool, rules_Turn_j2 r ours b = some (if b = true then putL ours (TOpt.mk 5 (b4 r.Other)) else ours, true) := fun b => by
    unfold rules_Turn_j2
    cases b with
    | false => rfl
    | true => rw [if_pos rfl, rnumber4]; simp only [Option.bind_some, put_spec h1]; rfl
  have j1 : rules_Turn_j1 r ours code ps (getO ps (fidx ps 5), hasT ps 5) (getO ours (fidx ours 5), hasT ours 5) false = some (if code = 4 then (dropL ours ps, true) else if code ≠ 3 then (ours, false) else if r.Ip = false ∧ hasT ps 5 = true ∧ hasT ours 5 = true then (putL ours (TOpt.mk 5 (b4 r.Other)), true) else (ours, true)) := by
    unfold rules_Turn_j1
    rw [if_neg (by simp)]
    by_cases c4 : code = 4
    · rw [if_pos (by simpa using c4), if_pos c4]
      unfold slices_Clone_Opt
      rw [xf (by simp; omega)]
      simp only [Option.bind_some, List.nil_append, delete_spec h1 (show ps.length ≤ 1000000 by omega)]
    · rw [if_neg (by simpa using c4), if_neg c4]
      by_cases c3 : code = 3
      · rw [if_neg (show ¬ (code != 3) = true by simpa using c3), if_neg (show ¬ code ≠ 3 from fun h => h c3)]
        by_cases hi : r.Ip = true
        · rw [if_neg (show ¬ (!r.Ip) = true by simp [hi]), if_neg (show ¬ (r.Ip = false ∧ hasT ps 5 = true ∧ hasT ours 5 = true) by simp [hi]), jf]; rfl
        · rw [if_pos (show (!r.Ip) = true by simpa using hi)]
          by_cases h5 : hasT ps 5 = true
          · rw [if_pos h5, jf]
            by_cases h6 : hasT ours 5 = true
            · rw [if_pos h6, if_pos ⟨by simpa using hi, h5, h6⟩]
            · rw [if_neg h6, if_neg (fun g => h6 g.2.2)]
          · rw [if_neg h5, if_neg (fun g => h5 g.2.1), jf]; rfl
      · rw [if_pos (by simpa using c3), if_pos c3]
  unfold rules_Turn turnL
  rw [finds_spec (show ps.length ≤ 1000000 by omega), finds_spec (show ps.length ≤ 1000000 by omega), finds_spec (show ours.length ≤ 1000000 by omega)]
  simp only [Option.bind_some]
  by_cases hi : r.Ip = true
  · rw [if_neg (show ¬ (!r.Ip) = true by simp [hi]), j1, if_neg (show ¬ (r.Ip = false ∧ hasT ps 3 = true) by simp [hi])]
  · rw [if_pos (show (!r.Ip) = true by simpa using hi)]
    by_cases h3 : hasT ps 3 = true
    · rw [if_pos (show r.Ip = false ∧ hasT ps 3 = true from ⟨by simpa using hi, h3⟩), h3]; rfl
    · rw [if_neg (show ¬ (r.Ip = false ∧ hasT ps 3 = true) from fun g => h3 g.2), show hasT ps 3 = false by simpa using h3, j1]
end Go.Proofs.YtadlndnagfnlgaaGreatDoor.W
