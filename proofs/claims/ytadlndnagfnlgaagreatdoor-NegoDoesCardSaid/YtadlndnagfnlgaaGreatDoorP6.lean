/- Plain lemmas: what comes of an event, of what a layer does, of a tick and of a packet is right. -/
import Derived.Test.YtadlndnagfnlgaaGreatDoorP5
namespace Go.Proofs.YtadlndnagfnlgaaGreatDoor.W
open Go
set_option linter.unusedVariables false
def BytesL (l : List TOpt) : Prop := ∀ o, o ∈ l → (0 ≤ o.Typ ∧ o.Typ ≤ 255) ∧ xE o.Data
theorem b4_bytes (m : Int) : xE (b4 m) := fun z hz => by
  simp only [b4, List.mem_cons, List.not_mem_nil, or_false] at hz
  omega
theorem ask_bytes (r : TRule) : BytesL (askL r) := fun o ho => by
  unfold askL at ho
  split at ho
  · simp only [List.mem_cons, List.not_mem_nil, or_false] at ho
    subst ho
    exact ⟨(by decide : 0 ≤ (3 : Int) ∧ (3 : Int) ≤ 255), b4_bytes _⟩
  · simp only [List.mem_cons, List.not_mem_nil, or_false] at ho
    rcases ho with rfl | rfl
    · exact ⟨⟨by decide, by decide⟩, fun z hz => by simp only [List.mem_cons, List.not_mem_nil, or_false] at hz; omega⟩
    · exact ⟨(by decide : 0 ≤ (5 : Int) ∧ (5 : Int) ≤ 255), b4_bytes _⟩
theorem turn_bytes {r : TRule} {ours : List TOpt} (h : BytesL ours) (code : Int) (ps : List TOpt) : BytesL (turnL r ours code ps).1 := by
  have put : BytesL (putL ours (TOpt.mk 5 (b4 r.Other))) := fun o ho => by
    have h5 : (0 ≤ (5 : Int) ∧ (5 : Int) ≤ 255) ∧ xE (b4 r.Other) := ⟨⟨by decide, by decide⟩, b4_bytes _⟩
    unfold putL at ho
    split at ho
    · rcases List.mem_append.1 ho with ho | ho
      · exact h o ho
      · simp only [List.mem_cons, List.not_mem_nil, or_false] at ho
        subst ho; exact h5
    · rcases List.mem_or_eq_of_mem_set ho with ho | rfl
      · exact h o ho
      · exact h5
  have drop : BytesL (dropL ours ps) := fun o ho => h o (List.mem_filter.1 ho).1
  unfold turnL
  repeat' split
  all_goals first | exact h | exact put | exact drop
structure EvOk (n : TNego) (p q : TPkt) (n' : TNego) (out : List TPkt) (told : List Int) : Prop where
  right : RightN n'
  few : FewL n'.Ours
  rule : n'.R = n.R
  two : out.length ≤ 2
  outs : ∀ x, x ∈ out → x = q ∨ x = TPkt.mk 1 n'.A.Id (jK n'.Ours) ∨ x = TPkt.mk 5 n'.A.Id [] ∨ x = TPkt.mk 6 p.Id []
  len : told.length ≤ 8
  up : has told 1 = true ↔ n.A.State ≠ 9 ∧ n'.A.State = 9
  down : has told 2 = true ↔ n.A.State = 9 ∧ n'.A.State ≠ 9
  bytes : BytesL n.Ours → BytesL n'.Ours
theorem has_tells {x : Int} (h : jS x = true) : ∀ l : List Int, has (l.filter jS) x = has l x
  | [] => rfl
  | y :: l => by
    have ih := has_tells h l
    unfold has at ih ⊢
    by_cases hy : jS y = true
    · rw [List.filter_cons_of_pos hy]; simp only [List.any_cons, ih]
    · rw [List.filter_cons_of_neg hy, List.any_cons, ih]
      have : (x == y) = false := by
        rw [beq_eq_false_iff_ne]
        rintro rfl
        exact hy h
      rw [this, Bool.false_or]
theorem sends_len (n : TNego) (p q : TPkt) : ∀ l : List Int, (l.flatMap (snd1 n p q)).length ≤ (l.filter sends).length
  | [] => by simp
  | x :: l => by
    have ih := sends_len n p q l
    rw [List.flatMap_cons, List.length_append]
    by_cases hx : sends x = true
    · rw [List.filter_cons_of_pos hx, List.length_cons]
      have := snd1_le n p q x
      omega
    · rw [List.filter_cons_of_neg hx]
      have : snd1 n p q x = [] := by
        unfold snd1
        simp only [sends, Bool.or_eq_true, beq_iff_eq, not_or] at hx
        obtain ⟨h7, h8, h9, h10, h11, h12, h13⟩ := hx
        rw [if_neg h7, if_neg h10, if_neg h11, if_neg (by simp [h8, h9, h12, h13])]
      rw [this]
      simpa using ih
theorem RightN.bytes {n : TNego} (h : RightN n) : bytesOf n.Ours = jK n.Ours := by
  unfold bytesOf
  rw [if_neg (by have := h.len; omega)]
theorem askN_right {was : Int} {l : List Int} {n : TNego} (ha : RightA n.A) (h0 : 0 ≤ n.Naks) (h3 : n.Naks ≤ 3) (hl : (jK n.Ours).length ≤ 1496) (hm : ∀ o, o ∈ n.Ours → o.Typ = 5 → o.Data.length = 4) : RightN (askN was l n) := by
  unfold askN
  split
  · obtain ⟨_, g1, g2⟩ := ask_few n.R
    exact ⟨ha, Int.le_refl 0, (by omega : (0 : Int) ≤ 3), g1, g2⟩
  · exact ⟨ha, h0, h3, hl, hm⟩
theorem acts_ok {n : TNego} (hf : FewL n.Ours) (h0 : 0 ≤ n.Naks) (h3 : n.Naks ≤ 3) (hl : (jK n.Ours).length ≤ 1496) (hm : ∀ o, o ∈ n.Ours → o.Typ = 5 → o.Data.length = 4) {e t : Int} {l : List Int} {s : Int} (hs : n.A.State = s) (ht : TabOk s e l t) {a : TAuto} (ha : RightA a) (hat : a.State = t) (p q : TPkt) :
    ∃ n' out told, xQ (TNego.mk a n.R n.Ours n.Naks n.Peer) [] [] p s l q = some (n', out, told, p) ∧ EvOk n p q n' out told := by
  subst hs
  have hlen := ht.len
  have hr : RightN (askN n.A.State l (TNego.mk a n.R n.Ours n.Naks n.Peer)) := askN_right ha h0 h3 hl hm
  have hff : FewL (askN n.A.State l (TNego.mk a n.R n.Ours n.Naks n.Peer)).Ours := askN_few hf
  refine ⟨_, _, _, acts_spec (n := TNego.mk a n.R n.Ours n.Naks n.Peer) hf p q n.A.State (by omega), hr, hff, by rw [askN_R], Nat.le_trans (sends_len _ p q l) ht.two, fun x hx => ?_, Nat.le_trans (List.length_filter_le _ _) hlen, ?_, ?_, fun hb => ?_⟩
  · obtain ⟨y, _, hy⟩ := List.mem_flatMap.1 hx
    unfold snd1 at hy
    rw [hr.bytes] at hy
    repeat' split at hy
    · right; left; simpa using hy
    · right; right; left; simpa using hy
    · right; right; right; simpa using hy
    · left; simpa using hy
    · simp at hy
  · rw [has_tells rfl, ht.up, askN_A, ← hat]
  · rw [has_tells rfl, ht.down, askN_A, ← hat]
  · unfold askN
    split
    · exact ask_bytes _
    · exact hb
theorem nothing_ok {n : TNego} (hf : FewL n.Ours) (hr : RightN n) (p q : TPkt) : EvOk n p q n [] [] :=
  ⟨hr, hf, rfl, by simp, by simp, by simp, by simp [has], by simp [has], id⟩
theorem event_ok {n : TNego} (hf : FewL n.Ours) (hr : RightN n) (p q : TPkt) {e : Int} (e0 : 0 ≤ e) (e15 : e ≤ 15) : ∃ l n' out told, ze n [] [] p e q = some (l, n', out, told, p) ∧ EvOk n p q n' out told := by
  obtain ⟨l, t, h | ⟨h, ht⟩⟩ := next_spec hr.a.s0 hr.a.s9 e0 e15
  · exact ⟨_, _, _, _, event_no h p q, nothing_ok hf hr p q⟩
  · have ha := right_fin ht hr.a.c0 hr.a.c5 (by rcases hr.a.left with g | g; exact .inl g; exact .inr (.inl g.1))
    obtain ⟨n', out, told, hw, hk⟩ := acts_ok hf hr.naks0 hr.naks3 hr.len hr.magic rfl ht ha rfl p q
    refine ⟨l, n', out, told, ?_, hk⟩
    have hlen := ht.len
    unfold ze
    rw [auto_Do_eq (by omega) h]
    simp only [Option.bind_some]
    rw [if_neg (by simp), hw]
    rfl
theorem do_ok {n : TNego} (hf : FewL n.Ours) (hr : RightN n) (e : Int) : ∃ n' out told, nego_Do n e = some (n', out, told) ∧ EvOk n zj zj n' out told := by
  unfold nego_Do
  by_cases h0 : e ≥ 0
  · rw [if_pos (by simpa using h0)]
    by_cases h3 : e ≤ 3
    · rw [decide_eq_true h3]
      obtain ⟨l, n', out, told, hw, hk⟩ := event_ok hf hr zj zj (e := e) (by omega) (by omega)
      unfold nego_Do_j2
      rw [if_pos rfl, hw]
      exact ⟨n', out, told, rfl, hk⟩
    · rw [decide_eq_false h3]
      exact ⟨n, [], [], rfl, nothing_ok hf hr _ _⟩
  · rw [if_neg (by simpa using h0)]
    exact ⟨n, [], [], rfl, nothing_ok hf hr _ _⟩
theorem tab_tick : ((List.range 10).all fun s => !timed (s : Int) || ([4, 5].all fun e => match fsm_Next (s : Int) e with | some (_, _, b) => b | none => false)) = true := by kernel_rfl
theorem tick_next {s e : Int} (h4 : 4 ≤ s) (h8 : s ≤ 8) (he : e = 4 ∨ e = 5) : ∃ l t, fsm_Next s e = some (l, t, true) ∧ TabOk s e l t := by
  obtain ⟨l, t, h | h⟩ := next_spec (s := s) (e := e) (by omega) (by omega) (by omega) (by omega)
  · exfalso
    have g := tab_tick
    rw [List.all_eq_true] at g
    have g1 := g s.toNat (by simp; omega)
    rw [show ((s.toNat : Nat) : Int) = s by omega, show timed s = true by simp [timed]; omega] at g1
    simp only [Bool.not_true, Bool.false_or, List.all_eq_true] at g1
    have g2 := g1 e (by simpa using he)
    rw [h] at g2
    simp at g2
  · exact ⟨l, t, h⟩
theorem acts_nil {n : TNego} (hf : FewL n.Ours) (p q : TPkt) (s : Int) : xQ n [] [] p s [] q = some (n, [], [], p) := by
  rw [acts_spec hf p q s (by simp)]
  unfold askN
  rw [if_neg (by simp [has])]
  rfl
theorem tick_ok {n : TNego} (hf : FewL n.Ours) (hr : RightN n) : ∃ n' out told, nego_Tick n = some (n', out, told) ∧ EvOk n zj zj n' out told := by
  unfold nego_Tick auto_Tick
  have hl := hr.a.left
  by_cases h0 : n.A.Left = 0
  · rw [if_pos (by simpa using h0)]
    simp only [Option.bind_some]
    rw [acts_nil hf]
    exact ⟨n, [], [], rfl, nothing_ok hf hr _ _⟩
  · rw [if_neg (by simpa using h0), w64 (by omega) (by omega)]
    have ht : 4 ≤ n.A.State ∧ n.A.State ≤ 8 ∧ 1 ≤ n.A.Left ∧ n.A.Left ≤ 3 := by omega
    by_cases h1 : n.A.Left - 1 > 0
    · rw [if_pos (by simpa using h1)]
      simp only [Option.bind_some]
      rw [acts_nil (n := TNego.mk (TAuto.mk n.A.State n.A.Count (n.A.Left - 1) n.A.Id) n.R n.Ours n.Naks n.Peer) hf]
      have hr' : RightN (TNego.mk (TAuto.mk n.A.State n.A.Count (n.A.Left - 1) n.A.Id) n.R n.Ours n.Naks n.Peer) := ⟨⟨hr.a.s0, hr.a.s9, hr.a.c0, hr.a.c5, .inl ⟨by simp only; omega, by simp only; omega, by simp only; omega, by simp only; omega⟩⟩, hr.naks0, hr.naks3, hr.len, hr.magic⟩
      exact ⟨_, [], [], rfl, ⟨hr', hf, rfl, by simp, by simp, by simp, by simp [has], by simp [has], id⟩⟩
    · rw [if_neg (by simpa using h1)]
      have main : ∀ e : Int, (e = 4 ∨ e = 5) → ∃ n' out told, ((auto_Tick_j1 n.A e).bind fun r19 => ((xQ (TNego.mk r19.1 n.R n.Ours n.Naks n.Peer) ([] : (List TPkt)) ([] : (List Int)) zj n.A.State r19.2 zj).bind fun r47 => ((nego_work_told r47.1 r47.2.1 r47.2.2.1 r47.2.2.2).bind fun r60 => (some (r60.1, r60.2.1, r60.2.2))))) = some (n', out, told) ∧ EvOk n zj zj n' out told := fun e he => by
        obtain ⟨l, t, hn, htab⟩ := tick_next ht.1 ht.2.1 he
        have ha := right_fin (a := TAuto.mk n.A.State n.A.Count (IntKind.i64.wrap (n.A.Left - 1)) n.A.Id) htab hr.a.c0 hr.a.c5 (.inr (.inr he))
        obtain ⟨n', out, told, hw, hk⟩ := acts_ok hf hr.naks0 hr.naks3 hr.len hr.magic rfl htab ha rfl zj zj
        refine ⟨n', out, told, ?_, hk⟩
        unfold auto_Tick_j1
        rw [auto_Do_eq (a := TAuto.mk n.A.State n.A.Count (IntKind.i64.wrap (n.A.Left - 1)) n.A.Id) (by have := htab.len; omega) hn]
        simp only [Option.bind_some]
        rw [hw]
        rfl
      by_cases hc : n.A.Count > 0
      · rw [if_pos (by simpa using hc)]; exact main 4 (.inl rfl)
      · rw [if_neg (by simpa using hc)]; exact main 5 (.inr rfl)
def OutOk (p : TPkt) (i : Int) (os : List TOpt) (x : TPkt) : Prop :=
  x.Data.length ≤ 1496 ∧ (x.Code = 0 ∨ x.Code = 5 ∨ x.Code = 7 ∨ (x.Code = 1 ∧ x.Id = i ∧ x.Data = jK os) ∨ (x.Code = 2 ∧ p.Code = 1 ∧ x.Id = p.Id ∧ x.Data = p.Data) ∨ ((x.Code = 3 ∨ x.Code = 4 ∨ x.Code = 6 ∨ x.Code = 10) ∧ x.Id = p.Id))
structure TakeOk (n : TNego) (p : TPkt) (n' : TNego) (out : List TPkt) (told : List Int) : Prop where
  right : RightN n'
  few : FewL n'.Ours
  two : out.length ≤ 2
  outs : ∀ x, x ∈ out → OutOk p n'.A.Id n'.Ours x
  len : told.length ≤ 8
  up : has told 1 = true ↔ n.A.State ≠ 9 ∧ n'.A.State = 9
  down : has told 2 = true ↔ n.A.State = 9 ∧ n'.A.State ≠ 9
  bytes : BytesL n.Ours → BytesL n'.Ours
theorem EvOk.take {n : TNego} {p q : TPkt} {n' : TNego} {out : List TPkt} {told : List Int} (h : EvOk n p q n' out told) (hq : OutOk p n'.A.Id n'.Ours q) : TakeOk n p n' out told :=
  ⟨h.right, h.few, h.two, fun x hx => by
    rcases h.outs x hx with rfl | rfl | rfl | rfl
    · exact hq
    · exact ⟨h.right.len, by simp⟩
    · exact ⟨by simp, by simp⟩
    · exact ⟨by simp, by simp⟩, h.len, h.up, h.down, h.bytes⟩
theorem zpkt_ok (p : TPkt) (i : Int) (os : List TOpt) : OutOk p i os zj := ⟨by simp [zj], .inl rfl⟩
abbrev TK (n : TNego) (p : TPkt) (r : Option (TNego × List TPkt × List Int × TPkt)) : Prop := ∃ n' out told p', r = some (n', out, told, p') ∧ TakeOk n p n' out told
theorem ev_take {n n0 : TNego} (hst : n0.A = n.A) (hb : BytesL n.Ours → BytesL n0.Ours) (hf : FewL n0.Ours) (hr : RightN n0) (p q : TPkt) (hq : ∀ i os, OutOk p i os q) {e : Int} (e0 : 0 ≤ e) (e15 : e ≤ 15) : TK n p ((ze n0 [] [] p e q).bind fun r => some (r.2.1, r.2.2.1, r.2.2.2.1, r.2.2.2.2)) := by
  obtain ⟨l, n', out, told, hw, hk⟩ := event_ok hf hr p q e0 e15
  rw [hw]
  have := hk.take (hq _ _)
  exact ⟨n', out, told, p, rfl, ⟨this.right, this.few, this.two, this.outs, this.len, by rw [← hst]; exact this.up, by rw [← hst]; exact this.down, fun g => this.bytes (hb g)⟩⟩
theorem nothing_take {n : TNego} (hf : FewL n.Ours) (hr : RightN n) (p : TPkt) : TK n p (some (n, [], [], p)) :=
  ⟨n, [], [], p, rfl, (nothing_ok hf hr p zj).take (zpkt_ok _ _ _)⟩
theorem encL_sub {l m : List TOpt} (h : l.Sublist m) : (jK l).length ≤ (jK m).length := by
  induction h with
  | slnil => simp
  | cons a _ ih => simp only [jK, List.flatMap_cons, List.length_append] at ih ⊢; omega
  | cons_cons a _ ih => simp only [jK, List.flatMap_cons, List.length_append] at ih ⊢; omega
theorem set_enc {o : TOpt} : ∀ {l : List TOpt} {k : Nat} (hk : k < l.length), (encO (l[k])).length = (encO o).length → (jK (l.set k o)).length = (jK l).length
  | x :: l, 0, _, h => by simp only [List.getElem_cons_zero] at h; simp only [List.set_cons_zero, jK, List.flatMap_cons, List.length_append, h]
  | x :: l, k + 1, hk, h => by
    have ih := set_enc (l := l) (k := k) (by simpa using hk) (by simpa using h)
    simp only [jK] at ih
    simp only [List.set_cons_succ, jK, List.flatMap_cons, List.length_append, ih]
theorem turn_ok {r : TRule} {ours : List TOpt} (hf : FewL ours) (hl : (jK ours).length ≤ 1496) (hm : ∀ o, o ∈ ours → o.Typ = 5 → o.Data.length = 4) (code : Int) (ps : List TOpt) : FewL (turnL r ours code ps).1 ∧ (jK (turnL r ours code ps).1).length ≤ 1496 ∧ ∀ o, o ∈ (turnL r ours code ps).1 → o.Typ = 5 → o.Data.length = 4 := by
  have same : FewL ours ∧ (jK ours).length ≤ 1496 ∧ ∀ o, o ∈ ours → o.Typ = 5 → o.Data.length = 4 := ⟨hf, hl, hm⟩
  have drop : FewL (dropL ours ps) ∧ (jK (dropL ours ps)).length ≤ 1496 ∧ ∀ o, o ∈ dropL ours ps → o.Typ = 5 → o.Data.length = 4 := by
    have hs : (dropL ours ps).Sublist ours := List.filter_sublist
    exact ⟨FewL.of (Nat.le_trans hs.length_le hf.len) (fun o ho => hf.all o (hs.subset ho)), Nat.le_trans (encL_sub hs) hl, fun o ho => hm o (hs.subset ho)⟩
  have put : hasT ours 5 = true → FewL (putL ours (TOpt.mk 5 (b4 r.Other))) ∧ (jK (putL ours (TOpt.mk 5 (b4 r.Other)))).length ≤ 1496 ∧ ∀ o, o ∈ putL ours (TOpt.mk 5 (b4 r.Other)) → o.Typ = 5 → o.Data.length = 4 := fun h5 => by
    rw [← fidx_some] at h5
    unfold putL
    simp only
    cases hx : fidx ours 5 with
    | none => rw [hx] at h5; simp at h5
    | some k =>
      obtain ⟨hk, _, hk5⟩ := fidx_lt hx
      have hd := hm _ (List.getElem_mem hk) hk5
      simp only
      refine ⟨FewL.of (by rw [List.length_set]; exact hf.len) (fun o ho => ?_), ?_, fun o ho h5' => ?_⟩
      · rcases List.mem_or_eq_of_mem_set ho with ho | rfl
        · exact hf.all o ho
        · simp [b4]
      · rw [set_enc hk (by rw [encO_len, encO_len, hd]; simp [b4])]; exact hl
      · rcases List.mem_or_eq_of_mem_set ho with ho | rfl
        · exact hm o ho h5'
        · simp [b4]
  unfold turnL
  by_cases c1 : r.Ip = false ∧ hasT ps 3 = true
  · rw [if_pos c1]; exact same
  rw [if_neg c1]
  by_cases c2 : code = 4
  · rw [if_pos c2]; exact drop
  rw [if_neg c2]
  by_cases c3 : code ≠ 3
  · rw [if_pos c3]; exact same
  rw [if_neg c3]
  by_cases c4 : r.Ip = false ∧ hasT ps 5 = true ∧ hasT ours 5 = true
  · rw [if_pos c4]; exact put c4.2.2
  · rw [if_neg c4]; exact same
theorem RightN.ours {n : TNego} (h : RightN n) {os : List TOpt} (g : (jK os).length ≤ 1496 ∧ ∀ o, o ∈ os → o.Typ = 5 → o.Data.length = 4) : RightN (TNego.mk n.A n.R os n.Naks n.Peer) := ⟨h.a, h.naks0, h.naks3, g.1, g.2⟩
theorem rejected_ok {n : TNego} (hf : FewL n.Ours) (hr : RightN n) (p : TPkt) (b : Bool) : TK n p (jv n [] [] p b) := by
  unfold jv
  cases b with
  | true => rw [if_pos rfl]; exact ev_take rfl id hf hr p zj (fun _ _ => zpkt_ok _ _ _) (by decide) (by decide)
  | false => rw [if_neg (by simp)]; exact ev_take rfl id hf hr p zj (fun _ _ => zpkt_ok _ _ _) (by decide) (by decide)
theorem TK.again {n : TNego} {p : TPkt} {r : Option (TNego × List TPkt × List Int × TPkt)} (h : TK n p r) : TK n p (r.bind fun r => some (r.1, r.2.1, r.2.2.1, r.2.2.2)) := by
  obtain ⟨n', out, told, p', rfl, hk⟩ := h
  exact ⟨n', out, told, p', rfl, hk⟩
theorem code_ok {n : TNego} (hf : FewL n.Ours) (hr : RightN n) (p : TPkt) : TK n p (nego_work_code n [] [] p) := by
  unfold nego_work_code
  by_cases h0 : p.Data.length = 0
  · rw [if_pos (by simpa using h0)]; exact (rejected_ok hf hr p true).again
  · rw [if_neg (by simpa using h0), show (0 : Int) = ((0 : Nat) : Int) from rfl, zW (show 0 < p.Data.length by omega)]
    simp only [Option.bind_some]
    by_cases h1 : p.Data[0] < 1
    · rw [if_pos (by simpa using h1)]; exact (rejected_ok hf hr p true).again
    · rw [if_neg (by simpa using h1)]; exact (rejected_ok hf hr p _).again
theorem proto_ok {n : TNego} (hf : FewL n.Ours) (hr : RightN n) (p : TPkt) : TK n p (nego_work_proto n [] [] p) := by
  have hp : ∃ b, xU p.Data [192, 33] = some b := by
    unfold xU
    by_cases h2 : 2 ≤ p.Data.length
    · rw [if_pos (by simp; omega), show (([192, 33] : List Int).length : Int) = ((2 : Nat) : Int) from rfl, cut_to h2]
      exact ⟨_, rfl⟩
    · rw [if_neg (by simp; omega)]
      exact ⟨_, rfl⟩
  obtain ⟨b, hb⟩ := hp
  unfold nego_work_proto
  rw [hb]
  exact (rejected_ok hf hr p _).again
theorem ack_ok {n : TNego} (hf : FewL n.Ours) (hr : RightN n) (p : TPkt) : TK n p (nego_work_ack n [] [] p) := by
  obtain ⟨b, hb⟩ := few_bytes hf
  have j (c : Bool) : TK n p (yg c n [] [] p) := by
    unfold yg
    cases c with
    | true => rw [if_pos rfl]; exact ev_take rfl id hf hr p zj (fun _ _ => zpkt_ok _ _ _) (by decide) (by decide)
    | false => rw [if_neg (by simp)]; exact nothing_take hf hr p
  unfold nego_work_ack
  rw [hb]
  simp only [Option.bind_some]
  by_cases h : p.Id = n.A.Id
  · rw [if_pos (by simpa using h)]; exact j _
  · rw [if_neg (by simpa using h)]; exact j _
theorem nak_ok {n : TNego} (hf : FewL n.Ours) (hr : RightN n) {p : TPkt} (hd : xE p.Data) (hl : p.Data.length ≤ 1496) : TK n p (yj n [] [] p) := by
  unfold yj
  rw [read_spec hd (by omega)]
  simp only [Option.bind_some]
  have skip (r : List TOpt × Int) : TK n p (yc r true n [] [] p) := by
    unfold yc
    rw [if_pos rfl]; exact nothing_take hf hr p
  by_cases hi : p.Id = n.A.Id
  · rw [if_neg (by simpa using hi)]
    cases hrd : readL p.Data.length p.Data with
    | none => exact skip _
    | some os =>
      obtain ⟨_, _, hol⟩ := readL_enc _ _ _ hd hrd
      simp only
      unfold yc
      rw [if_neg (by simp), turn_spec (by have := hf.len; omega) (by simp only; omega)]
      simp only [Option.bind_some]
      obtain ⟨t1, t2⟩ := turn_ok (r := n.R) hf hr.len hr.magic p.Code os
      by_cases hb : (turnL n.R n.Ours p.Code os).2 = true
      · rw [if_neg (by simp [hb])]
        exact ev_take (n := n) (n0 := TNego.mk n.A n.R (turnL n.R n.Ours p.Code os).1 n.Naks n.Peer) rfl (fun g => turn_bytes g _ _) t1 (hr.ours t2) p zj (fun _ _ => zpkt_ok _ _ _) (e := 9) (by decide) (by decide)
      · rw [if_pos (by simpa using hb)]
        exact ev_take rfl id hf hr p zj (fun _ _ => zpkt_ok _ _ _) (by decide) (by decide)
  · rw [if_pos (by simpa using hi)]
    exact skip _
theorem echo_ok {n : TNego} (hf : FewL n.Ours) (hr : RightN n) {p : TPkt} (hl : p.Data.length ≤ 1496) : TK n p (nego_work_echo n [] [] p) := by
  unfold nego_work_echo
  by_cases h4 : 4 ≤ p.Data.length
  · obtain ⟨m, hm, _⟩ := magic_spec hf
    rw [if_pos (by simp; omega), hm]
    simp only [Option.bind_some, four_spec]
    rw [show (4 : Int) = ((4 : Nat) : Int) from rfl, cut_from h4]
    simp only [Option.bind_some]
    rw [xf (by simp [b4]; omega)]
    exact ev_take rfl id hf hr p _ (fun _ _ => ⟨by simp [b4]; omega, by simp⟩) (by decide) (by decide)
  · rw [if_neg (by simp; omega)]
    exact nothing_take hf hr p
theorem pick_cases (os xs ys : List TOpt) : (pickL os xs ys).1 = 2 ∧ (pickL os xs ys).2 = os ∨ ((pickL os xs ys).1 = 4 ∧ (pickL os xs ys).2 = xs) ∨ ((pickL os xs ys).1 = 3 ∧ (pickL os xs ys).2 = ys) := by
  unfold pickL
  split
  · exact .inr (.inl ⟨rfl, rfl⟩)
  · split
    · exact .inr (.inr ⟨rfl, rfl⟩)
    · exact .inl ⟨rfl, rfl⟩
theorem cls_data {r : TRule} {o o' : TOpt} (h : cls r o = some (some o')) : o'.Data.length ≤ 4 := by
  unfold cls at h
  repeat' split at h
  all_goals first
    | (simp at h; done)
    | (simp only [Option.some.injEq] at h; subst h; simp [b4])
theorem answer_ok {r : TRule} {os : List TOpt} (hl : os.length ≤ 900) (hd : ∀ o, o ∈ os → o.Data.length ≤ 253) (naks : Int) : ((answerL r os naks).1 = 2 ∧ (answerL r os naks).2 = os ∨ (answerL r os naks).1 = 3 ∨ (answerL r os naks).1 = 4) ∧ (answerL r os naks).2.length ≤ 1000 ∧ ∀ o, o ∈ (answerL r os naks).2 → o.Data.length ≤ 253 := by
  have g0 : os.length ≤ 1000 ∧ ∀ o, o ∈ os → o.Data.length ≤ 253 := ⟨by omega, hd⟩
  have g1 : (rejL r os).length ≤ 1000 ∧ ∀ o, o ∈ rejL r os → o.Data.length ≤ 253 := ⟨by have := List.length_filter_le (fun o => (cls r o).isNone) os; unfold rejL; omega, fun o ho => hd o (List.mem_filter.1 ho).1⟩
  have g2 : (nakL r os).length ≤ 1000 ∧ ∀ o, o ∈ nakL r os → o.Data.length ≤ 253 := ⟨by have := List.length_filter_le (fun o => (cls r o).join.isSome) os; unfold nakL; omega, fun o ho => hd o (List.mem_filter.1 ho).1⟩
  have g3 : (sugs r os).length ≤ 1000 ∧ ∀ o, o ∈ sugs r os → o.Data.length ≤ 253 := by
    have := List.length_filterMap_le (fun o => (cls r o).join) os
    unfold sugs
    refine ⟨?_, fun o ho => ?_⟩
    · rw [List.length_append]
      have : (if r.Ip = true ∧ os.any isAddr = false then [TOpt.mk 3 (b4 r.Addr)] else []).length ≤ 1 := by split <;> simp
      unfold sugL
      omega
    · rcases List.mem_append.1 ho with ho | ho
      · obtain ⟨x, _, hx⟩ := List.mem_filterMap.1 ho
        have : cls r x = some (some o) := by
          cases hc : cls r x with
          | none => rw [hc] at hx; simp at hx
          | some y => rw [hc] at hx; simp at hx; rw [hx]
        have := cls_data this
        omega
      · split at ho
        · simp at ho; subst ho; simp [b4]
        · simp at ho
  have g4 : ([] : List TOpt).length ≤ 1000 ∧ ∀ o, o ∈ ([] : List TOpt) → o.Data.length ≤ 253 := ⟨by simp, by simp⟩
  have main : ∀ xs ys : List TOpt, (xs.length ≤ 1000 ∧ ∀ o, o ∈ xs → o.Data.length ≤ 253) → (ys.length ≤ 1000 ∧ ∀ o, o ∈ ys → o.Data.length ≤ 253) → ((pickL os xs ys).1 = 2 ∧ (pickL os xs ys).2 = os ∨ (pickL os xs ys).1 = 3 ∨ (pickL os xs ys).1 = 4) ∧ (pickL os xs ys).2.length ≤ 1000 ∧ ∀ o, o ∈ (pickL os xs ys).2 → o.Data.length ≤ 253 := fun xs ys hx hy => by
    rcases pick_cases os xs ys with ⟨e1, e2⟩ | ⟨e1, e2⟩ | ⟨e1, e2⟩
    · rw [e2]; exact ⟨.inl ⟨e1, rfl⟩, g0⟩
    · rw [e2]; exact ⟨.inr (.inr e1), hx⟩
    · rw [e2]; exact ⟨.inr (.inl e1), hy⟩
  unfold answerL
  split
  · split
    · exact main _ _ g2 g4
    · exact main _ _ g1 g4
  · exact main _ _ g1 g3
theorem answers_spec {l : List Int} (h : l.length < 1000000) : nego_answers l = some (has l 8 || has l 9) := by
  unfold nego_answers
  rw [contains_spec h]
  simp only [Option.bind_some]
  cases h8 : has l 8 with
  | true => rfl
  | false => rw [if_neg (by simp), contains_spec h]; rfl
theorem event_len {n : TNego} (hr : RightN n) (hf : FewL n.Ours) (p q : TPkt) {e : Int} (e0 : 0 ≤ e) (e15 : e ≤ 15) {l : List Int} {r : TNego × List TPkt × List Int × TPkt} (h : ze n [] [] p e q = some (l, r)) : l.length ≤ 8 := by
  obtain ⟨l', t, h' | ⟨h', ht⟩⟩ := next_spec hr.a.s0 hr.a.s9 e0 e15
  · rw [event_no h' p q] at h
    simp only [Option.some.injEq, Prod.mk.injEq] at h
    rw [← h.1]; simp
  · have := ht.len
    rw [event_eq hf (by omega) h' p q] at h
    simp only [Option.some.injEq, Prod.mk.injEq] at h
    rw [← h.1]; exact ht.len
theorem request_ok {n : TNego} (hf : FewL n.Ours) (hr : RightN n) {p : TPkt} (hc : p.Code = 1) (hd : xE p.Data) (hl : p.Data.length ≤ 1496) : TK n p (xM n [] [] p) := by
  unfold xM
  rw [read_spec hd (by omega)]
  simp only [Option.bind_some]
  cases hrd : readL p.Data.length p.Data with
  | none => rw [if_pos (by simp)]; exact nothing_take hf hr p
  | some os =>
    simp only
    rw [if_neg (by simp)]
    obtain ⟨henc, hod, hol⟩ := readL_enc _ _ _ hd hrd
    have hol' : os.length ≤ 748 := by
      have : ∀ l : List TOpt, l.length * 2 ≤ (jK l).length := fun l => by
        induction l with
        | nil => simp [jK]
        | cons x l ih => simp only [jK, List.flatMap_cons, List.length_append, encO_len, List.length_cons] at ih ⊢; omega
      have := this os
      rw [henc] at this
      omega
    have main : ∀ n0 : TNego, n0.A = n.A → n0.Ours = n.Ours → FewL n0.Ours → RightN n0 → TK n p (xi (os, 0) n0 [] [] p) := fun n0 hA hO hf0 hr0 => by
      obtain ⟨a1, a2, a3⟩ := answer_ok (r := n0.R) (os := os) (by omega) hod n0.Naks
      unfold xi
      rw [answer_spec n0.R (by omega) hod]
      simp only [Option.bind_some]
      rw [optsBytes_spec a2 a3]
      generalize hans : answerL n0.R os n0.Naks = ans at a1 a2 a3
      generalize hby : (if (jK ans.2).length > 1496 then (([] : List Int), (1 : Int)) else (jK ans.2, 0)) = by'
      have hbl : by'.1.length ≤ 1496 := by
        rw [← hby]; split
        · simp
        · simp only; omega
      have hq : ∀ i us, OutOk p i us (TPkt.mk ans.1 p.Id by'.1) := fun i us => ⟨hbl, by
        rcases a1 with ⟨e1, e2⟩ | e1 | e1
        · have : by'.1 = p.Data := by
            rw [← hby, e2, henc, if_neg (by omega)]
          rw [e1]
          simp [hc, this]
        · rw [e1]; simp
        · rw [e1]; simp⟩
      simp only [Option.bind_some]
      have go : ∀ e : Int, (e = 6 ∨ e = 7) → TK n p (xm (os, 0) ans by' e n0 [] [] p) := fun e he => by
        obtain ⟨l, n', out, told, hw, hk⟩ := event_ok hf0 hr0 p (TPkt.mk ans.1 p.Id by'.1) (e := e) (by omega) (by omega)
        have hlen := event_len hr0 hf0 p _ (by omega) (by omega) hw
        have ht := hk.take (hq _ _)
        unfold xm nego_work_reply
        simp only [Option.bind_some]
        rw [hw]
        simp only [Option.bind_some]
        rw [answers_spec (by omega)]
        simp only [Option.bind_some]
        have fin : ∀ m : TNego, m.A = n'.A → m.Ours = n'.Ours → 0 ≤ m.Naks → m.Naks ≤ 3 → TK n p (some (m, out, told, p)) := fun m m1 m2 m3 m4 =>
          ⟨m, out, told, p, rfl, ⟨by rw [m1]; exact ht.right.a, m3, m4, by rw [m2]; exact ht.right.len, by rw [m2]; exact ht.right.magic⟩, by rw [m2]; exact ht.few, ht.two, by rw [m1, m2]; exact ht.outs, ht.len, by rw [m1, ← hA]; exact ht.up, by rw [m1, ← hA]; exact ht.down, fun g => by rw [m2]; exact ht.bytes (by rw [hO]; exact g)⟩
        have k0 := ht.right.naks0
        have k3 := ht.right.naks3
        by_cases hans : (has l 8 || has l 9) = true
        · rw [if_neg (by rw [hans]; simp)]
          by_cases c2 : ans.1 = 2
          · rw [if_pos (by simpa using c2)]
            exact fin _ rfl rfl (Int.le_refl 0) (by omega : (0 : Int) ≤ 3)
          · rw [if_neg (by simpa using c2)]
            by_cases c3 : ans.1 = 3
            · rw [if_pos (by simpa using c3), w64 (by omega) (by omega)]
              exact fin _ rfl rfl (by simp only; split <;> omega) (by simp only; split <;> omega)
            · rw [if_neg (by simpa using c3)]
              exact fin _ rfl rfl k0 k3
        · rw [if_pos (by simpa using hans)]
          exact fin _ rfl rfl k0 k3
      by_cases c2 : ans.1 = 2
      · rw [if_pos (by simpa using c2)]; exact go 6 (.inl rfl)
      · rw [if_neg (by simpa using c2)]; exact go 7 (.inr rfl)
    by_cases h3 : n.A.State = 3
    · rw [if_pos (by simpa using h3)]
      exact main _ rfl rfl hf ⟨hr.a, Int.le_refl 0, (by omega : (0 : Int) ≤ 3), hr.len, hr.magic⟩
    · rw [if_neg (by simpa using h3)]
      exact main n rfl rfl hf hr
theorem reject_ok {p : TPkt} (i : Int) (hl : p.Data.length ≤ 1496) : ∃ d, pack_Reject p i = some (TPkt.mk 7 i d) ∧ d.length ≤ 1496 := by
  unfold pack_Reject pack_Bytes pack_short
  have hw : IntKind.i64.wrap ((p.Data.length : Int) + 4) = (p.Data.length : Int) + 4 := w64 (by omega) (by omega)
  rw [if_neg (by simp only [hw, decide_eq_true_eq]; omega), xf (by simp; omega)]
  simp only [Option.bind_some]
  generalize hb : ([p.Code, p.Id, IntKind.u8.wrap (sShr .i64 (IntKind.i64.wrap ((p.Data.length : Int) + 4)) 8), IntKind.u8.wrap (IntKind.i64.wrap ((p.Data.length : Int) + 4))] ++ p.Data : List Int) = b
  by_cases h : 1496 < b.length
  · rw [if_pos (show (1496 : Int) < (b.length : Int) by omega), show (1496 : Int) = ((1496 : Nat) : Int) from rfl, cut_to (by omega)]
    exact ⟨_, rfl, by rw [List.length_take]; omega⟩
  · rw [if_neg (show ¬ (1496 : Int) < (b.length : Int) by omega), cut_to (Nat.le_refl _)]
    exact ⟨_, rfl, by rw [List.length_take]; omega⟩
theorem known_some (k c : Int) (hk : k = 32801 ∨ k = 49185) : ∃ b, pack_Known k c = some b ∧ (b = true → 1 ≤ c ∧ c ≤ 11) := by
  rcases hk with rfl | rfl
  · have e : pack_Known 32801 c = if decide (c ≥ 1) = true then some (decide (c ≤ 7)) else some false := by kernel_rfl
    rw [e]
    by_cases h : c ≥ 1
    · rw [if_pos (by simpa using h)]; exact ⟨_, rfl, fun g => ⟨h, by have := of_decide_eq_true g; omega⟩⟩
    · rw [if_neg (by simpa using h)]; exact ⟨_, rfl, by simp⟩
  · have e : pack_Known 49185 c = if decide (c ≥ 1) = true then some (decide (c ≤ 11)) else some false := by kernel_rfl
    rw [e]
    by_cases h : c ≥ 1
    · rw [if_pos (by simpa using h)]; exact ⟨_, rfl, fun g => ⟨h, of_decide_eq_true g⟩⟩
    · rw [if_neg (by simpa using h)]; exact ⟨_, rfl, by simp⟩
theorem take_ok {n : TNego} (hf : FewL n.Ours) (hr : RightN n) {p : TPkt} (hd : xE p.Data) (hl : p.Data.length ≤ 1496) : ∃ n' out told, nego_Take n p = some (n', out, told) ∧ TakeOk n p n' out told := by
  have j2 : ∀ {r : Option (TNego × List TPkt × List Int × TPkt)}, TK n p r → ∃ n' out told, (r.bind fun r => zr r.1 r.2.1 r.2.2.1 r.2.2.2) = some (n', out, told) ∧ TakeOk n p n' out told := fun {r} h => by
    obtain ⟨n', out, told, p', rfl, hk⟩ := h
    exact ⟨n', out, told, rfl, hk⟩
  have key : ∀ k : Int, (k = 32801 ∨ k = 49185) → ∃ n' out told, nego_Take_j1 n p k n [] [] p = some (n', out, told) ∧ TakeOk n p n' out told := fun k hk => by
    unfold nego_Take_j1
    by_cases hs : n.A.State ≤ 1
    · rw [if_pos (by simpa using hs)]
      exact j2 (nothing_take hf hr p)
    rw [if_neg (by simpa using hs)]
    obtain ⟨b, hb, hb'⟩ := known_some k p.Code hk
    rw [hb]
    simp only [Option.bind_some]
    cases b with
    | false =>
      rw [if_pos (by simp)]
      obtain ⟨d, hd', hdl⟩ := reject_ok (p := p) n.A.Id hl
      rw [hd']
      simp only [Option.bind_some]
      have := j2 (ev_take rfl id hf hr p (TPkt.mk 7 n.A.Id d) (fun _ _ => ⟨hdl, by simp⟩) (e := 12) (by decide) (by decide))
      rw [Option.bind_assoc] at this
      exact this
    | true =>
      obtain ⟨c1, c11⟩ := hb' rfl
      rw [if_neg (by simp)]
      simp only [nego_codes, Option.bind_some]
      by_cases g1 : p.Code = 1
      · rw [if_pos (by simpa using g1)]; exact j2 (request_ok hf hr g1 hd hl)
      rw [if_neg (by simpa using g1)]
      by_cases g2 : p.Code = 2
      · rw [if_pos (by simpa using g2)]; exact j2 (ack_ok hf hr p)
      rw [if_neg (by simpa using g2)]
      by_cases g3 : p.Code = 3
      · rw [if_pos (by simpa using g3)]; exact j2 (nak_ok hf hr hd hl)
      rw [if_neg (by simpa using g3)]
      by_cases g4 : p.Code = 4
      · rw [if_pos (by simpa using g4)]; exact j2 (nak_ok hf hr hd hl)
      rw [if_neg (by simpa using g4)]
      by_cases g5 : p.Code = 5
      · rw [if_pos (by simpa using g5)]; exact j2 (ev_take rfl id hf hr p zj (fun _ _ => zpkt_ok _ _ _) (by decide) (by decide))
      rw [if_neg (by simpa using g5)]
      by_cases g6 : p.Code = 6
      · rw [if_pos (by simpa using g6)]; exact j2 (ev_take rfl id hf hr p zj (fun _ _ => zpkt_ok _ _ _) (by decide) (by decide))
      rw [if_neg (by simpa using g6)]
      by_cases g7 : p.Code = 7
      · rw [if_pos (by simpa using g7)]; exact j2 (code_ok hf hr p)
      rw [if_neg (by simpa using g7)]
      by_cases g8 : p.Code = 8
      · rw [if_pos (by simpa using g8)]; exact j2 (proto_ok hf hr p)
      rw [if_neg (by simpa using g8)]
      by_cases g9 : p.Code = 9
      · rw [if_pos (by simpa using g9)]; exact j2 (echo_ok hf hr hl)
      rw [if_neg (by simpa using g9)]
      by_cases g10 : p.Code = 10
      · rw [if_pos (by simpa using g10)]; exact j2 (nothing_take hf hr p)
      rw [if_neg (by simpa using g10), if_pos (show (p.Code == 11) = true by simp; omega)]
      exact j2 (nothing_take hf hr p)
  unfold nego_Take
  split
  · exact key _ (.inl rfl)
  · exact key _ (.inr rfl)
end Go.Proofs.YtadlndnagfnlgaaGreatDoor.W
