/- NegoDoes, of the plain functions: what a layer does, a tick and a packet bring what the reference says. -/
import Derived.Test.YtadlndnagfnlgaaGreatDoorR2
import Derived.Test.YtadlndnagfnlgaaGreatDoorVNegoDoes
namespace Go.Proofs.YtadlndnagfnlgaaGreatDoor.W
open Go
set_option linter.unusedVariables false
set_option linter.unusedSimpArgs false
theorem shown_does : pl14_shown = some true := by kernel_rfl
abbrev EQ (prog : Option (TNego × List TPkt × List Int × TPkt)) (ref : Option Tref14_Out) : Prop := ∃ n' out told p' l, prog = some (n', out, told, p') ∧ ref = some (Tref14_Out.mk n' out told l) ∧ PeerOk n'.Peer
theorem eq_event {n : TNego} (hf : FewL n.Ours) (hr : RightN n) (hu : RuleOk n.R) (hp : PeerOk n.Peer) (p q : TPkt) {e : Int} (e0 : 0 ≤ e) (e15 : e ≤ 15) : EQ ((ze n [] [] p e q).bind fun r => some (r.2.1, r.2.2.1, r.2.2.2.1, r.2.2.2.2)) ((qV n e q p.Id).bind fun r => some r) := by
  obtain ⟨l, n', out, told, h1, h2, _, h4, _⟩ := both_event hf hr hu p q e0 e15
  rw [h1, h2]
  exact ⟨n', out, told, p, l, rfl, rfl, by rcases h4 with h | h <;> rw [h]; exact hp; exact ⟨by simp, by simp⟩⟩
theorem eq_nothing {n : TNego} (hp : PeerOk n.Peer) (p : TPkt) : EQ (some (n, [], [], p)) (some (Tref14_Out.mk n qD.Sent qD.Told qD.L)) := ⟨n, [], [], p, [], rfl, rfl, hp⟩
theorem EQ.again {a : Option (TNego × List TPkt × List Int × TPkt)} {b : Option Tref14_Out} (h : EQ a b) : EQ (a.bind fun r => some (r.1, r.2.1, r.2.2.1, r.2.2.2)) b := by
  obtain ⟨n', out, told, p', l, rfl, rfl, hp⟩ := h
  exact ⟨n', out, told, p', l, rfl, rfl, hp⟩
theorem EQ.ref {a : Option (TNego × List TPkt × List Int × TPkt)} {b : Option Tref14_Out} (h : EQ a b) : EQ a (b.bind fun r => some r) := by
  obtain ⟨n', out, told, p', l, rfl, rfl, hp⟩ := h
  exact ⟨n', out, told, p', l, rfl, rfl, hp⟩
theorem eq_rejected {n : TNego} (hf : FewL n.Ours) (hr : RightN n) (hu : RuleOk n.R) (hp : PeerOk n.Peer) (p : TPkt) (b : Bool) : EQ (jv n [] [] p b) ((qV n (if b = true then 13 else 14) zj p.Id).bind fun r => some r) := by
  unfold jv
  cases b with
  | true => rw [if_pos rfl, if_pos rfl]; exact eq_event hf hr hu hp p zj (by decide) (by decide)
  | false => rw [if_neg (show ¬ false = true by simp), if_neg (show ¬ false = true by simp)]; exact eq_event hf hr hu hp p zj (by decide) (by decide)
theorem eq_code {n : TNego} (hf : FewL n.Ours) (hr : RightN n) (hu : RuleOk n.R) (hp : PeerOk n.Peer) (p : TPkt) : EQ (nego_work_code n [] [] p) (if (decide ((p.Data.length : Int) > 0)) = true then ((idx p.Data 0).bind fun x477 => (if (decide (x477 ≥ 1)) = true then ((idx p.Data 0).bind fun x487 => (zX n p (decide (x487 ≤ 7)))) else (zX n p false))) else (zX n p false)) := by
  have j4 (b : Bool) : zX n p b = ((qV n (if (!b) = true then 13 else 14) zj p.Id).bind fun r => some r) := by
    unfold zX
    cases b <;> rfl
  unfold nego_work_code
  by_cases h0 : p.Data.length = 0
  · rw [if_pos (show ((p.Data.length : Int) == 0) = true by simpa using h0), if_neg (show ¬ decide ((p.Data.length : Int) > 0) = true by simpa using h0), j4]
    exact (eq_rejected hf hr hu hp p true).again
  · rw [if_neg (show ¬ ((p.Data.length : Int) == 0) = true by simpa using h0), if_pos (show decide ((p.Data.length : Int) > 0) = true by simp; omega), show (0 : Int) = ((0 : Nat) : Int) from rfl, zW (show 0 < p.Data.length by omega)]
    simp only [Option.bind_some]
    by_cases h1 : p.Data[0] < 1
    · rw [if_pos (show decide (p.Data[0] < 1) = true by simpa using h1), if_neg (show ¬ decide (p.Data[0] ≥ 1) = true by simpa using h1), j4]
      exact (eq_rejected hf hr hu hp p true).again
    · rw [if_neg (show ¬ decide (p.Data[0] < 1) = true by simpa using h1), if_pos (show decide (p.Data[0] ≥ 1) = true by simp; omega), j4, show (!decide (p.Data[0] ≤ 7)) = decide (p.Data[0] > 7) by rw [← decide_not]; congr 1; simp]
      exact (eq_rejected hf hr hu hp p _).again
theorem eq_proto {n : TNego} (hf : FewL n.Ours) (hr : RightN n) (hu : RuleOk n.R) (hp : PeerOk n.Peer) {p : TPkt} (hd : xE p.Data) : EQ (nego_work_proto n [] [] p) (if (decide ((p.Data.length : Int) ≥ 2)) = true then ((idx p.Data 0).bind fun x569 => (if (x569 == 192) = true then ((idx p.Data 1).bind fun x579 => (zv n p (x579 == 33))) else (zv n p false))) else (zv n p false)) := by
  have j5 (b : Bool) : zv n p b = ((qV n (if (!b) = true then 13 else 14) zj p.Id).bind fun r => some r) := by
    unfold zv
    cases b <;> rfl
  unfold nego_work_proto
  by_cases h2 : 2 ≤ p.Data.length
  · have hh : xU p.Data [192, 33] = some (decide (p.Data.take 2 = [192, 33])) := by
      unfold xU
      rw [if_pos (by simp; omega), show (([192, 33] : List Int).length : Int) = ((2 : Nat) : Int) from rfl, cut_to h2]
      simp only [Option.bind_some]
      rw [equal_spec (fun z hz => hd z (List.mem_of_mem_take hz)) (fun z hz => by simp at hz; omega)]
      rfl
    obtain ⟨x, y, r, hxy⟩ : ∃ x y r, p.Data = x :: y :: r := by
      match hm : p.Data with
      | [] => rw [hm] at h2; simp at h2
      | [_] => rw [hm] at h2; simp at h2
      | x :: y :: r => exact ⟨x, y, r, rfl⟩
    have main : (if (decide ((p.Data.length : Int) ≥ 2)) = true then ((idx p.Data 0).bind fun x569 => (if (x569 == 192) = true then ((idx p.Data 1).bind fun x579 => (zv n p (x579 == 33))) else (zv n p false))) else (zv n p false)) = zv n p (decide (p.Data.take 2 = [192, 33])) := by
      rw [if_pos (show decide ((p.Data.length : Int) ≥ 2) = true by simp; omega), hxy, show idx (x :: y :: r) 0 = some x from rfl, show idx (x :: y :: r) 1 = some y from rfl]
      simp only [Option.bind_some]
      by_cases hx : x = 192
      · rw [if_pos (show (x == 192) = true by simpa using hx)]
        congr 1
        by_cases hy : y = 33
        · simp [hx, hy]
        · simp [hx, hy]
      · rw [if_neg (show ¬ (x == 192) = true by simpa using hx)]
        congr 1
        simp [hx]
    rw [hh, main, j5]
    exact (eq_rejected hf hr hu hp p _).again
  · have hh : xU p.Data [192, 33] = some false := by
      unfold xU
      rw [if_neg (by simp; omega)]
    rw [hh, if_neg (show ¬ decide ((p.Data.length : Int) ≥ 2) = true by simp; omega), j5]
    exact (eq_rejected hf hr hu hp p _).again
theorem eq_ack {n : TNego} (hf : FewL n.Ours) (hr : RightN n) (hu : RuleOk n.R) (hp : PeerOk n.Peer) (hb : BytesL n.Ours) {p : TPkt} (hd : xE p.Data) : EQ (nego_work_ack n [] [] p) ((zL n.Ours).bind fun r281 => ((jz r281.1 p.Data).bind fun r296 => (if r296 = true then (jo n p (p.Id == n.A.Id)) else (jo n p false)))) := by
  have hl := hr.len
  have henc : xE (jK n.Ours) := fun z hz => by
    obtain ⟨o, ho, hz⟩ := List.mem_flatMap.1 hz
    obtain ⟨h1, h2⟩ := hb o ho
    simp only [encO, List.mem_cons] at hz
    rcases hz with rfl | rfl | hz
    · exact h1
    · rw [wu8]; omega
    · exact h2 z hz
  have go : EQ (yg true n [] [] p) (jo n p true) := by
    unfold yg jo
    rw [if_pos rfl, if_pos rfl]
    exact eq_event hf hr hu hp p zj (by decide) (by decide)
  have no : EQ (yg false n [] [] p) (jo n p false) := eq_nothing hp p
  unfold nego_work_ack
  rw [optsBytes_spec (by have := hf.len; omega) hf.all, refBytes_spec hf, if_neg (show ¬ (jK n.Ours).length > 1496 by omega)]
  simp only [Option.bind_some]
  rw [row_spec (by omega)]
  simp only [Option.bind_some]
  by_cases hi : p.Id = n.A.Id
  · rw [if_pos (show (p.Id == n.A.Id) = true by simpa using hi), show (p.Id == n.A.Id) = true by simpa using hi, equal_spec henc hd]
    simp only [Option.bind_some]
    by_cases he : jK n.Ours = p.Data
    · rw [decide_eq_true he, if_pos rfl]; exact go
    · rw [decide_eq_false he, if_neg (by simp)]; exact no
  · rw [if_neg (show ¬ (p.Id == n.A.Id) = true by simpa using hi), show (p.Id == n.A.Id) = false by simpa using hi]
    split <;> exact no
theorem len_enc (l : List TOpt) : l.length * 2 ≤ (jK l).length := by
  induction l with
  | nil => simp [jK]
  | cons x l ih => simp only [jK, List.flatMap_cons, List.length_append, encO_len, List.length_cons] at ih ⊢; omega
theorem eq_nak {n : TNego} (hf : FewL n.Ours) (hr : RightN n) (hu : RuleOk n.R) (hp : PeerOk n.Peer) {p : TPkt} (hd : xE p.Data) (hl : p.Data.length ≤ 1496) (hc : p.Code = 3 ∨ p.Code = 4) : EQ (yj n [] [] p) (yb n p) := by
  unfold yj yb
  rw [read_spec hd (by omega), refRead_spec hd (by omega)]
  simp only [Option.bind_some]
  have skip (r r' : List TOpt × Int) : EQ (yc r true n [] [] p) (xn n p r' true) := eq_nothing hp p
  cases hrd : readL p.Data.length p.Data with
  | none =>
    rw [if_pos (show (((([] : List TOpt), (2 : Int)).2 != 0) = true) by decide)]
    by_cases hi : p.Id = n.A.Id
    · rw [if_neg (show ¬ (p.Id != n.A.Id) = true by simpa using hi)]; exact skip _ _
    · rw [if_pos (show (p.Id != n.A.Id) = true by simpa using hi)]; exact skip _ _
  | some os =>
    obtain ⟨henc, hod, hol⟩ := readL_enc _ _ _ hd hrd
    have h748 := len_enc os
    rw [henc] at h748
    simp only
    rw [if_neg (show ¬ (((0 : Int) != 0) = true) by decide)]
    by_cases hi : p.Id = n.A.Id
    · rw [if_neg (show ¬ (p.Id != n.A.Id) = true by simpa using hi), show (p.Id != n.A.Id) = false by simpa using hi, show ((0 : Int) != 0) = false from rfl]
      unfold yc xn
      rw [if_neg (show ¬ false = true by simp), if_neg (show ¬ false = true by simp)]
      simp only
      rw [turn_spec (by have := hf.len; omega) (by omega), refTurn hu (by have := hf.len; omega) (by omega) hc]
      simp only [Option.bind_some]
      obtain ⟨t1, t2⟩ := turn_ok (r := n.R) hf hr.len hr.magic p.Code os
      by_cases hb : (turnL n.R n.Ours p.Code os).2 = true
      · rw [if_neg (show ¬ (!(turnL n.R n.Ours p.Code os).2) = true by simp [hb]), if_neg (show ¬ (!(turnL n.R n.Ours p.Code os).2) = true by simp [hb])]
        exact eq_event (n := TNego.mk n.A n.R (turnL n.R n.Ours p.Code os).1 n.Naks n.Peer) t1 (hr.ours t2) hu hp p zj (by decide) (by decide)
      · rw [if_pos (show (!(turnL n.R n.Ours p.Code os).2) = true by simpa using hb), if_pos (show (!(turnL n.R n.Ours p.Code os).2) = true by simpa using hb)]
        exact eq_event hf hr hu hp p zj (by decide) (by decide)
    · rw [if_pos (show (p.Id != n.A.Id) = true by simpa using hi), show (p.Id != n.A.Id) = true by simpa using hi]
      exact skip _ _
theorem refBytes_gen {l : List TOpt} (hl : l.length ≤ 1000) (hd : ∀ o, o ∈ l → o.Data.length ≤ 253) : zL l = some (if (jK l).length > 1496 then ([], 1) else (jK l, 0)) := by
  unfold zL
  refine run_loop (fun k => (jK (l.take k), (k : Int))) l.length _ (by simp [jK]) (by omega) (fun k hk => ?_) ?_
  · have h1 := encL_le (l := l.take k) (fun o ho => hd o (List.mem_of_mem_take ho))
    have h2 : (l.take k).length ≤ 1000 := by rw [List.length_take]; omega
    have h3 := hd l[k] (List.getElem_mem hk)
    unfold pr10_Bytes_l1
    rw [if_pos (by simpa using hk)]
    simp only [zW hk, Option.bind_some]
    rw [if_neg (by simp; omega), xf (by simp; omega)]
    simp only [Option.bind_some]
    rw [xf (by simp; omega)]
    simp only [Option.bind_some]
    rw [w64s (by omega), List.take_succ_eq_append_getElem hk, encL_snoc]
    simp [encO]
  · unfold pr10_Bytes_l1
    rw [if_neg (by simp)]
    simp only [List.take_length]
    by_cases hb : (jK l).length > 1496
    · rw [if_pos (by simp; omega), if_pos hb]; rfl
    · rw [if_neg (by simp; omega), if_neg hb]; rfl
theorem readL_bytes {d : List Int} {os : List TOpt} (hd : xE d) (h : jK os = d) : ∀ o, o ∈ os → xE o.Data := fun o ho z hz => by
  apply hd z
  rw [← h]
  exact List.mem_flatMap.2 ⟨o, ho, by simp [encO, hz]⟩
theorem eq_request {n : TNego} (hf : FewL n.Ours) (hr : RightN n) (hu : RuleOk n.R) (hp : PeerOk n.Peer) {p : TPkt} (hd : xE p.Data) (hl : p.Data.length ≤ 1496) : EQ (xM n [] [] p) (yk n p) := by
  unfold xM yk
  rw [read_spec hd (by omega), refRead_spec hd (by omega)]
  simp only [Option.bind_some]
  cases hrd : readL p.Data.length p.Data with
  | none => exact eq_nothing hp p
  | some os =>
    obtain ⟨henc, hod, hol⟩ := readL_enc _ _ _ hd hrd
    have h748 := len_enc os
    rw [henc] at h748
    have hob := readL_bytes hd henc
    simp only
    rw [if_neg (show ¬ (((0 : Int) != 0) = true) by decide), if_neg (show ¬ (((0 : Int) != 0) = true) by decide)]
    have main : ∀ n0 : TNego, FewL n0.Ours → RightN n0 → RuleOk n0.R → PeerOk n0.Peer → EQ (xi (os, 0) n0 [] [] p) (xy p (os, 0) n0) := fun n0 hf0 hr0 hu0 hp0 => by
      obtain ⟨a1, a2, a3⟩ := answer_ok (r := n0.R) (os := os) (by omega) hod n0.Naks
      unfold xi xy
      rw [answer_spec n0.R (by omega) hod, refAnswer hu0 (by omega) hob]
      simp only [Option.bind_some]
      rw [optsBytes_spec a2 a3, refBytes_gen a2 a3]
      generalize answerL n0.R os n0.Naks = ans at a1 a2 a3
      generalize (if (jK ans.2).length > 1496 then (([] : List Int), (1 : Int)) else (jK ans.2, 0)) = by'
      simp only [Option.bind_some]
      have hpo : PeerOk os := ⟨by omega, hod⟩
      by_cases c2 : ans.1 = 2
      · rw [if_pos (show (ans.1 == 2) = true by simpa using c2), if_pos (show (ans.1 == 2) = true by simpa using c2)]
        obtain ⟨l, n', out, told, h1, h2, hlen, h4, h9, _⟩ := both_event hf0 hr0 hu0 p (TPkt.mk ans.1 p.Id by'.1) (e := 6) (by decide) (by decide)
        have h9 := h9 rfl
        unfold xm nego_work_reply xx
        simp only [Option.bind_some]
        rw [h1, h2]
        simp only [Option.bind_some]
        rw [answers_spec (by omega), refHas (by omega), refHas (by omega), h9]
        simp only [Option.bind_some, Bool.or_false]
        unfold xw xz
        by_cases h8 : has l 8 = true
        · rw [if_neg (by simp [h8]), if_pos (show (ans.1 == 2) = true by simpa using c2), if_pos h8]
          exact ⟨_, _, _, _, l, rfl, rfl, hpo⟩
        · rw [if_pos (by simpa using h8), if_neg h8]
          exact ⟨_, _, _, _, l, rfl, rfl, by rcases h4 with h | h <;> rw [h]; exact hp0; exact ⟨by simp, by simp⟩⟩
      · rw [if_neg (show ¬ (ans.1 == 2) = true by simpa using c2), if_neg (show ¬ (ans.1 == 2) = true by simpa using c2)]
        obtain ⟨l, n', out, told, h1, h2, hlen, h4, _, h8⟩ := both_event hf0 hr0 hu0 p (TPkt.mk ans.1 p.Id by'.1) (e := 7) (by decide) (by decide)
        have h8 := h8 rfl
        have hpp : PeerOk n'.Peer := by rcases h4 with h | h <;> rw [h]; exact hp0; exact ⟨by simp, by simp⟩
        unfold xm nego_work_reply xx
        simp only [Option.bind_some]
        rw [h1, h2]
        simp only [Option.bind_some]
        rw [answers_spec (by omega), refHas (by omega), refHas (by omega), h8]
        simp only [Option.bind_some, Bool.false_or]
        rw [if_neg (show ¬ false = true by simp)]
        unfold xw xz
        by_cases h9 : has l 9 = true
        · rw [if_neg (by simp [h9]), if_neg (show ¬ (ans.1 == 2) = true by simpa using c2), if_pos h9]
          by_cases c3 : ans.1 = 3
          · rw [if_pos (show (ans.1 == 3) = true by simpa using c3), if_pos (show (ans.1 == 3) = true by simpa using c3)]
            refine ⟨_, _, _, _, l, rfl, ?_, hpp⟩
            simp only
            rw [show (if IntKind.i64.wrap (n'.Naks + 1) < 3 then IntKind.i64.wrap (n'.Naks + 1) else 3) = (if 3 < IntKind.i64.wrap (n'.Naks + 1) then 3 else IntKind.i64.wrap (n'.Naks + 1)) by generalize IntKind.i64.wrap (n'.Naks + 1) = y; split <;> split <;> omega]
          · rw [if_neg (show ¬ (ans.1 == 3) = true by simpa using c3), if_neg (show ¬ (ans.1 == 3) = true by simpa using c3)]
            exact ⟨_, _, _, _, l, rfl, rfl, hpp⟩
        · rw [if_pos (by simpa using h9), if_neg h9]
          exact ⟨_, _, _, _, l, rfl, rfl, hpp⟩
    by_cases h3 : n.A.State = 3
    · rw [if_pos (show (n.A.State == 3) = true by simpa using h3), if_pos (show (n.A.State == 3) = true by simpa using h3)]
      exact main _ hf ⟨hr.a, Int.le_refl 0, (by omega : (0 : Int) ≤ 3), hr.len, hr.magic⟩ hu hp
    · rw [if_neg (show ¬ (n.A.State == 3) = true by simpa using h3), if_neg (show ¬ (n.A.State == 3) = true by simpa using h3)]
      exact main n hf hr hu hp
theorem bOr_range (a b : Int) : 0 ≤ bOr .u32 a b ∧ bOr .u32 a b < 4294967296 := by
  unfold bOr
  rw [wu32]
  omega
theorem numL_range : ∀ (l : List Int) (s : Int), 0 ≤ s → s < 4294967296 → 0 ≤ l.foldl (fun s c => bOr .u32 (sShl .u32 s 8) (IntKind.u32.wrap c)) s ∧ l.foldl (fun s c => bOr .u32 (sShl .u32 s 8) (IntKind.u32.wrap c)) s < 4294967296
  | [], s, h0, h1 => ⟨h0, h1⟩
  | c :: l, s, h0, h1 => numL_range l (bOr .u32 (sShl .u32 s 8) (IntKind.u32.wrap c)) (bOr_range _ _).1 (bOr_range _ _).2
theorem eq_magic {n : TNego} (hf : FewL n.Ours) (hr : RightN n) (hb : BytesL n.Ours) : ∃ m, nego_Magic n = some m ∧ xZ n = some m ∧ 0 ≤ m ∧ m < 4294967296 := by
  have hl := hf.len
  unfold nego_Magic xZ pr14_Magic_j1
  rw [finds_spec (by omega), refFind (by omega)]
  simp only [Option.bind_some]
  by_cases hi : n.R.Ip = true
  · rw [if_pos hi, if_pos hi]
    exact ⟨0, rfl, rfl, by decide, by decide⟩
  · rw [if_neg hi, if_neg hi]
    have hfs := fidx_some n.Ours 5
    cases hx : fidx n.Ours 5 with
    | none =>
      rw [hx] at hfs
      rw [show hasT n.Ours 5 = false from hfs.symm, num_spec (show (getO n.Ours none).Data.length ≤ 1000000 by simp [getO, zTOpt])]
      exact ⟨0, rfl, rfl, by decide, by decide⟩
    | some k =>
      rw [hx] at hfs
      obtain ⟨hk, _, hk5⟩ := fidx_lt hx
      have hd := hr.magic _ (List.getElem_mem hk) hk5
      have e : getO n.Ours (some k) = n.Ours[k] := by simp [getO, List.getElem?_eq_getElem hk]
      rw [show hasT n.Ours 5 = true from hfs.symm, e, num_spec (by omega), refNum (by omega) (hb _ (List.getElem_mem hk)).2]
      have := numL_range (n.Ours[k]).Data 0 (by decide) (by decide)
      exact ⟨_, rfl, rfl, this.1, this.2⟩
theorem eq_echo {n : TNego} (hf : FewL n.Ours) (hr : RightN n) (hu : RuleOk n.R) (hp : PeerOk n.Peer) (hb : BytesL n.Ours) {p : TPkt} (hl : p.Data.length ≤ 1496) : EQ (nego_work_echo n [] [] p) (if (decide ((p.Data.length : Int) ≥ 4)) = true then ((xZ n).bind fun r630 => ((zI r630).bind fun r637 => ((cut p.Data (some 4) none).bind fun r653 => ((app r637 r653).bind fun r657 => ((qV n 15 (TPkt.mk 10 p.Id r657) p.Id).bind fun r752 => (some r752)))))) else (some (Tref14_Out.mk n qD.Sent qD.Told qD.L))) := by
  unfold nego_work_echo
  by_cases h4 : 4 ≤ p.Data.length
  · obtain ⟨m, hm, hm', m0, m1⟩ := eq_magic hf hr hb
    rw [if_pos (show decide ((p.Data.length : Int) ≥ 4) = true by simp; omega), if_pos (show decide ((p.Data.length : Int) ≥ 4) = true by simp; omega), hm, hm']
    simp only [Option.bind_some]
    rw [refFour m0 m1, four_spec]
    simp only [Option.bind_some]
    rw [show (4 : Int) = ((4 : Nat) : Int) from rfl, cut_from h4]
    simp only [Option.bind_some]
    rw [xf (by simp [b4]; omega)]
    simp only [Option.bind_some, nego_work_reply]
    exact eq_event hf hr hu hp p _ (by decide) (by decide)
  · rw [if_neg (show ¬ decide ((p.Data.length : Int) ≥ 4) = true by simp; omega), if_neg (show ¬ decide ((p.Data.length : Int) ≥ 4) = true by simp; omega)]
    exact eq_nothing hp p
theorem eq_reject {p : TPkt} (i : Int) (hl : p.Data.length ≤ 1496) : ∃ q, pack_Reject p i = some q ∧ pr09_Reject p i = some q := by
  have hw : IntKind.i64.wrap ((p.Data.length : Int) + 4) = (p.Data.length : Int) + 4 := w64 (by omega) (by omega)
  have hw' : IntKind.i64.wrap (4 + (p.Data.length : Int)) = (p.Data.length : Int) + 4 := by rw [w64 (by omega) (by omega)]; omega
  have hb : pack_Bytes p = yi p := by
    unfold pack_Bytes yi
    rw [hw, hw', if_neg (by simp only [decide_eq_true_eq]; omega), if_neg (by simp only [decide_eq_true_eq]; omega)]
    rw [show sShr .i64 ((p.Data.length : Int) + 4) 8 = ((p.Data.length : Int) + 4).fdiv (2 ^ 8) from rfl, Int.fdiv_eq_ediv_of_nonneg _ (by decide), Int.tdiv_eq_ediv_of_nonneg (by omega), Int.tmod_eq_emod_of_nonneg (by omega), wu8, wu8, wu8, wu8, w64 (by omega) (by omega)]
    rw [show (((p.Data.length : Int) + 4) % 256) % 256 = ((p.Data.length : Int) + 4) % 256 by omega]
    rfl
  obtain ⟨d, hd, _⟩ := reject_ok (p := p) i hl
  refine ⟨_, hd, ?_⟩
  rw [← hd]
  unfold pack_Reject pr09_Reject pack_short
  rw [hb]
  cases yi p with
  | none => rfl
  | some r =>
    simp only [Option.bind_some]
    cases cut r.1 none (some (if (1496 : Int) < (r.1.length : Int) then 1496 else (r.1.length : Int))) <;> rfl
theorem both_take {n : TNego} (hf : FewL n.Ours) (hr : RightN n) (hu : RuleOk n.R) (hp : PeerOk n.Peer) (hb : BytesL n.Ours) {p : TPkt} (hd : xE p.Data) (hl : p.Data.length ≤ 1496) : ∃ n' out told l, nego_Take n p = some (n', out, told) ∧ pr14_Take n p = some (Tref14_Out.mk n' out told l) ∧ PeerOk n'.Peer := by
  have j2 : ∀ {r : Option (TNego × List TPkt × List Int × TPkt)} {b : Option Tref14_Out}, EQ r b → ∃ n' out told l, (r.bind fun r => zr r.1 r.2.1 r.2.2.1 r.2.2.2) = some (n', out, told) ∧ b = some (Tref14_Out.mk n' out told l) ∧ PeerOk n'.Peer := fun {r b} h => by
    obtain ⟨n', out, told, p', l, rfl, rfl, hk⟩ := h
    exact ⟨n', out, told, l, rfl, rfl, hk⟩
  have unknown : ∃ n' out told l, ((pack_Reject p n.A.Id).bind fun r285 => ((ze n [] [] p 12 r285).bind fun r294 => (zr r294.2.1 r294.2.2.1 r294.2.2.2.1 r294.2.2.2.2))) = some (n', out, told) ∧ zK n p true = some (Tref14_Out.mk n' out told l) ∧ PeerOk n'.Peer := by
    obtain ⟨q, h1, h2⟩ := eq_reject (p := p) n.A.Id hl
    unfold zK
    rw [if_pos rfl, h1, h2]
    simp only [Option.bind_some]
    have := j2 (eq_event hf hr hu hp p q (e := 12) (by decide) (by decide))
    rw [Option.bind_assoc] at this
    exact this
  have known (k : Int) (c1 : 1 ≤ p.Code) (c11 : p.Code ≤ 11) : ∃ n' out told l, ((nego_codes).bind fun r312 => (if (p.Code == 1) = true then ((xM n [] [] p).bind fun r322 => (zr r322.1 r322.2.1 r322.2.2.1 r322.2.2.2)) else (if (p.Code == 2) = true then ((nego_work_ack n [] [] p).bind fun r384 => (zr r384.1 r384.2.1 r384.2.2.1 r384.2.2.2)) else (if (p.Code == 3) = true then ((yj n [] [] p).bind fun r446 => (zr r446.1 r446.2.1 r446.2.2.1 r446.2.2.2)) else (if (p.Code == 4) = true then ((yj n [] [] p).bind fun r508 => (zr r508.1 r508.2.1 r508.2.2.1 r508.2.2.2)) else (if (p.Code == 5) = true then ((nego_work_term n [] [] p).bind fun r570 => (zr r570.1 r570.2.1 r570.2.2.1 r570.2.2.2)) else (if (p.Code == 6) = true then ((nego_work_termed n [] [] p).bind fun r632 => (zr r632.1 r632.2.1 r632.2.2.1 r632.2.2.2)) else (if (p.Code == 7) = true then ((nego_work_code n [] [] p).bind fun r694 => (zr r694.1 r694.2.1 r694.2.2.1 r694.2.2.2)) else (if (p.Code == 8) = true then ((nego_work_proto n [] [] p).bind fun r756 => (zr r756.1 r756.2.1 r756.2.2.1 r756.2.2.2)) else (if (p.Code == 9) = true then ((nego_work_echo n [] [] p).bind fun r818 => (zr r818.1 r818.2.1 r818.2.2.1 r818.2.2.2)) else (if (p.Code == 10) = true then ((nego_work_nothing n [] [] p).bind fun r880 => (zr r880.1 r880.2.1 r880.2.2.1 r880.2.2.2)) else (if (p.Code == 11) = true then ((nego_work_nothing n [] [] p).bind fun r942 => (zr r942.1 r942.2.1 r942.2.2.1 r942.2.2.2)) else none)))))))))))) = some (n', out, told) ∧ zK n p false = some (Tref14_Out.mk n' out told l) ∧ PeerOk n'.Peer := by
    unfold zK
    rw [if_neg (show ¬ false = true by simp), show nego_codes = some () from rfl, Option.bind_some]
    have P {k : Int} (h : p.Code = k) : (p.Code == k) = true := by simpa using h
    have N {k : Int} (h : p.Code ≠ k) : ¬ (p.Code == k) = true := by simpa using h
    by_cases g1 : p.Code = 1
    · rw [if_pos (P g1), if_pos (P g1)]; exact j2 (eq_request hf hr hu hp hd hl).ref
    rw [if_neg (N g1), if_neg (N g1)]
    by_cases g2 : p.Code = 2
    · rw [if_pos (P g2), if_pos (P g2)]; exact j2 (eq_ack hf hr hu hp hb hd)
    rw [if_neg (N g2), if_neg (N g2)]
    by_cases g3 : p.Code = 3
    · rw [if_pos (P g3), if_pos (P g3), P g3]
      unfold xq
      rw [if_pos rfl]
      exact j2 (eq_nak hf hr hu hp hd hl (.inl g3)).ref
    rw [if_neg (N g3), if_neg (N g3)]
    by_cases g4 : p.Code = 4
    · rw [if_pos (P g4), P g4]
      unfold xq
      rw [if_pos rfl]
      exact j2 (eq_nak hf hr hu hp hd hl (.inr g4)).ref
    rw [if_neg (N g4), show (p.Code == 4) = false by simpa using g4]
    unfold xq
    rw [if_neg (show ¬ false = true by simp)]
    by_cases g5 : p.Code = 5
    · rw [if_pos (P g5), if_pos (P g5)]; exact j2 (eq_event hf hr hu hp p zj (by decide) (by decide))
    rw [if_neg (N g5), if_neg (N g5)]
    by_cases g6 : p.Code = 6
    · rw [if_pos (P g6), if_pos (P g6)]; exact j2 (eq_event hf hr hu hp p zj (by decide) (by decide))
    rw [if_neg (N g6), if_neg (N g6)]
    by_cases g7 : p.Code = 7
    · rw [if_pos (P g7), if_pos (P g7)]; exact j2 (eq_code hf hr hu hp p)
    rw [if_neg (N g7), if_neg (N g7)]
    by_cases g8 : p.Code = 8
    · rw [if_pos (P g8), if_pos (P g8)]; exact j2 (eq_proto hf hr hu hp hd)
    rw [if_neg (N g8), if_neg (N g8)]
    by_cases g9 : p.Code = 9
    · rw [if_pos (P g9), if_pos (P g9)]; exact j2 (eq_echo hf hr hu hp hb hl)
    rw [if_neg (N g9), if_neg (N g9)]
    by_cases g10 : p.Code = 10
    · rw [if_pos (P g10)]; exact j2 (eq_nothing hp p)
    rw [if_neg (N g10), if_pos (show (p.Code == 11) = true by simp; omega)]
    exact j2 (eq_nothing hp p)
  have kn1 : pack_Known 32801 p.Code = if decide (p.Code ≥ 1) = true then some (decide (p.Code ≤ 7)) else some false := by generalize p.Code = c; kernel_rfl
  have kn2 : pack_Known 49185 p.Code = if decide (p.Code ≥ 1) = true then some (decide (p.Code ≤ 11)) else some false := by generalize p.Code = c; kernel_rfl
  have key (k : Int) (b : Bool) (hk : pack_Known k p.Code = some b) (hb' : b = true → 1 ≤ p.Code ∧ p.Code ≤ 11) (hs : ¬ n.A.State ≤ 1) : ∃ n' out told l, nego_Take_j1 n p k n [] [] p = some (n', out, told) ∧ zK n p (!b) = some (Tref14_Out.mk n' out told l) ∧ PeerOk n'.Peer := by
    unfold nego_Take_j1
    rw [if_neg (show ¬ decide (n.A.State ≤ 1) = true by simpa using hs), hk, Option.bind_some]
    cases b with
    | false => rw [if_pos (show (!false) = true from rfl)]; exact unknown
    | true => rw [if_neg (show ¬ (!true) = true by simp)]; exact known 0 (hb' rfl).1 (hb' rfl).2
  unfold nego_Take pr14_Take
  by_cases hs : n.A.State ≤ 1
  · rw [if_pos (show decide (n.A.State < 2) = true by simp; omega)]
    have := j2 (eq_nothing hp p)
    have k1 (k : Int) : nego_Take_j1 n p k n [] [] p = zr n [] [] p := by unfold nego_Take_j1; rw [if_pos (show decide (n.A.State ≤ 1) = true by simpa using hs)]
    rw [k1, k1]
    split <;> exact this
  rw [if_neg (show ¬ decide (n.A.State < 2) = true by simp; omega)]
  by_cases hi : n.R.Ip = true
  · rw [if_pos hi, if_pos hi]
    by_cases hc1 : p.Code ≥ 1
    · rw [if_pos (show decide (p.Code ≥ 1) = true by simpa using hc1)] at kn1
      rw [if_neg (show ¬ decide (p.Code < 1) = true by simp; omega)]
      have h := key 32801 _ kn1 (fun g => by have := of_decide_eq_true g; omega) hs
      by_cases h11 : p.Code > 11
      · rw [if_pos (show decide (p.Code > 11) = true by simpa using h11)]
        rw [decide_eq_false (show ¬ p.Code ≤ 7 by omega)] at h; exact h
      · rw [if_neg (show ¬ decide (p.Code > 11) = true by simpa using h11), show decide (p.Code > 7) = !decide (p.Code ≤ 7) by rw [← decide_not]; congr 1; simp]
        exact h
    · rw [if_neg (show ¬ decide (p.Code ≥ 1) = true by simpa using hc1)] at kn1
      rw [if_pos (show decide (p.Code < 1) = true by simp; omega)]
      exact key 32801 _ kn1 (by simp) hs
  · rw [if_neg hi, if_neg hi]
    by_cases hc1 : p.Code ≥ 1
    · rw [if_pos (show decide (p.Code ≥ 1) = true by simpa using hc1)] at kn2
      rw [if_neg (show ¬ decide (p.Code < 1) = true by simp; omega)]
      have h := key 49185 _ kn2 (fun g => ⟨hc1, of_decide_eq_true g⟩) hs
      by_cases h11 : p.Code > 11
      · rw [if_pos (show decide (p.Code > 11) = true by simpa using h11)]
        rw [decide_eq_false (show ¬ p.Code ≤ 11 by omega)] at h; exact h
      · rw [if_neg (show ¬ decide (p.Code > 11) = true by simpa using h11)]
        rw [decide_eq_true (show p.Code ≤ 11 by omega)] at h; exact h
    · rw [if_neg (show ¬ decide (p.Code ≥ 1) = true by simpa using hc1)] at kn2
      rw [if_pos (show decide (p.Code < 1) = true by simp; omega)]
      exact key 49185 _ kn2 (by simp) hs
theorem both_do {n : TNego} (hf : FewL n.Ours) (hr : RightN n) (hu : RuleOk n.R) (hp : PeerOk n.Peer) (e : Int) : ∃ n' out told l, nego_Do n e = some (n', out, told) ∧ pr14_Do n e = some (Tref14_Out.mk n' out told l) ∧ PeerOk n'.Peer := by
  have no : ∃ n' out told l, nego_Do_j2 e false n [] [] zj = some (n', out, told) ∧ pr14_Do_j1 n e true = some (Tref14_Out.mk n' out told l) ∧ PeerOk n'.Peer := ⟨n, [], [], [], rfl, rfl, hp⟩
  unfold nego_Do pr14_Do
  by_cases h0 : e ≥ 0
  · rw [if_pos (show decide (e ≥ 0) = true by simpa using h0), if_neg (show ¬ decide (e < 0) = true by simpa using h0)]
    by_cases h3 : e ≤ 3
    · rw [decide_eq_true h3, decide_eq_false (show ¬ e > 3 by omega)]
      obtain ⟨n', out, told, p', l, h1, h2, h4⟩ := eq_event hf hr hu hp zj zj (e := e) (by omega) (by omega)
      refine ⟨n', out, told, l, ?_, ?_, h4⟩
      · unfold nego_Do_j2
        rw [if_pos rfl]
        have : (ze n [] [] zj e zj).bind (fun r105 => nego_Do_j1 r105.2.1 r105.2.2.1 r105.2.2.2.1 r105.2.2.2.2) = ((ze n [] [] zj e zj).bind fun r => some (r.2.1, r.2.2.1, r.2.2.2.1, r.2.2.2.2)).bind (fun r => nego_Do_j1 r.1 r.2.1 r.2.2.1 r.2.2.2) := by rw [Option.bind_assoc]; rfl
        rw [this, h1]
        rfl
      · unfold pr14_Do_j1
        rw [if_neg (by simp)]
        exact h2
    · rw [decide_eq_false h3, decide_eq_true (show e > 3 by omega)]; exact no
  · rw [if_neg (show ¬ decide (e ≥ 0) = true by simpa using h0), if_pos (show decide (e < 0) = true by simp; omega)]; exact no
theorem u32_wf {a : Int} (h : (Lit.int .u32 a).wf = true) : 0 ≤ a ∧ a < 4294967296 := by
  unfold Lit.wf at h
  rw [Bool.and_eq_true, decide_eq_true_eq, decide_eq_true_eq, show IntKind.u32.min = 0 by kernel_rfl, show IntKind.u32.max = 4294967295 by kernel_rfl] at h
  omega
theorem u8_wf {a : Int} (h : (Lit.int .u8 a).wf = true) : 0 ≤ a ∧ a ≤ 255 := by
  unfold Lit.wf at h
  rw [Bool.and_eq_true, decide_eq_true_eq, decide_eq_true_eq, show IntKind.u8.min = 0 by kernel_rfl, show IntKind.u8.max = 255 by kernel_rfl] at h
  exact h
theorem negoDoes_true {n : TNego} {e : Int} {p : TPkt} (w0 : wfTNego n) (w1 : (Lit.int .i64 e).wf = true) (w2 : wfTPkt p) : pl14_NegoDoes n e p = some true := by
  unfold pl14_NegoDoes
  rw [shown_does]
  obtain ⟨b1, h1, hb1⟩ := small_spec n
  rw [h1]
  simp only [Option.bind_some]
  have up : je n e p true true = some true := by unfold je; simp
  cases b1 with
  | false => simpa using up
  | true =>
    obtain ⟨hf, hfp⟩ := hb1 rfl
    obtain ⟨b2, h2, hb2⟩ := right_spec hf
    rw [if_neg (by simp), h2]
    simp only [Option.bind_some]
    cases b2 with
    | false => simpa using up
    | true =>
      have hr := hb2 rfl
      rw [if_neg (by simp)]
      by_cases hl : (p.Data.length : Int) > 1496
      · rw [decide_eq_true hl]; exact up
      rw [decide_eq_false hl]
      have hbo : BytesL n.Ours := fun o ho => by
        obtain ⟨g1, g2⟩ := w0.2.2.1.2 o ho
        exact ⟨u8_wf g1, fun z hz => u8_wf (g2.2 z hz)⟩
      have hu : RuleOk n.R := by
        obtain ⟨_, r1, r2, r3, r4⟩ := w0.2.1
        exact ⟨(u32_wf r1).1, (u32_wf r1).2, (u32_wf r2).1, (u32_wf r2).2, (u32_wf r3).1, (u32_wf r3).2, (u32_wf r4).1, (u32_wf r4).2⟩
      have hp : PeerOk n.Peer := ⟨by have := hfp.len; omega, hfp.all⟩
      have hd : xE p.Data := fun z hz => u8_wf (w2.2.2.2 z hz)
      have hpe {m : TNego} (h : m.Peer = n.Peer ∨ m.Peer = []) : PeerOk m.Peer := by rcases h with h | h <;> rw [h]; exact hp; exact ⟨by simp, by simp⟩
      obtain ⟨n1, o1, t1, l1, e1, e1', p1⟩ := both_do hf hr hu hp e
      obtain ⟨n2, o2, t2, l2, e2, e2', p2⟩ := both_tick hf hr hu
      obtain ⟨n3, o3, t3, l3, e3, e3', p3⟩ := both_take hf hr hu hp hbo hd (p := p) (by omega)
      obtain ⟨m1, q1, s1, f1, k1⟩ := do_ok hf hr e
      obtain ⟨m2, q2, s2, f2, k2⟩ := tick_ok hf hr
      obtain ⟨m3, q3, s3, f3, k3⟩ := take_ok hf hr hd (p := p) (by omega)
      rw [e1] at f1
      rw [e2] at f2
      rw [e3] at f3
      simp only [Option.some.injEq, Prod.mk.injEq] at f1 f2 f3
      obtain ⟨rfl, rfl, rfl⟩ := f1
      obtain ⟨rfl, rfl, rfl⟩ := f2
      obtain ⟨rfl, rfl, rfl⟩ := f3
      have d1 := k1.take (zpkt_ok zj n1.A.Id n1.Ours)
      have d2 := k2.take (zpkt_ok zj n2.A.Id n2.Ours)
      unfold je
      rw [if_neg (by simp), e1, Option.bind_some, e2, Option.bind_some, e3, Option.bind_some, if_pos rfl, e1', Option.bind_some]
      rw [is_self d1.few p1 (fun x hx => (d1.outs x hx).1) d1.two d1.len, Option.bind_some, if_pos rfl, e2', Option.bind_some]
      rw [is_self d2.few (hpe p2) (fun x hx => (d2.outs x hx).1) d2.two d2.len, Option.bind_some, if_pos rfl, e3', Option.bind_some]
      rw [is_self k3.few p3 (fun x hx => (k3.outs x hx).1) k3.two k3.len, Option.bind_some]
end Go.Proofs.YtadlndnagfnlgaaGreatDoor.W
