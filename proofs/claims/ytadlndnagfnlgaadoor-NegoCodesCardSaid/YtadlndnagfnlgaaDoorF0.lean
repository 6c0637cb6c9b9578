/- Calls come to what the plain functions say: written by a program (gen.py). -/
import Derived.Test.YtadlndnagfnlgaaDoorG
set_option linter.unusedVariables false
set_option maxRecDepth 20000
namespace Go.Proofs.YtadlndnagfnlgaaDoor.W
open Go
set_option maxHeartbeats 4000000
attribute [local irreducible] wpList wpAny Code.wp wpListIn wpAnyIn Code.wpIn
theorem opts_Four_ok {c : World} (hc : Hc c) {G : Ghost} {w : World} {σ : List Ent} {a0 : Int}  (H : St c G w (σ)) {r : (List Int)} (hF : opts_Four a0 = some r) :
  Calls Tryd.prog 81 ([(.int .u32 a0)] : List Value).toArray w (Ends fun v w' => ∃ (G' : Ghost) (g1' : Option Nat) (A2' : Option Addr) (c3' : Nat), GLe G G' ∧ tup [(.slice A2' r.length c3')] = v ∧ St c G' w' ((.row kB g1' A2' c3' 5 r) :: σ)) := by
 unfold opts_Four at hF
 refine calls_mk Tryd.func81 rfl rfl rfl ?_
 refine wp_seq (wc_region ?_)
 refine wl_rn (rn_pure (.slice none 0 0) rfl) ?_
 refine wl_nil (then_n (wp_seq (wc_region ?_)))
 refine wl_rn (rn_pure (.int .u32 a0) rfl) ?_
 refine wl_rn (rn_pure (.int .u32 (sShr .u32 a0 24)) rfl) ?_
 refine wl_rn (rn_convert un24 un5 rfl) ?_
 refine wl_rn (rn_pure (.int .u32 a0) rfl) ?_
 refine wl_rn (rn_pure (.int .u32 (sShr .u32 a0 16)) rfl) ?_
 refine wl_rn (rn_convert un24 un5 rfl) ?_
 refine wl_rn (rn_pure (.int .u32 a0) rfl) ?_
 refine wl_rn (rn_pure (.int .u32 (sShr .u32 a0 8)) rfl) ?_
 refine wl_rn (rn_convert un24 un5 rfl) ?_
 refine wl_rn (rn_pure (.int .u32 a0) rfl) ?_
 refine wl_rn (rn_convert un24 un5 rfl) ?_
 refine wl_lit (K := kB) (vs := [(.int .u8 (IntKind.u8.wrap ((sShr .u32 a0 24)))), (.int .u8 (IntKind.u8.wrap ((sShr .u32 a0 16)))), (.int .u8 (IntKind.u8.wrap ((sShr .u32 a0 8)))), (.int .u8 (IntKind.u8.wrap (a0)))]) (xs := ([(IntKind.u8.wrap ((sShr .u32 a0 24))), (IntKind.u8.wrap ((sShr .u32 a0 16))), (IntKind.u8.wrap ((sShr .u32 a0 8))), (IntKind.u8.wrap (a0))] : (List Int))) H sl30 el5 rfl ⟨((dInt .u8).toV _ _), ((dInt .u8).toV _ _), ((dInt .u8).toV _ _), ((dInt .u8).toV _ _), trivial⟩ rfl (by decide) ?_
 intro g1 w3 H2
 refine wl_rn (rn_pure (.slice (some ⟨g1, 0, none⟩) ([(IntKind.u8.wrap ((sShr .u32 a0 24))), (IntKind.u8.wrap ((sShr .u32 a0 16))), (IntKind.u8.wrap ((sShr .u32 a0 8))), (IntKind.u8.wrap (a0))] : (List Int)).length 4) rfl) ?_
 refine wl_nil (then_n ?_)
 refine wp_ret ?_
 have hF := Option.some.inj hF
 subst hF
 exact ret_mk rfl (RV.tmp rfl RV.nil) ⟨_, (some g1), (some ⟨g1, 0, none⟩), 4, GLe.refl _, rfl, H2⟩

theorem rules_number_ok {c : World} (hc : Hc c) {G : Ghost} {w : World} {σ : List Ent} {a0 : Int} {a1 : Int} {a2 : Int}  (H : St c G w (σ)) {r : TOpt} (hF : rules_number a0 a1 a2 = some r) :
  Calls Tryd.prog 61 ([(.int .u8 a0), (.int .i64 a1), (.int .u32 a2)] : List Value).toArray w (Ends fun v w' => ∃ (G' : Ghost) (v1' : Value), GLe G G' ∧ tup [v1'] = v ∧ St c G' w' (σ) ∧ kTOpt.V G' v1' r) := by
 unfold rules_number at hF
 refine calls_mk Tryd.func61 rfl rfl rfl ?_
 refine wp_seq (wc_region ?_)
 refine wl_alloc H zr60 ?_
 intro b1 w4 H2
 refine wl_nil (then_n (wp_seq (wc_region ?_)))
 refine wl_rn (rn_pure (.int .u32 a2) rfl) ?_
 obtain ⟨r5, hr6, hF⟩ := bindS hF
 refine wl_call (vs := [(.int .u32 a2)]) en81 rfl (opts_Four_ok hc H2 hr6) ?_
 rintro v11 w10 ⟨G7, g12, A13, c14, hG8, rfl, H9⟩
 refine wl_rn (rn_pure (.slice A13 r5.length c14) rfl) ?_
 refine wl_nil (then_n (wp_seq (wc_region ?_)))
 refine wl_rn (rn_pure (.int .u8 a0) rfl) ?_
 iterate 2 refine wl_rn (rn_pure (.slice A13 r5.length c14) rfl) ?_
 refine wl_rn (rn_len sl30 rfl) ?_
 refine wl_rn (rn_pure (.int .i64 a1) rfl) ?_
 refine wl_rn (rn_pure (.int .i64 (IntKind.i64.wrap ((r5.length : Int) - a1))) rfl) ?_
 obtain ⟨G16, hG17, H18, hs19⟩ := H9.stay (i := 0) rfl (H9.capA (i := 0) rfl)
 obtain ⟨r20, hr21, hF⟩ := bindS hF
 refine wl_rnE (rn_cut (lo := (some (IntKind.i64.wrap ((r5.length : Int) - a1)))) (hi := none) hs19 sl30 ty5 rfl ⟨_, rfl⟩ trivial hr21) ?_
 intro z22 hs23
 refine wl_rnE (rn_build (G := G16) zr60 rfl bs60 rfl (Parts.cons fo60_0 lTOpt_Typ ((dInt .u8).toV _ _) (Parts.cons fo60_1 lTOpt_Data (slice_toV hs23) (Parts.nil _)))) ?_
 intro v24 hv25
 refine wl_store (z := (TOpt.mk a0 r20)) H18 (i := 0) rfl (Lens.id kTOpt) ty60 rfl rfl hv25 ?_
 intro w27 H26
 refine wl_nil (then_n ?_)
 refine wp_ret ?_
 obtain ⟨v28, hv29, hl30⟩ := H26.loadv (i := 0) rfl ty60
 have hF := Option.some.inj hF
 subst hF
 exact ret_mk rfl (RV.cell rfl hl30 RV.nil) ⟨_, v28, (hG8.trans hG17), rfl, (St.pick [(.box b1 60 (kTOpt.at_ (TOpt.mk a0 r20)))] [] [] H26 (by decide) rfl), hv29⟩

theorem rules_Ask_ok {c : World} (hc : Hc c) {G : Ghost} {w : World} {σ : List Ent} {a0 : TRule} {v0_ : Value} (h0_ : kTRule.V G v0_ a0) (H : St c G w (σ)) {r : (List TOpt)} (hF : rules_Ask a0 = some r) :
  Calls Tryd.prog 38 ([v0_] : List Value).toArray w (Ends fun v w' => ∃ (G' : Ghost) (A1' : Option Addr) (c2' : Nat), GLe G G' ∧ tup [(.slice A1' r.length c2')] = v ∧ St c G' w' (σ) ∧ SlR kTOpt G' A1' c2' r) := by
 unfold rules_Ask at hF
 refine calls_mk Tryd.func38 rfl rfl rfl ?_
 refine wp_seq (wc_region ?_)
 refine wl_box (K := kTRule) (x := a0) H rfl h0_ ?_
 intro b1 w4 H2
 refine wl_rn (rn_pure (.slice none 0 0) rfl) ?_
 refine wl_nil (then_n ?_)
 refine wp_seq ?_
 refine wp_seq (wc_region ?_)
 refine wl_rn (rn_field fo26_0 rfl) ?_
 refine wl_loadd H2 (i := 0) rfl lTRule_Ip dBool ty4 rfl ?_
 refine wl_nil (then_n ?_)
 rcases bcases a0.Ip with hb5 | hb5
 ·replace hF := ifT hF hb5
  refine wc_true (vb hb5) ?_
  refine wp_seq (wc_region ?_)
  refine wl_rn (rn_field fo26_4 rfl) ?_
  refine wl_loadd H2 (i := 0) rfl lTRule_Ours (dInt .u32) ty24 rfl ?_
  obtain ⟨r6, hr7, hF⟩ := bindS hF
  refine wl_call (vs := [(.int .u8 3), (.int .i64 4), (.int .u32 a0.Ours)]) en61 rfl (rules_number_ok hc H2 hr7) ?_
  rintro v12 w11 ⟨G8, v13, hG9, rfl, H10, hv14⟩
  refine wl_lit (K := kTOpt) (vs := [v13]) (xs := ([r6] : (List TOpt))) H10 sl27 el60 rfl ⟨hv14, trivial⟩ rfl (by decide) ?_
  intro g15 w17 H16
  refine wl_rn (rn_pure (.slice (some ⟨g15, 0, none⟩) ([r6] : (List TOpt)).length 1) rfl) ?_
  refine wl_nil (then_n ?_)
  refine wp_ret ?_
  refine then_r ?_
  obtain ⟨G19, hG20, H21, hs22⟩ := H16.stay (i := 0) rfl (H16.capA (i := 0) rfl)
  have hF := Option.some.inj hF
  subst hF
  exact ret_mk rfl (RV.tmp rfl RV.nil) ⟨_, (some ⟨g15, 0, none⟩), 1, (hG9.trans hG20), rfl, (St.pick [(.box b1 26 (kTRule.at_ a0))] [] [] H21 (by decide) rfl), hs22⟩
 ·replace hF := ifF hF hb5
  refine wc_false (vb hb5) ?_
  refine wp_skip ?_
  refine then_n ?_
  refine wp_seq (wc_region ?_)
  refine wl_lit (K := kB) (vs := [(.int .u8 194), (.int .u8 35), (.int .u8 5)]) (xs := ([194, 35, 5] : (List Int))) H2 sl30 el5 rfl ⟨((dInt .u8).toV _ _), ((dInt .u8).toV _ _), ((dInt .u8).toV _ _), trivial⟩ rfl (by decide) ?_
  intro g23 w25 H24
  obtain ⟨G27, hG28, H29, hs30⟩ := H24.stay (i := 0) rfl (H24.capA (i := 0) rfl)
  refine wl_rnE (rn_build (G := G27) zr60 rfl bs60 rfl (Parts.cons fo60_0 lTOpt_Typ ((dInt .u8).toV _ _) (Parts.cons fo60_1 lTOpt_Data (slice_toV hs30) (Parts.nil _)))) ?_
  intro v31 hv32
  refine wl_rn (rn_field fo26_1 rfl) ?_
  refine wl_loadd H29 (i := 0) rfl lTRule_Magic (dInt .u32) ty24 rfl ?_
  obtain ⟨r33, hr34, hF⟩ := bindS hF
  refine wl_call (vs := [(.int .u8 5), (.int .i64 4), (.int .u32 a0.Magic)]) en61 rfl (rules_number_ok hc H29 hr34) ?_
  rintro v39 w38 ⟨G35, v40, hG36, rfl, H37, hv41⟩
  refine wl_lit (K := kTOpt) (vs := [v31, v40]) (xs := ([(TOpt.mk 3 ([194, 35, 5] : (List Int))), r33] : (List TOpt))) H37 sl27 el60 rfl ⟨(hv32.mono hG36), hv41, trivial⟩ rfl (by decide) ?_
  intro g42 w44 H43
  refine wl_rn (rn_pure (.slice (some ⟨g42, 0, none⟩) ([(TOpt.mk 3 ([194, 35, 5] : (List Int))), r33] : (List TOpt)).length 2) rfl) ?_
  refine wl_nil (then_n ?_)
  refine wp_ret ?_
  obtain ⟨G46, hG47, H48, hs49⟩ := H43.stay (i := 0) rfl (H43.capA (i := 0) rfl)
  have hF := Option.some.inj hF
  subst hF
  exact ret_mk rfl (RV.tmp rfl RV.nil) ⟨_, (some ⟨g42, 0, none⟩), 2, ((hG28.trans hG36).trans hG47), rfl, (St.pick [(.box b1 26 (kTRule.at_ a0))] [] [] H48 (by decide) rfl), hs49⟩

theorem nego_New_ok {c : World} (hc : Hc c) {G : Ghost} {w : World} {σ : List Ent} {a0 : TRule} {v0_ : Value} (h0_ : kTRule.V G v0_ a0) (H : St c G w (σ)) {r : TNego} (hF : nego_New a0 = some r) :
  Calls Tryd.prog 18 ([v0_] : List Value).toArray w (Ends fun v w' => ∃ (G' : Ghost) (v1' : Value), GLe G G' ∧ tup [v1'] = v ∧ St c G' w' (σ) ∧ kTNego.V G' v1' r) := by
 unfold nego_New at hF
 refine calls_mk Tryd.func18 rfl rfl rfl ?_
 refine wp_seq (wc_region ?_)
 refine wl_box (K := kTRule) (x := a0) H rfl h0_ ?_
 intro b1 w4 H2
 refine wl_alloc H2 zr29 ?_
 intro b5 w8 H6
 refine wl_nil (then_n ?_)
 refine wp_seq ?_
 refine wc_anyS (f := 5) H6 mixed ?_
 intro w9 H10
 refine any_pf (by repeat (first | exact PF.base | apply PF.then_ | apply PF.blk)) ?_
 intro hPF hns
 obtain ⟨r15, hr16, hF⟩ := bindS hF
 refine any_memo (fuel := 2) (m := 7) (fun a w => ∃ (T0 : Fr) (G1 : Ghost) (v63 : Value) (A65 : Option Addr) (c66 : Nat), a = mk 7 (upds T0 [(2, (pt b5)), (3, v63), (5, (.slice A65 r15.length c66))]) ∧ GLe G G1 ∧ St c G1 w ((.box b5 29 (kTNego.at_ zTNego)) :: σ) ∧ kTRule.V G1 v63 a0 ∧ SlR kTOpt G1 A65 c66 r15) ?_ ?_
 ·rintro a w ⟨T0, G62, v63, A65, c66, rfl, hG60, H61, hv64, hs67⟩
  refine any_rnE (i := 3) (m' := 15) rfl (rn_build (G := G62) zr29 rfl bs29 rfl (Parts.cons fo29_1 lTNego_R hv64 (Parts.cons fo29_2 lTNego_Ours (slice_toV hs67) (Parts.nil _)))) hPF hns ?_
  intro v72 hv73
  refine any_alls [4] ⟨any_ops (m' := 31) fun Q' hN => ?_, trivial⟩
  refine wl_store (z := (TNego.mk zTNego.A a0 r15 zTNego.Naks zTNego.Peer)) H61 (i := 0) rfl (Lens.id kTNego) ty29 rfl rfl hv73 ?_
  intro w75 H74
  refine wl_nil (hN _ _ ?_)
  refine any_end ?_
  refine then_n ?_
  refine wp_ret ?_
  obtain ⟨v76, hv77, hl78⟩ := H74.loadv (i := 0) rfl ty29
  have hF := Option.some.inj hF
  subst hF
  exact ret_mk rfl (RV.cell rfl hl78 RV.nil) ⟨_, v76, hG60, rfl, (St.pick [(.box b5 29 (kTNego.at_ (TNego.mk zTNego.A a0 r15 zTNego.Naks zTNego.Peer)))] [] [] H74 (by decide) rfl), hv77⟩
 intro hM59
 refine any_memo (fuel := 3) (m := 3) (fun a w => ∃ (T0 : Fr) (G1 : Ghost) (v47 : Value) (v49 : Value), a = mk 7 (upds T0 [(2, (pt b5)), (3, v47), (4, v49)]) ∧ GLe G G1 ∧ St c G1 w ((.box b5 29 (kTNego.at_ zTNego)) :: σ) ∧ kTRule.V G1 v47 a0 ∧ kTRule.V G1 v49 a0) ?_ ?_
 ·rintro a w ⟨T0, G46, v47, v49, rfl, hG44, H45, hv48, hv50⟩
  refine any_alls [2] ⟨any_ops (m' := 7) fun Q' hN => ?_, trivial⟩
  refine wl_call (vs := [v49]) en38 rfl (rules_Ask_ok hc hv50 H45 hr16) ?_
  rintro v83 w82 ⟨G79, A84, c85, hG80, rfl, H81, hs86⟩
  refine wl_nil (hN _ _ ?_)
  exact hM59 _ _ ⟨_, _, v47, A84, c85, frame_eq [(2, (pt b5)), (3, v47), (5, (.slice A84 r15.length c85))] ⟨rfl, rfl, rfl, trivial⟩, (hG44.trans hG80), H81, (hv48.mono hG80), hs86⟩
 intro hM43
 refine any_alls [0, 1] ⟨?_, ?_, trivial⟩
 ·refine any_ops (m' := 1) fun Q' hN => ?_
  refine wl_load H10 (i := 1) rfl (Lens.id kTRule) ty26 rfl ?_
  intro v87 hv88
  refine wl_nil (hN _ _ ?_)
  refine any_alls [1] ⟨any_ops (m' := 3) fun Q' hN => ?_, trivial⟩
  refine wl_load H10 (i := 1) rfl (Lens.id kTRule) ty26 rfl ?_
  intro v89 hv90
  refine wl_nil (hN _ _ ?_)
  exact hM43 _ _ ⟨_, _, v87, v89, frame_eq [(2, (pt b5)), (3, v87), (4, v89)] ⟨rfl, rfl, rfl, trivial⟩, GLe.refl _, (St.pick [(.box b5 29 (kTNego.at_ zTNego)), (.box b1 26 (kTRule.at_ a0))] [(.box b5 29 (kTNego.at_ zTNego))] [0] H10 (by decide) rfl), hv88, hv90⟩
 ·refine any_ops (m' := 2) fun Q' hN => ?_
  refine wl_load H10 (i := 1) rfl (Lens.id kTRule) ty26 rfl ?_
  intro v91 hv92
  refine wl_nil (hN _ _ ?_)
  refine any_alls [0, 2] ⟨?_, ?_, trivial⟩
  ·refine any_ops (m' := 3) fun Q' hN => ?_
   refine wl_load H10 (i := 1) rfl (Lens.id kTRule) ty26 rfl ?_
   intro v93 hv94
   refine wl_nil (hN _ _ ?_)
   exact hM43 _ _ ⟨_, _, v93, v91, frame_eq [(2, (pt b5)), (3, v93), (4, v91)] ⟨rfl, rfl, rfl, trivial⟩, GLe.refl _, (St.pick [(.box b5 29 (kTNego.at_ zTNego)), (.box b1 26 (kTRule.at_ a0))] [(.box b5 29 (kTNego.at_ zTNego))] [0] H10 (by decide) rfl), hv94, hv92⟩
  ·refine any_ops (m' := 6) fun Q' hN => ?_
   refine wl_call (vs := [v91]) en38 rfl (rules_Ask_ok hc hv92 H10 hr16) ?_
   rintro v99 w98 ⟨G95, A100, c101, hG96, rfl, H97, hs102⟩
   refine wl_nil (hN _ _ ?_)
   refine any_alls [0] ⟨any_ops (m' := 7) fun Q' hN => ?_, trivial⟩
   refine wl_load H97 (i := 1) rfl (Lens.id kTRule) ty26 rfl ?_
   intro v103 hv104
   refine wl_nil (hN _ _ ?_)
   exact hM59 _ _ ⟨_, _, v103, A100, c101, frame_eq [(2, (pt b5)), (3, v103), (5, (.slice A100 r15.length c101))] ⟨rfl, rfl, rfl, trivial⟩, hG96, (St.pick [(.box b5 29 (kTNego.at_ zTNego)), (.box b1 26 (kTRule.at_ a0))] [(.box b5 29 (kTNego.at_ zTNego))] [0] H97 (by decide) rfl), hv104, hs102⟩

theorem fsm_letters_ok {c : World} (hc : Hc c) {G : Ghost} {w : World} {σ : List Ent}   (H : St c G w (σ)) {r : Unit} (hF : fsm_letters = some r) :
  Calls Tryd.prog 83 ([] : List Value).toArray w (Ends fun v w' => ∃ (G' : Ghost) (r1' : Nat), GLe G G' ∧ tup [(.map (some r1'))] = v ∧ St c G' w' ((.mp r1' [⟨.int .i32 117, (.int .i64 1), 0⟩, ⟨.int .i32 100, (.int .i64 2), 1⟩, ⟨.int .i32 116, (.int .i64 3), 2⟩, ⟨.int .i32 102, (.int .i64 4), 3⟩, ⟨.int .i32 105, (.int .i64 5), 4⟩, ⟨.int .i32 122, (.int .i64 6), 5⟩, ⟨.int .i32 114, (.int .i64 7), 6⟩, ⟨.int .i32 97, (.int .i64 8), 7⟩, ⟨.int .i32 110, (.int .i64 9), 8⟩, ⟨.int .i32 115, (.int .i64 10), 9⟩, ⟨.int .i32 107, (.int .i64 11), 10⟩, ⟨.int .i32 106, (.int .i64 12), 11⟩, ⟨.int .i32 101, (.int .i64 13), 12⟩] 13) :: σ)) := by
 unfold fsm_letters at hF
 refine calls_mk Tryd.func83 rfl rfl rfl ?_
 refine wp_seq (wc_region ?_)
 refine wl_rn (rn_pure (.map none) rfl) ?_
 refine wl_nil (then_n (wp_seq (wc_region ?_)))
 refine wl_makeMap H ?_
 intro r1 w2 H3
 refine wl_insert (key := (.int .i32 117)) (val := (.int .i64 1)) H3 (i := 0) rfl mt119 un21 rfl rfl rfl (by simp [Go.MapKept.IsKey]) rfl ?_
 intro w5 H6
 have H7 : St c G w5 ((.mp r1 [⟨.int .i32 117, (.int .i64 1), 0⟩] 1) :: σ) := H6
 refine wl_insert (key := (.int .i32 100)) (val := (.int .i64 2)) H7 (i := 0) rfl mt119 un21 rfl rfl rfl (by simp [Go.MapKept.IsKey]) rfl ?_
 intro w8 H9
 have H10 : St c G w8 ((.mp r1 [⟨.int .i32 117, (.int .i64 1), 0⟩, ⟨.int .i32 100, (.int .i64 2), 1⟩] 2) :: σ) := H9
 refine wl_insert (key := (.int .i32 116)) (val := (.int .i64 3)) H10 (i := 0) rfl mt119 un21 rfl rfl rfl (by simp [Go.MapKept.IsKey]) rfl ?_
 intro w11 H12
 have H13 : St c G w11 ((.mp r1 [⟨.int .i32 117, (.int .i64 1), 0⟩, ⟨.int .i32 100, (.int .i64 2), 1⟩, ⟨.int .i32 116, (.int .i64 3), 2⟩] 3) :: σ) := H12
 refine wl_insert (key := (.int .i32 102)) (val := (.int .i64 4)) H13 (i := 0) rfl mt119 un21 rfl rfl rfl (by simp [Go.MapKept.IsKey]) rfl ?_
 intro w14 H15
 have H16 : St c G w14 ((.mp r1 [⟨.int .i32 117, (.int .i64 1), 0⟩, ⟨.int .i32 100, (.int .i64 2), 1⟩, ⟨.int .i32 116, (.int .i64 3), 2⟩, ⟨.int .i32 102, (.int .i64 4), 3⟩] 4) :: σ) := H15
 refine wl_insert (key := (.int .i32 105)) (val := (.int .i64 5)) H16 (i := 0) rfl mt119 un21 rfl rfl rfl (by simp [Go.MapKept.IsKey]) rfl ?_
 intro w17 H18
 have H19 : St c G w17 ((.mp r1 [⟨.int .i32 117, (.int .i64 1), 0⟩, ⟨.int .i32 100, (.int .i64 2), 1⟩, ⟨.int .i32 116, (.int .i64 3), 2⟩, ⟨.int .i32 102, (.int .i64 4), 3⟩, ⟨.int .i32 105, (.int .i64 5), 4⟩] 5) :: σ) := H18
 refine wl_insert (key := (.int .i32 122)) (val := (.int .i64 6)) H19 (i := 0) rfl mt119 un21 rfl rfl rfl (by simp [Go.MapKept.IsKey]) rfl ?_
 intro w20 H21
 have H22 : St c G w20 ((.mp r1 [⟨.int .i32 117, (.int .i64 1), 0⟩, ⟨.int .i32 100, (.int .i64 2), 1⟩, ⟨.int .i32 116, (.int .i64 3), 2⟩, ⟨.int .i32 102, (.int .i64 4), 3⟩, ⟨.int .i32 105, (.int .i64 5), 4⟩, ⟨.int .i32 122, (.int .i64 6), 5⟩] 6) :: σ) := H21
 refine wl_insert (key := (.int .i32 114)) (val := (.int .i64 7)) H22 (i := 0) rfl mt119 un21 rfl rfl rfl (by simp [Go.MapKept.IsKey]) rfl ?_
 intro w23 H24
 have H25 : St c G w23 ((.mp r1 [⟨.int .i32 117, (.int .i64 1), 0⟩, ⟨.int .i32 100, (.int .i64 2), 1⟩, ⟨.int .i32 116, (.int .i64 3), 2⟩, ⟨.int .i32 102, (.int .i64 4), 3⟩, ⟨.int .i32 105, (.int .i64 5), 4⟩, ⟨.int .i32 122, (.int .i64 6), 5⟩, ⟨.int .i32 114, (.int .i64 7), 6⟩] 7) :: σ) := H24
 refine wl_insert (key := (.int .i32 97)) (val := (.int .i64 8)) H25 (i := 0) rfl mt119 un21 rfl rfl rfl (by simp [Go.MapKept.IsKey]) rfl ?_
 intro w26 H27
 have H28 : St c G w26 ((.mp r1 [⟨.int .i32 117, (.int .i64 1), 0⟩, ⟨.int .i32 100, (.int .i64 2), 1⟩, ⟨.int .i32 116, (.int .i64 3), 2⟩, ⟨.int .i32 102, (.int .i64 4), 3⟩, ⟨.int .i32 105, (.int .i64 5), 4⟩, ⟨.int .i32 122, (.int .i64 6), 5⟩, ⟨.int .i32 114, (.int .i64 7), 6⟩, ⟨.int .i32 97, (.int .i64 8), 7⟩] 8) :: σ) := H27
 refine wl_insert (key := (.int .i32 110)) (val := (.int .i64 9)) H28 (i := 0) rfl mt119 un21 rfl rfl rfl (by simp [Go.MapKept.IsKey]) rfl ?_
 intro w29 H30
 have H31 : St c G w29 ((.mp r1 [⟨.int .i32 117, (.int .i64 1), 0⟩, ⟨.int .i32 100, (.int .i64 2), 1⟩, ⟨.int .i32 116, (.int .i64 3), 2⟩, ⟨.int .i32 102, (.int .i64 4), 3⟩, ⟨.int .i32 105, (.int .i64 5), 4⟩, ⟨.int .i32 122, (.int .i64 6), 5⟩, ⟨.int .i32 114, (.int .i64 7), 6⟩, ⟨.int .i32 97, (.int .i64 8), 7⟩, ⟨.int .i32 110, (.int .i64 9), 8⟩] 9) :: σ) := H30
 refine wl_insert (key := (.int .i32 115)) (val := (.int .i64 10)) H31 (i := 0) rfl mt119 un21 rfl rfl rfl (by simp [Go.MapKept.IsKey]) rfl ?_
 intro w32 H33
 have H34 : St c G w32 ((.mp r1 [⟨.int .i32 117, (.int .i64 1), 0⟩, ⟨.int .i32 100, (.int .i64 2), 1⟩, ⟨.int .i32 116, (.int .i64 3), 2⟩, ⟨.int .i32 102, (.int .i64 4), 3⟩, ⟨.int .i32 105, (.int .i64 5), 4⟩, ⟨.int .i32 122, (.int .i64 6), 5⟩, ⟨.int .i32 114, (.int .i64 7), 6⟩, ⟨.int .i32 97, (.int .i64 8), 7⟩, ⟨.int .i32 110, (.int .i64 9), 8⟩, ⟨.int .i32 115, (.int .i64 10), 9⟩] 10) :: σ) := H33
 refine wl_insert (key := (.int .i32 107)) (val := (.int .i64 11)) H34 (i := 0) rfl mt119 un21 rfl rfl rfl (by simp [Go.MapKept.IsKey]) rfl ?_
 intro w35 H36
 have H37 : St c G w35 ((.mp r1 [⟨.int .i32 117, (.int .i64 1), 0⟩, ⟨.int .i32 100, (.int .i64 2), 1⟩, ⟨.int .i32 116, (.int .i64 3), 2⟩, ⟨.int .i32 102, (.int .i64 4), 3⟩, ⟨.int .i32 105, (.int .i64 5), 4⟩, ⟨.int .i32 122, (.int .i64 6), 5⟩, ⟨.int .i32 114, (.int .i64 7), 6⟩, ⟨.int .i32 97, (.int .i64 8), 7⟩, ⟨.int .i32 110, (.int .i64 9), 8⟩, ⟨.int .i32 115, (.int .i64 10), 9⟩, ⟨.int .i32 107, (.int .i64 11), 10⟩] 11) :: σ) := H36
 refine wl_insert (key := (.int .i32 106)) (val := (.int .i64 12)) H37 (i := 0) rfl mt119 un21 rfl rfl rfl (by simp [Go.MapKept.IsKey]) rfl ?_
 intro w38 H39
 have H40 : St c G w38 ((.mp r1 [⟨.int .i32 117, (.int .i64 1), 0⟩, ⟨.int .i32 100, (.int .i64 2), 1⟩, ⟨.int .i32 116, (.int .i64 3), 2⟩, ⟨.int .i32 102, (.int .i64 4), 3⟩, ⟨.int .i32 105, (.int .i64 5), 4⟩, ⟨.int .i32 122, (.int .i64 6), 5⟩, ⟨.int .i32 114, (.int .i64 7), 6⟩, ⟨.int .i32 97, (.int .i64 8), 7⟩, ⟨.int .i32 110, (.int .i64 9), 8⟩, ⟨.int .i32 115, (.int .i64 10), 9⟩, ⟨.int .i32 107, (.int .i64 11), 10⟩, ⟨.int .i32 106, (.int .i64 12), 11⟩] 12) :: σ) := H39
 refine wl_insert (key := (.int .i32 101)) (val := (.int .i64 13)) H40 (i := 0) rfl mt119 un21 rfl rfl rfl (by simp [Go.MapKept.IsKey]) rfl ?_
 intro w41 H42
 have H43 : St c G w41 ((.mp r1 [⟨.int .i32 117, (.int .i64 1), 0⟩, ⟨.int .i32 100, (.int .i64 2), 1⟩, ⟨.int .i32 116, (.int .i64 3), 2⟩, ⟨.int .i32 102, (.int .i64 4), 3⟩, ⟨.int .i32 105, (.int .i64 5), 4⟩, ⟨.int .i32 122, (.int .i64 6), 5⟩, ⟨.int .i32 114, (.int .i64 7), 6⟩, ⟨.int .i32 97, (.int .i64 8), 7⟩, ⟨.int .i32 110, (.int .i64 9), 8⟩, ⟨.int .i32 115, (.int .i64 10), 9⟩, ⟨.int .i32 107, (.int .i64 11), 10⟩, ⟨.int .i32 106, (.int .i64 12), 11⟩, ⟨.int .i32 101, (.int .i64 13), 12⟩] 13) :: σ) := H42
 iterate 2 refine wl_rn (rn_pure (.map (some r1)) rfl) ?_
 refine wl_nil (then_n ?_)
 refine wp_ret ?_
 have hF := Option.some.inj hF
 subst hF
 exact ret_mk rfl (RV.tmp rfl RV.nil) ⟨_, r1, GLe.refl _, rfl, H43⟩

theorem fsm_table_ok {c : World} (hc : Hc c) {G : Ghost} {w : World} {σ : List Ent}   (H : St c G w (σ)) {r : (List ByteArray)} (hF : fsm_table = some r) :
  Calls Tryd.prog 85 ([] : List Value).toArray w (Ends fun v w' => ∃ (G' : Ghost) (v1' : Value), GLe G G' ∧ tup [v1'] = v ∧ St c G' w' (σ) ∧ (Kd.arr 16 Kd.str).V G' v1' r) := by
 unfold fsm_table at hF
 refine calls_mk Tryd.func85 rfl rfl rfl ?_
 refine wp_seq (wc_region ?_)
 refine wl_alloc H zr123 ?_
 intro b1 w4 H2
 refine wl_nil (then_n (wp_seq (wc_region ?_)))
 refine wl_rnE (rn_arr (G := G) (K := Kd.str) (vs := [(.string (⟨#[50, 32, 105, 114, 54, 32, 45, 32, 45, 32, 45, 32, 45, 32, 45, 32, 45, 32, 45, 32, 45]⟩ : ByteArray)), (.string (⟨#[45, 32, 45, 32, 48, 32, 116, 49, 32, 48, 32, 49, 32, 49, 32, 49, 32, 49, 32, 100, 49]⟩ : ByteArray)), (.string (⟨#[116, 49, 32, 49, 32, 105, 114, 54, 32, 51, 32, 53, 32, 53, 32, 54, 32, 55, 32, 56, 32, 57]⟩ : ByteArray)), (.string (⟨#[48, 32, 102, 48, 32, 50, 32, 50, 32, 52, 32, 52, 32, 105, 115, 52, 32, 105, 115, 52, 32, 105, 115, 52, 32, 100, 105, 115, 52]⟩ : ByteArray)), (.string (⟨#[45, 32, 45, 32, 45, 32, 45, 32, 115, 52, 32, 115, 53, 32, 114, 54, 32, 114, 54, 32, 114, 56, 32, 45]⟩ : ByteArray)), (.string (⟨#[45, 32, 45, 32, 45, 32, 45, 32, 102, 50, 32, 102, 51, 32, 102, 51, 32, 102, 51, 32, 102, 51, 32, 45]⟩ : ByteArray)), (.string (⟨#[45, 32, 45, 32, 107, 50, 32, 105, 114, 97, 56, 32, 52, 32, 53, 32, 97, 56, 32, 97, 117, 57, 32, 97, 56, 32, 100, 114, 97, 56]⟩ : ByteArray)), (.string (⟨#[45, 32, 45, 32, 107, 50, 32, 105, 114, 110, 54, 32, 52, 32, 53, 32, 110, 54, 32, 110, 55, 32, 110, 54, 32, 100, 114, 110, 54]⟩ : ByteArray)), (.string (⟨#[45, 32, 45, 32, 107, 50, 32, 107, 51, 32, 52, 32, 53, 32, 105, 55, 32, 114, 54, 32, 105, 117, 57, 32, 100, 114, 54]⟩ : ByteArray)), (.string (⟨#[45, 32, 45, 32, 107, 50, 32, 107, 51, 32, 52, 32, 53, 32, 105, 114, 54, 32, 114, 54, 32, 105, 114, 56, 32, 100, 114, 54]⟩ : ByteArray)), (.string (⟨#[45, 32, 45, 32, 107, 50, 32, 107, 51, 32, 107, 52, 32, 107, 53, 32, 107, 54, 32, 107, 54, 32, 107, 54, 32, 100, 122, 107, 53]⟩ : ByteArray)), (.string (⟨#[45, 32, 45, 32, 50, 32, 51, 32, 102, 50, 32, 102, 51, 32, 54, 32, 54, 32, 56, 32, 100, 114, 54]⟩ : ByteArray)), (.string (⟨#[45, 32, 45, 32, 106, 50, 32, 106, 51, 32, 106, 52, 32, 106, 53, 32, 106, 54, 32, 106, 55, 32, 106, 56, 32, 106, 57]⟩ : ByteArray)), (.string (⟨#[45, 32, 45, 32, 50, 32, 51, 32, 52, 32, 53, 32, 54, 32, 54, 32, 56, 32, 57]⟩ : ByteArray)), (.string (⟨#[45, 32, 45, 32, 102, 50, 32, 102, 51, 32, 102, 50, 32, 102, 51, 32, 102, 51, 32, 102, 51, 32, 102, 51, 32, 100, 105, 115, 53]⟩ : ByteArray)), (.string (⟨#[45, 32, 45, 32, 50, 32, 51, 32, 52, 32, 53, 32, 54, 32, 55, 32, 56, 32, 101, 57]⟩ : ByteArray))]) (xs := ([(⟨#[50, 32, 105, 114, 54, 32, 45, 32, 45, 32, 45, 32, 45, 32, 45, 32, 45, 32, 45, 32, 45]⟩ : ByteArray), (⟨#[45, 32, 45, 32, 48, 32, 116, 49, 32, 48, 32, 49, 32, 49, 32, 49, 32, 49, 32, 100, 49]⟩ : ByteArray), (⟨#[116, 49, 32, 49, 32, 105, 114, 54, 32, 51, 32, 53, 32, 53, 32, 54, 32, 55, 32, 56, 32, 57]⟩ : ByteArray), (⟨#[48, 32, 102, 48, 32, 50, 32, 50, 32, 52, 32, 52, 32, 105, 115, 52, 32, 105, 115, 52, 32, 105, 115, 52, 32, 100, 105, 115, 52]⟩ : ByteArray), (⟨#[45, 32, 45, 32, 45, 32, 45, 32, 115, 52, 32, 115, 53, 32, 114, 54, 32, 114, 54, 32, 114, 56, 32, 45]⟩ : ByteArray), (⟨#[45, 32, 45, 32, 45, 32, 45, 32, 102, 50, 32, 102, 51, 32, 102, 51, 32, 102, 51, 32, 102, 51, 32, 45]⟩ : ByteArray), (⟨#[45, 32, 45, 32, 107, 50, 32, 105, 114, 97, 56, 32, 52, 32, 53, 32, 97, 56, 32, 97, 117, 57, 32, 97, 56, 32, 100, 114, 97, 56]⟩ : ByteArray), (⟨#[45, 32, 45, 32, 107, 50, 32, 105, 114, 110, 54, 32, 52, 32, 53, 32, 110, 54, 32, 110, 55, 32, 110, 54, 32, 100, 114, 110, 54]⟩ : ByteArray), (⟨#[45, 32, 45, 32, 107, 50, 32, 107, 51, 32, 52, 32, 53, 32, 105, 55, 32, 114, 54, 32, 105, 117, 57, 32, 100, 114, 54]⟩ : ByteArray), (⟨#[45, 32, 45, 32, 107, 50, 32, 107, 51, 32, 52, 32, 53, 32, 105, 114, 54, 32, 114, 54, 32, 105, 114, 56, 32, 100, 114, 54]⟩ : ByteArray), (⟨#[45, 32, 45, 32, 107, 50, 32, 107, 51, 32, 107, 52, 32, 107, 53, 32, 107, 54, 32, 107, 54, 32, 107, 54, 32, 100, 122, 107, 53]⟩ : ByteArray), (⟨#[45, 32, 45, 32, 50, 32, 51, 32, 102, 50, 32, 102, 51, 32, 54, 32, 54, 32, 56, 32, 100, 114, 54]⟩ : ByteArray), (⟨#[45, 32, 45, 32, 106, 50, 32, 106, 51, 32, 106, 52, 32, 106, 53, 32, 106, 54, 32, 106, 55, 32, 106, 56, 32, 106, 57]⟩ : ByteArray), (⟨#[45, 32, 45, 32, 50, 32, 51, 32, 52, 32, 53, 32, 54, 32, 54, 32, 56, 32, 57]⟩ : ByteArray), (⟨#[45, 32, 45, 32, 102, 50, 32, 102, 51, 32, 102, 50, 32, 102, 51, 32, 102, 51, 32, 102, 51, 32, 102, 51, 32, 100, 105, 115, 53]⟩ : ByteArray), (⟨#[45, 32, 45, 32, 50, 32, 51, 32, 52, 32, 53, 32, 54, 32, 55, 32, 56, 32, 101, 57]⟩ : ByteArray)] : (List ByteArray))) zr123 ar123 ty9 rfl ⟨(dStr.toV _ _), (dStr.toV _ _), (dStr.toV _ _), (dStr.toV _ _), (dStr.toV _ _), (dStr.toV _ _), (dStr.toV _ _), (dStr.toV _ _), (dStr.toV _ _), (dStr.toV _ _), (dStr.toV _ _), (dStr.toV _ _), (dStr.toV _ _), (dStr.toV _ _), (dStr.toV _ _), (dStr.toV _ _), trivial⟩ rfl) ?_
 intro v5 hv6
 refine wl_store (z := ([(⟨#[50, 32, 105, 114, 54, 32, 45, 32, 45, 32, 45, 32, 45, 32, 45, 32, 45, 32, 45, 32, 45]⟩ : ByteArray), (⟨#[45, 32, 45, 32, 48, 32, 116, 49, 32, 48, 32, 49, 32, 49, 32, 49, 32, 49, 32, 100, 49]⟩ : ByteArray), (⟨#[116, 49, 32, 49, 32, 105, 114, 54, 32, 51, 32, 53, 32, 53, 32, 54, 32, 55, 32, 56, 32, 57]⟩ : ByteArray), (⟨#[48, 32, 102, 48, 32, 50, 32, 50, 32, 52, 32, 52, 32, 105, 115, 52, 32, 105, 115, 52, 32, 105, 115, 52, 32, 100, 105, 115, 52]⟩ : ByteArray), (⟨#[45, 32, 45, 32, 45, 32, 45, 32, 115, 52, 32, 115, 53, 32, 114, 54, 32, 114, 54, 32, 114, 56, 32, 45]⟩ : ByteArray), (⟨#[45, 32, 45, 32, 45, 32, 45, 32, 102, 50, 32, 102, 51, 32, 102, 51, 32, 102, 51, 32, 102, 51, 32, 45]⟩ : ByteArray), (⟨#[45, 32, 45, 32, 107, 50, 32, 105, 114, 97, 56, 32, 52, 32, 53, 32, 97, 56, 32, 97, 117, 57, 32, 97, 56, 32, 100, 114, 97, 56]⟩ : ByteArray), (⟨#[45, 32, 45, 32, 107, 50, 32, 105, 114, 110, 54, 32, 52, 32, 53, 32, 110, 54, 32, 110, 55, 32, 110, 54, 32, 100, 114, 110, 54]⟩ : ByteArray), (⟨#[45, 32, 45, 32, 107, 50, 32, 107, 51, 32, 52, 32, 53, 32, 105, 55, 32, 114, 54, 32, 105, 117, 57, 32, 100, 114, 54]⟩ : ByteArray), (⟨#[45, 32, 45, 32, 107, 50, 32, 107, 51, 32, 52, 32, 53, 32, 105, 114, 54, 32, 114, 54, 32, 105, 114, 56, 32, 100, 114, 54]⟩ : ByteArray), (⟨#[45, 32, 45, 32, 107, 50, 32, 107, 51, 32, 107, 52, 32, 107, 53, 32, 107, 54, 32, 107, 54, 32, 107, 54, 32, 100, 122, 107, 53]⟩ : ByteArray), (⟨#[45, 32, 45, 32, 50, 32, 51, 32, 102, 50, 32, 102, 51, 32, 54, 32, 54, 32, 56, 32, 100, 114, 54]⟩ : ByteArray), (⟨#[45, 32, 45, 32, 106, 50, 32, 106, 51, 32, 106, 52, 32, 106, 53, 32, 106, 54, 32, 106, 55, 32, 106, 56, 32, 106, 57]⟩ : ByteArray), (⟨#[45, 32, 45, 32, 50, 32, 51, 32, 52, 32, 53, 32, 54, 32, 54, 32, 56, 32, 57]⟩ : ByteArray), (⟨#[45, 32, 45, 32, 102, 50, 32, 102, 51, 32, 102, 50, 32, 102, 51, 32, 102, 51, 32, 102, 51, 32, 102, 51, 32, 100, 105, 115, 53]⟩ : ByteArray), (⟨#[45, 32, 45, 32, 50, 32, 51, 32, 52, 32, 53, 32, 54, 32, 55, 32, 56, 32, 101, 57]⟩ : ByteArray)] : (List ByteArray))) H2 (i := 0) rfl (Lens.id (Kd.arr 16 Kd.str)) ty123 rfl rfl hv6 ?_
 intro w8 H7
 refine wl_nil (then_n ?_)
 refine wp_ret ?_
 obtain ⟨v9, hv10, hl11⟩ := H7.loadv (i := 0) rfl ty123
 have hF := Option.some.inj hF
 subst hF
 exact ret_mk rfl (RV.cell rfl hl11 RV.nil) ⟨_, v9, GLe.refl _, rfl, (St.pick [(.box b1 123 ((Kd.arr 16 Kd.str).at_ ([(⟨#[50, 32, 105, 114, 54, 32, 45, 32, 45, 32, 45, 32, 45, 32, 45, 32, 45, 32, 45, 32, 45]⟩ : ByteArray), (⟨#[45, 32, 45, 32, 48, 32, 116, 49, 32, 48, 32, 49, 32, 49, 32, 49, 32, 49, 32, 100, 49]⟩ : ByteArray), (⟨#[116, 49, 32, 49, 32, 105, 114, 54, 32, 51, 32, 53, 32, 53, 32, 54, 32, 55, 32, 56, 32, 57]⟩ : ByteArray), (⟨#[48, 32, 102, 48, 32, 50, 32, 50, 32, 52, 32, 52, 32, 105, 115, 52, 32, 105, 115, 52, 32, 105, 115, 52, 32, 100, 105, 115, 52]⟩ : ByteArray), (⟨#[45, 32, 45, 32, 45, 32, 45, 32, 115, 52, 32, 115, 53, 32, 114, 54, 32, 114, 54, 32, 114, 56, 32, 45]⟩ : ByteArray), (⟨#[45, 32, 45, 32, 45, 32, 45, 32, 102, 50, 32, 102, 51, 32, 102, 51, 32, 102, 51, 32, 102, 51, 32, 45]⟩ : ByteArray), (⟨#[45, 32, 45, 32, 107, 50, 32, 105, 114, 97, 56, 32, 52, 32, 53, 32, 97, 56, 32, 97, 117, 57, 32, 97, 56, 32, 100, 114, 97, 56]⟩ : ByteArray), (⟨#[45, 32, 45, 32, 107, 50, 32, 105, 114, 110, 54, 32, 52, 32, 53, 32, 110, 54, 32, 110, 55, 32, 110, 54, 32, 100, 114, 110, 54]⟩ : ByteArray), (⟨#[45, 32, 45, 32, 107, 50, 32, 107, 51, 32, 52, 32, 53, 32, 105, 55, 32, 114, 54, 32, 105, 117, 57, 32, 100, 114, 54]⟩ : ByteArray), (⟨#[45, 32, 45, 32, 107, 50, 32, 107, 51, 32, 52, 32, 53, 32, 105, 114, 54, 32, 114, 54, 32, 105, 114, 56, 32, 100, 114, 54]⟩ : ByteArray), (⟨#[45, 32, 45, 32, 107, 50, 32, 107, 51, 32, 107, 52, 32, 107, 53, 32, 107, 54, 32, 107, 54, 32, 107, 54, 32, 100, 122, 107, 53]⟩ : ByteArray), (⟨#[45, 32, 45, 32, 50, 32, 51, 32, 102, 50, 32, 102, 51, 32, 54, 32, 54, 32, 56, 32, 100, 114, 54]⟩ : ByteArray), (⟨#[45, 32, 45, 32, 106, 50, 32, 106, 51, 32, 106, 52, 32, 106, 53, 32, 106, 54, 32, 106, 55, 32, 106, 56, 32, 106, 57]⟩ : ByteArray), (⟨#[45, 32, 45, 32, 50, 32, 51, 32, 52, 32, 53, 32, 54, 32, 54, 32, 56, 32, 57]⟩ : ByteArray), (⟨#[45, 32, 45, 32, 102, 50, 32, 102, 51, 32, 102, 50, 32, 102, 51, 32, 102, 51, 32, 102, 51, 32, 102, 51, 32, 100, 105, 115, 53]⟩ : ByteArray), (⟨#[45, 32, 45, 32, 50, 32, 51, 32, 52, 32, 53, 32, 54, 32, 55, 32, 56, 32, 101, 57]⟩ : ByteArray)] : (List ByteArray))))] [] [] H7 (by decide) rfl), hv10⟩

theorem fsm_Next_ok {c : World} (hc : Hc c) {G : Ghost} {w : World} {σ : List Ent} {a0 : Int} {a1 : Int}  (H : St c G w (σ)) {r : ((List Int) × Int × Bool)} (hF : fsm_Next a0 a1 = some r) :
  Calls Tryd.prog 69 ([(.int .i64 a0), (.int .i64 a1)] : List Value).toArray w (Ends fun v w' => ∃ (G' : Ghost) (A1' : Option Addr) (c2' : Nat), GLe G G' ∧ tup [(.slice A1' r.1.length c2'), (.int .i64 r.2.1), (.bool r.2.2)] = v ∧ St c G' w' (σ) ∧ SlR kI G' A1' c2' r.1) := by
 unfold fsm_Next at hF
 refine calls_mk Tryd.func69 rfl rfl rfl ?_
 refine wp_seq (wc_region ?_)
 refine wl_rn (rn_pure (.slice none 0 0) rfl) ?_
 refine wl_rn (rn_pure (.int .i64 0) rfl) ?_
 refine wl_rn (rn_pure (.bool false) rfl) ?_
 refine wl_nil (then_n ?_)
 refine wp_seq ?_
 refine wp_seq (join (fun a w => ∃ (T0 : Fr) (G1 : Ghost) (x4 : Bool), a = mk 60 (upds T0 [(0, (.int .i64 a0)), (1, (.int .i64 a1)), (24, (.bool x4))]) ∧ GLe G G1 ∧ St c G1 w (σ) ∧ fsm_Next_j1 a0 a1 x4 = some r) ?_ ?_)
 ·rintro a w ⟨T0, G7, x4, rfl, hG5, H6, hF⟩
  rcases bcases x4 with hb8 | hb8
  ·replace hF := ifT hF hb8
   refine wc_true (vb hb8) ?_
   refine wp_seq (wc_region ?_)
   refine wl_rn (rn_pure (.int .i64 a0) rfl) ?_
   refine wl_rn (rn_pure (.slice none 0 0) rfl) ?_
   refine wl_rn (rn_pure (.int .i64 a0) rfl) ?_
   refine wl_rn (rn_pure (.bool false) rfl) ?_
   refine wl_nil (then_n ?_)
   refine wp_ret ?_
   refine then_r ?_
   have hF := Option.some.inj hF
   subst hF
   exact ret_mk rfl (RV.tmp rfl (RV.tmp rfl (RV.tmp rfl RV.nil))) ⟨_, none, 0, hG5, rfl, H6, (SlR.nil _ _)⟩
  ·replace hF := ifF hF hb8
   refine wc_false (vb hb8) ?_
   refine wp_skip ?_
   refine then_n ?_
   refine wp_seq (wc_region ?_)
   refine wl_rn (rn_pure (.slice none 0 0) rfl) ?_
   refine wl_nil (then_n (wp_seq (wc_region ?_)))
   obtain ⟨r9, hr10, hF⟩ := bindS hF
   refine wl_call (vs := []) en83 rfl (fsm_letters_ok hc H6 hr10) ?_
   rintro v15 w14 ⟨G11, r16, hG12, rfl, H13⟩
   refine wl_rn (rn_pure (.map (some r16)) rfl) ?_
   refine wl_nil (then_n ?_)
   refine wp_seq ?_
   refine wp_seq (wc_region ?_)
   obtain ⟨r18, hr19, hF⟩ := bindS hF
   refine wl_call (vs := []) en85 rfl (fsm_table_ok hc H13 hr19) ?_
   rintro v24 w23 ⟨G20, v25, hG21, rfl, H22, hv26⟩
   refine wl_rn (rn_pure (.int .i64 a1) rfl) ?_
   obtain ⟨x27, hx28, hF⟩ := bindS hF
   refine wl_rnE (rn_indexV ar123 ty9 rfl hv26 rfl hx28) ?_
   intro v29 hv30
   obtain rfl := Det.V dStr hv30
   obtain ⟨r31, hr32, hF⟩ := bindS hF
   refine wl_call (vs := [(.string x27)]) en84 rfl (flds_ok hc H22 hr32) ?_
   rintro v37 w36 ⟨G33, A38, c39, hG34, rfl, H35, hs40⟩
   refine wl_rn (rn_pure (.int .i64 a0) rfl) ?_
   obtain ⟨x41, hx42, hF⟩ := bindS hF
   refine wl_rnE (rn_index hs40 sl121 ty9 rfl rfl hx42) ?_
   intro a43 hp44
   refine wl_loadpd H35 hp44 dStr ty9 rfl ?_
   refine wl_range H35 un9 rfl ?_
   intro r45 w46 H47
   refine wl_nil (then_n ?_)
   refine wp_block ?_
   have H157 := H47.nilrow kI none 3
   refine wp_loopX (fun (s : ((List Int) × Nat)) a w => ∃ (T0 : Fr) (G1 : Ghost) (g117 : Option Nat) (A118 : Option Addr) (c119 : Nat), a = mk 60 (upds T0 [(0, (.int .i64 a0)), (7, (.slice A118 s.1.length c119)), (8, (.map (some r16))), (34, (pt r45))]) ∧ GLe G33 G1 ∧ St c G1 w ((.row kI g117 A118 c119 3 s.1) :: (.it r45 x41 s.2) :: (.mp r16 [⟨.int .i32 117, (.int .i64 1), 0⟩, ⟨.int .i32 100, (.int .i64 2), 1⟩, ⟨.int .i32 116, (.int .i64 3), 2⟩, ⟨.int .i32 102, (.int .i64 4), 3⟩, ⟨.int .i32 105, (.int .i64 5), 4⟩, ⟨.int .i32 122, (.int .i64 6), 5⟩, ⟨.int .i32 114, (.int .i64 7), 6⟩, ⟨.int .i32 97, (.int .i64 8), 7⟩, ⟨.int .i32 110, (.int .i64 9), 8⟩, ⟨.int .i32 115, (.int .i64 10), 9⟩, ⟨.int .i32 107, (.int .i64 11), 10⟩, ⟨.int .i32 106, (.int .i64 12), 11⟩, ⟨.int .i32 101, (.int .i64 13), 12⟩] 13) :: σ)) hF ?_ ?_
   ·exact ⟨_, _, none, none, 0, frame_eq [(0, (.int .i64 a0)), (7, (.slice none ([] : (List Int)).length 0)), (8, (.map (some r16))), (34, (pt r45))] ⟨rfl, rfl, rfl, rfl, trivial⟩, GLe.refl _, H157⟩
   ·rintro ⟨x116, x121⟩ a w y124 ⟨T0, G125, g117, A118, c119, rfl, hG122, H123⟩ hF hy49
    refine wp_seq (wc_region ?_)
    rcases bcases (decide (x121 < x41.size)) with hb126 | hb126
    ·replace hF := ifT hF hb126
     refine wl_nextT H123 (i := 1) rfl rfl hb126 ?_
     intro w127 H128
     refine wl_rn (rn_pure (.bool true) rfl) ?_
     refine wl_nil (then_n ?_)
     refine wp_seq ?_
     refine wc_true rfl ?_
     refine wp_skip ?_
     refine then_n ?_
     refine wp_block ?_
     refine wp_seq (wc_region ?_)
     iterate 2 refine wl_rn (rn_pure (.int .i32 ((nxt x41 x121).1)) rfl) ?_
     refine wl_nil (then_n ?_)
     refine wp_seq ?_
     refine wp_block ?_
     refine wp_seq (join (fun a w => ∃ (T0 : Fr) (G1 : Ghost) (x130 : (List Int)) (x135 : Bool) (g131 : Option Nat) (A132 : Option Addr) (c133 : Nat), a = mk 60 (upds T0 [(0, (.int .i64 a0)), (7, (.slice A132 x130.length c133)), (8, (.map (some r16))), (10, (.int .i32 ((nxt x41 x121).1))), (34, (pt r45)), (38, (.bool x135))]) ∧ GLe G125 G1 ∧ St c G1 w ((.row kI g131 A132 c133 3 x130) :: (.it r45 x41 ((nxt x41 x121).2)) :: (.mp r16 [⟨.int .i32 117, (.int .i64 1), 0⟩, ⟨.int .i32 100, (.int .i64 2), 1⟩, ⟨.int .i32 116, (.int .i64 3), 2⟩, ⟨.int .i32 102, (.int .i64 4), 3⟩, ⟨.int .i32 105, (.int .i64 5), 4⟩, ⟨.int .i32 122, (.int .i64 6), 5⟩, ⟨.int .i32 114, (.int .i64 7), 6⟩, ⟨.int .i32 97, (.int .i64 8), 7⟩, ⟨.int .i32 110, (.int .i64 9), 8⟩, ⟨.int .i32 115, (.int .i64 10), 9⟩, ⟨.int .i32 107, (.int .i64 11), 10⟩, ⟨.int .i32 106, (.int .i64 12), 11⟩, ⟨.int .i32 101, (.int .i64 13), 12⟩] 13) :: σ) ∧ fsm_Next_j3 a0 x41 x121 x130 x135 = some y124) ?_ ?_)
     ·rintro a w ⟨T0, G138, x130, x135, g131, A132, c133, rfl, hG136, H137, hF⟩
      rcases bcases x135 with hb139 | hb139
      ·replace hF := ifT hF hb139
       refine wc_true (vb hb139) ?_
       refine wp_seq (wc_region ?_)
       refine wl_rn (rn_pure (.slice A132 x130.length c133) rfl) ?_
       refine wl_rn (rn_pure (.int .i32 ((nxt x41 x121).1)) rfl) ?_
       refine wl_rn (rn_pure (.int .i32 (IntKind.i32.wrap ((nxt x41 x121).1 - 48))) rfl) ?_
       refine wl_rn (rn_convert un21 un3 rfl) ?_
       refine wl_rn (rn_pure (.slice A132 x130.length c133) rfl) ?_
       refine wl_rn (rn_pure (.int .i64 (IntKind.i64.wrap ((IntKind.i32.wrap ((nxt x41 x121).1 - 48))))) rfl) ?_
       refine wl_rn (rn_pure (.bool true) rfl) ?_
       refine wl_nil (then_n ?_)
       refine wp_ret ?_
       refine blk_r ?_
       refine then_r ?_
       refine blk_r ?_
       refine then_r ?_
       replace hF := exitS hF hy49
       refine blk_r ?_
       refine then_r ?_
       obtain ⟨G140, hG141, H142, hs143⟩ := H137.stay (i := 0) rfl (H137.capA (i := 0) rfl)
       have hF := Option.some.inj hF
       subst hF
       exact ret_mk rfl (RV.tmp rfl (RV.tmp rfl (RV.tmp rfl RV.nil))) ⟨_, A132, c133, ((((((hG5.trans hG12).trans hG21).trans hG34).trans hG122).trans hG136).trans hG141), rfl, (St.pick [(.it r45 x41 ((nxt x41 x121).2)), (.mp r16 [⟨.int .i32 117, (.int .i64 1), 0⟩, ⟨.int .i32 100, (.int .i64 2), 1⟩, ⟨.int .i32 116, (.int .i64 3), 2⟩, ⟨.int .i32 102, (.int .i64 4), 3⟩, ⟨.int .i32 105, (.int .i64 5), 4⟩, ⟨.int .i32 122, (.int .i64 6), 5⟩, ⟨.int .i32 114, (.int .i64 7), 6⟩, ⟨.int .i32 97, (.int .i64 8), 7⟩, ⟨.int .i32 110, (.int .i64 9), 8⟩, ⟨.int .i32 115, (.int .i64 10), 9⟩, ⟨.int .i32 107, (.int .i64 11), 10⟩, ⟨.int .i32 106, (.int .i64 12), 11⟩, ⟨.int .i32 101, (.int .i64 13), 12⟩] 13)] [] [] H142 (by decide) rfl), hs143⟩
      ·replace hF := ifF hF hb139
       refine wc_false (vb hb139) ?_
       refine wp_seq (wc_region ?_)
       refine wl_rn (rn_pure (.int .i32 ((nxt x41 x121).1)) rfl) ?_
       iterate 2 refine wl_rn (rn_pure (.bool ((nxt x41 x121).1 == 45)) rfl) ?_
       refine wl_nil (then_n ?_)
       rcases bcases ((nxt x41 x121).1 == 45) with hb144 | hb144
       ·replace hF := ifT hF hb144
        refine wc_true (vb hb144) ?_
        refine wp_seq (wc_region ?_)
        refine wl_rn (rn_pure (.int .i64 a0) rfl) ?_
        refine wl_rn (rn_pure (.slice none 0 0) rfl) ?_
        refine wl_rn (rn_pure (.int .i64 a0) rfl) ?_
        refine wl_rn (rn_pure (.bool false) rfl) ?_
        refine wl_nil (then_n ?_)
        refine wp_ret ?_
        refine blk_r ?_
        refine then_r ?_
        refine blk_r ?_
        refine then_r ?_
        replace hF := exitS hF hy49
        refine blk_r ?_
        refine then_r ?_
        have hF := Option.some.inj hF
        subst hF
        exact ret_mk rfl (RV.tmp rfl (RV.tmp rfl (RV.tmp rfl RV.nil))) ⟨_, none, 0, (((((hG5.trans hG12).trans hG21).trans hG34).trans hG122).trans hG136), rfl, (St.pick [(.row kI g131 A132 c133 3 x130), (.it r45 x41 ((nxt x41 x121).2)), (.mp r16 [⟨.int .i32 117, (.int .i64 1), 0⟩, ⟨.int .i32 100, (.int .i64 2), 1⟩, ⟨.int .i32 116, (.int .i64 3), 2⟩, ⟨.int .i32 102, (.int .i64 4), 3⟩, ⟨.int .i32 105, (.int .i64 5), 4⟩, ⟨.int .i32 122, (.int .i64 6), 5⟩, ⟨.int .i32 114, (.int .i64 7), 6⟩, ⟨.int .i32 97, (.int .i64 8), 7⟩, ⟨.int .i32 110, (.int .i64 9), 8⟩, ⟨.int .i32 115, (.int .i64 10), 9⟩, ⟨.int .i32 107, (.int .i64 11), 10⟩, ⟨.int .i32 106, (.int .i64 12), 11⟩, ⟨.int .i32 101, (.int .i64 13), 12⟩] 13)] [] [] H137 (by decide) rfl), (SlR.nil _ _)⟩
       ·replace hF := ifF hF hb144
        refine wc_false (vb hb144) ?_
        refine wp_skip ?_
        refine blk_n ?_
        refine then_n ?_
        refine wc_region ?_
        refine wl_rn (rn_pure (.slice A132 x130.length c133) rfl) ?_
        refine wl_rn (rn_pure (.map (some r16)) rfl) ?_
        refine wl_rn (rn_pure (.int .i32 ((nxt x41 x121).1)) rfl) ?_
        refine wl_lookupI (l := [(117, 1), (100, 2), (116, 3), (102, 4), (105, 5), (122, 6), (114, 7), (97, 8), (110, 9), (115, 10), (107, 11), (106, 12), (101, 13)]) (k' := .i64) H137 (i := 2) rfl mt119 un21 rfl rfl rfl mz3 ?_
        refine wl_lit (K := kI) (vs := [(.int .i64 ((lkI [(117, 1), (100, 2), (116, 3), (102, 4), (105, 5), (122, 6), (114, 7), (97, 8), (110, 9), (115, 10), (107, 11), (106, 12), (101, 13)] ((nxt x41 x121).1)).getD 0))]) (xs := ([((lkI [(117, 1), (100, 2), (116, 3), (102, 4), (105, 5), (122, 6), (114, 7), (97, 8), (110, 9), (115, 10), (107, 11), (106, 12), (101, 13)] ((nxt x41 x121).1)).getD 0)] : (List Int))) H137 sl36 el3 rfl ⟨((dInt .i64).toV _ _), trivial⟩ rfl (by decide) ?_
        intro g145 w147 H146
        obtain ⟨r149, hr150, hF⟩ := bindS hF
        refine wl_append H146 sl36 el3 (i := 1) rfl rfl rfl ((H146.okAt (i := 0) rfl).src) hr150 ?_
        intro g151 A152 c153 w154 H155
        refine wl_rn (rn_pure (.slice A152 r149.length c153) rfl) ?_
        refine wl_nil (blk_n ?_)
        refine then_n ?_
        exact ⟨_, (Option.some.inj hF).symm, _, _, g151, A152, c153, frame_eq [(0, (.int .i64 a0)), (7, (.slice A152 r149.length c153)), (8, (.map (some r16))), (34, (pt r45))] ⟨rfl, rfl, rfl, rfl, trivial⟩, (hG122.trans hG136), (St.pick [(.row kI (some g145) (some ⟨g145, 0, none⟩) 1 3 ([((lkI [(117, 1), (100, 2), (116, 3), (102, 4), (105, 5), (122, 6), (114, 7), (97, 8), (110, 9), (115, 10), (107, 11), (106, 12), (101, 13)] ((nxt x41 x121).1)).getD 0)] : (List Int))), (.row kI g151 A152 c153 3 r149), (.it r45 x41 ((nxt x41 x121).2)), (.mp r16 [⟨.int .i32 117, (.int .i64 1), 0⟩, ⟨.int .i32 100, (.int .i64 2), 1⟩, ⟨.int .i32 116, (.int .i64 3), 2⟩, ⟨.int .i32 102, (.int .i64 4), 3⟩, ⟨.int .i32 105, (.int .i64 5), 4⟩, ⟨.int .i32 122, (.int .i64 6), 5⟩, ⟨.int .i32 114, (.int .i64 7), 6⟩, ⟨.int .i32 97, (.int .i64 8), 7⟩, ⟨.int .i32 110, (.int .i64 9), 8⟩, ⟨.int .i32 115, (.int .i64 10), 9⟩, ⟨.int .i32 107, (.int .i64 11), 10⟩, ⟨.int .i32 106, (.int .i64 12), 11⟩, ⟨.int .i32 101, (.int .i64 13), 12⟩] 13)] [(.row kI g151 A152 c153 3 r149), (.it r45 x41 ((nxt x41 x121).2)), (.mp r16 [⟨.int .i32 117, (.int .i64 1), 0⟩, ⟨.int .i32 100, (.int .i64 2), 1⟩, ⟨.int .i32 116, (.int .i64 3), 2⟩, ⟨.int .i32 102, (.int .i64 4), 3⟩, ⟨.int .i32 105, (.int .i64 5), 4⟩, ⟨.int .i32 122, (.int .i64 6), 5⟩, ⟨.int .i32 114, (.int .i64 7), 6⟩, ⟨.int .i32 97, (.int .i64 8), 7⟩, ⟨.int .i32 110, (.int .i64 9), 8⟩, ⟨.int .i32 115, (.int .i64 10), 9⟩, ⟨.int .i32 107, (.int .i64 11), 10⟩, ⟨.int .i32 106, (.int .i64 12), 11⟩, ⟨.int .i32 101, (.int .i64 13), 12⟩] 13)] [1, 2, 3] H155 (by decide) rfl)⟩
     ·refine wc_region ?_
      refine wl_rn (rn_pure (.int .i32 ((nxt x41 x121).1)) rfl) ?_
      iterate 2 refine wl_rn (rn_pure (.bool (decide ((nxt x41 x121).1 ≥ 48))) rfl) ?_
      rcases bcases (decide ((nxt x41 x121).1 ≥ 48)) with hb156 | hb156
      ·replace hF := ifT hF hb156
       refine wl_yes rfl rfl rfl (vb hb156) ?_
       refine wl_rn (rn_pure (.int .i32 ((nxt x41 x121).1)) rfl) ?_
       refine wl_yes rfl rfl rfl (vb hb156) ?_
       refine wl_rn (rn_pure (.bool (decide ((nxt x41 x121).1 ≤ 57))) rfl) ?_
       refine wl_rn (rn_pickT (.bool (decide ((nxt x41 x121).1 ≤ 57))) (vb hb156) rfl) ?_
       refine wl_rn (rn_pure (.bool (decide ((nxt x41 x121).1 ≤ 57))) rfl) ?_
       refine wl_nil (then_n ?_)
       exact ⟨_, _, x116, (decide ((nxt x41 x121).1 ≤ 57)), g117, A118, c119, frame_eq [(0, (.int .i64 a0)), (7, (.slice A118 x116.length c119)), (8, (.map (some r16))), (10, (.int .i32 ((nxt x41 x121).1))), (34, (pt r45)), (38, (.bool (decide ((nxt x41 x121).1 ≤ 57))))] ⟨rfl, rfl, rfl, rfl, rfl, rfl, trivial⟩, GLe.refl _, H128, hF⟩
      ·replace hF := ifF hF hb156
       iterate 2 refine wl_no rfl rfl rfl (vb hb156) ?_
       refine wl_rn (rn_pickF (.bool false) (vb hb156) rfl) ?_
       refine wl_rn (rn_pure (.bool false) rfl) ?_
       refine wl_nil (then_n ?_)
       exact ⟨_, _, x116, false, g117, A118, c119, frame_eq [(0, (.int .i64 a0)), (7, (.slice A118 x116.length c119)), (8, (.map (some r16))), (10, (.int .i32 ((nxt x41 x121).1))), (34, (pt r45)), (38, (.bool false))] ⟨rfl, rfl, rfl, rfl, rfl, rfl, trivial⟩, GLe.refl _, H128, hF⟩
    ·replace hF := ifF hF hb126
     refine wl_nextF H123 (i := 1) rfl rfl hb126 ?_
     refine wl_rn (rn_pure (.bool false) rfl) ?_
     refine wl_nil (then_n ?_)
     refine wp_seq ?_
     refine wc_false rfl ?_
     refine wp_exit ?_
     iterate 2 refine then_e ?_
     replace hF := exitS hF hy49
     refine blk_e ?_
     refine then_n ?_
     refine wp_seq (wc_region ?_)
     refine wl_rn (rn_pure (.int .i64 a0) rfl) ?_
     refine wl_rn (rn_pure (.slice none 0 0) rfl) ?_
     refine wl_rn (rn_pure (.int .i64 a0) rfl) ?_
     refine wl_rn (rn_pure (.bool false) rfl) ?_
     refine wl_nil (then_n ?_)
     refine wp_ret ?_
     have hF := Option.some.inj hF
     subst hF
     exact ret_mk rfl (RV.tmp rfl (RV.tmp rfl (RV.tmp rfl RV.nil))) ⟨_, none, 0, ((((hG5.trans hG12).trans hG21).trans hG34).trans hG122), rfl, (St.pick [(.row kI g117 A118 c119 3 x116), (.it r45 x41 x121), (.mp r16 [⟨.int .i32 117, (.int .i64 1), 0⟩, ⟨.int .i32 100, (.int .i64 2), 1⟩, ⟨.int .i32 116, (.int .i64 3), 2⟩, ⟨.int .i32 102, (.int .i64 4), 3⟩, ⟨.int .i32 105, (.int .i64 5), 4⟩, ⟨.int .i32 122, (.int .i64 6), 5⟩, ⟨.int .i32 114, (.int .i64 7), 6⟩, ⟨.int .i32 97, (.int .i64 8), 7⟩, ⟨.int .i32 110, (.int .i64 9), 8⟩, ⟨.int .i32 115, (.int .i64 10), 9⟩, ⟨.int .i32 107, (.int .i64 11), 10⟩, ⟨.int .i32 106, (.int .i64 12), 11⟩, ⟨.int .i32 101, (.int .i64 13), 12⟩] 13)] [] [] H123 (by decide) rfl), (SlR.nil _ _)⟩
 ·refine wc_region ?_
  refine wl_rn (rn_pure (.int .i64 a0) rfl) ?_
  iterate 2 refine wl_rn (rn_pure (.bool (decide (a0 < 0))) rfl) ?_
  rcases bcases (decide (a0 < 0)) with hb159 | hb159
  ·replace hF := ifT hF hb159
   iterate 2 refine wl_no rfl rfl rfl (vb hb159) ?_
   refine wl_rn (rn_pickT (.bool true) (vb hb159) rfl) ?_
   refine wl_rn (rn_pure (.bool true) rfl) ?_
   iterate 2 refine wl_no rfl rfl rfl rfl ?_
   refine wl_rn (rn_pickT (.bool true) rfl rfl) ?_
   refine wl_rn (rn_pure (.bool true) rfl) ?_
   iterate 2 refine wl_no rfl rfl rfl rfl ?_
   refine wl_rn (rn_pickT (.bool true) rfl rfl) ?_
   refine wl_nil (then_n ?_)
   exact ⟨_, _, true, frame_eq [(0, (.int .i64 a0)), (1, (.int .i64 a1)), (24, (.bool true))] ⟨rfl, rfl, rfl, trivial⟩, GLe.refl _, H, hF⟩
  ·replace hF := ifF hF hb159
   refine wl_yes rfl rfl rfl (vb hb159) ?_
   refine wl_rn (rn_pure (.int .i64 a0) rfl) ?_
   refine wl_yes rfl rfl rfl (vb hb159) ?_
   refine wl_rn (rn_pure (.bool (decide (a0 ≥ 10))) rfl) ?_
   refine wl_rn (rn_pickF (.bool (decide (a0 ≥ 10))) (vb hb159) rfl) ?_
   refine wl_rn (rn_pure (.bool (decide (a0 ≥ 10))) rfl) ?_
   rcases bcases (decide (a0 ≥ 10)) with hb160 | hb160
   ·replace hF := ifT hF hb160
    iterate 2 refine wl_no rfl rfl rfl (vb hb160) ?_
    refine wl_rn (rn_pickT (.bool true) (vb hb160) rfl) ?_
    refine wl_rn (rn_pure (.bool true) rfl) ?_
    iterate 2 refine wl_no rfl rfl rfl rfl ?_
    refine wl_rn (rn_pickT (.bool true) rfl rfl) ?_
    refine wl_nil (then_n ?_)
    exact ⟨_, _, true, frame_eq [(0, (.int .i64 a0)), (1, (.int .i64 a1)), (24, (.bool true))] ⟨rfl, rfl, rfl, trivial⟩, GLe.refl _, H, hF⟩
   ·replace hF := ifF hF hb160
    refine wl_yes rfl rfl rfl (vb hb160) ?_
    refine wl_rn (rn_pure (.int .i64 a1) rfl) ?_
    refine wl_yes rfl rfl rfl (vb hb160) ?_
    refine wl_rn (rn_pure (.bool (decide (a1 < 0))) rfl) ?_
    refine wl_rn (rn_pickF (.bool (decide (a1 < 0))) (vb hb160) rfl) ?_
    refine wl_rn (rn_pure (.bool (decide (a1 < 0))) rfl) ?_
    rcases bcases (decide (a1 < 0)) with hb161 | hb161
    ·replace hF := ifT hF hb161
     iterate 2 refine wl_no rfl rfl rfl (vb hb161) ?_
     refine wl_rn (rn_pickT (.bool true) (vb hb161) rfl) ?_
     refine wl_nil (then_n ?_)
     exact ⟨_, _, true, frame_eq [(0, (.int .i64 a0)), (1, (.int .i64 a1)), (24, (.bool true))] ⟨rfl, rfl, rfl, trivial⟩, GLe.refl _, H, hF⟩
    ·replace hF := ifF hF hb161
     refine wl_yes rfl rfl rfl (vb hb161) ?_
     refine wl_rn (rn_pure (.int .i64 a1) rfl) ?_
     refine wl_yes rfl rfl rfl (vb hb161) ?_
     refine wl_rn (rn_pure (.bool (decide (a1 ≥ 16))) rfl) ?_
     refine wl_rn (rn_pickF (.bool (decide (a1 ≥ 16))) (vb hb161) rfl) ?_
     refine wl_nil (then_n ?_)
     exact ⟨_, _, (decide (a1 ≥ 16)), frame_eq [(0, (.int .i64 a0)), (1, (.int .i64 a1)), (24, (.bool (decide (a1 ≥ 16))))] ⟨rfl, rfl, rfl, trivial⟩, GLe.refl _, H, hF⟩

theorem slices_Index_int_ok {c : World} (hc : Hc c) {G : Ghost} {w : World} {σ : List Ent} {a0 : (List Int)} {A0_ : Option Addr} {c0_ : Nat} {a1 : Int} (h0_ : SlR kI G A0_ c0_ a0) (H : St c G w (σ)) {r : Int} (hF : slices_Index_int a0 a1 = some r) :
  Calls Tryd.prog 73 ([(.slice A0_ a0.length c0_), (.int .i64 a1)] : List Value).toArray w (Ends fun v w' => ∃ (G' : Ghost), GLe G G' ∧ tup [(.int .i64 r)] = v ∧ St c G' w' (σ)) := by
 unfold slices_Index_int at hF
 refine calls_mk Tryd.func73 rfl rfl rfl ?_
 refine wp_seq (wc_region ?_)
 refine wl_rn (rn_pure (.int .i64 0) rfl) ?_
 refine wl_nil (then_n ?_)
 refine wp_seq ?_
 refine wp_seq (wc_region ?_)
 refine wl_rn (rn_pure (.slice A0_ a0.length c0_) rfl) ?_
 refine wl_rn (rn_len sl36 rfl) ?_
 refine wl_rn (rn_pure (.int .i64 0) rfl) ?_
 refine wl_nil (then_n ?_)
 refine wp_block ?_
 refine wp_loopX (fun (s : Int) a w => ∃ (T0 : Fr) (G1 : Ghost), a = mk 19 (upds T0 [(0, (.slice A0_ a0.length c0_)), (1, (.int .i64 a1)), (7, (.int .i64 (a0.length : Int))), (8, (.int .i64 s))]) ∧ GLe G G1 ∧ St c G1 w (σ)) hF ?_ ?_
 ·exact ⟨_, _, frame_eq [(0, (.slice A0_ a0.length c0_)), (1, (.int .i64 a1)), (7, (.int .i64 (a0.length : Int))), (8, (.int .i64 0))] ⟨rfl, rfl, rfl, rfl, trivial⟩, GLe.refl _, H⟩
 ·rintro x9 a w y12 ⟨T0, G13, rfl, hG10, H11⟩ hF hy1
  refine wp_seq (wc_region ?_)
  refine wl_rn (rn_pure (.bool (decide (x9 < (a0.length : Int)))) rfl) ?_
  refine wl_nil (then_n ?_)
  refine wp_seq ?_
  rcases bcases (decide (x9 < (a0.length : Int))) with hb14 | hb14
  ·replace hF := ifT hF hb14
   refine wc_true (vb hb14) ?_
   refine wp_skip ?_
   refine then_n ?_
   refine wp_seq ?_
   refine wp_block ?_
   refine wp_seq (wc_region ?_)
   iterate 2 refine wl_rn (rn_pure (.int .i64 x9) rfl) ?_
   refine wl_nil (then_n (wp_seq (wc_region ?_)))
   refine wl_rn (rn_pure (.int .i64 a1) rfl) ?_
   refine wl_rn (rn_pure (.slice A0_ a0.length c0_) rfl) ?_
   refine wl_rn (rn_pure (.int .i64 x9) rfl) ?_
   obtain ⟨x15, hx16, hF⟩ := bindS hF
   refine wl_rnE (rn_index (h0_.mono hG10) sl36 ty3 rfl rfl hx16) ?_
   intro a17 hp18
   refine wl_loadpd H11 hp18 (dInt .i64) ty3 rfl ?_
   refine wl_rn (rn_pure (.bool (a1 == x15)) rfl) ?_
   refine wl_nil (then_n ?_)
   rcases bcases (a1 == x15) with hb19 | hb19
   ·replace hF := ifT hF hb19
    refine wc_true (vb hb19) ?_
    refine wp_seq (wc_region ?_)
    iterate 2 refine wl_rn (rn_pure (.int .i64 x9) rfl) ?_
    refine wl_nil (then_n ?_)
    refine wp_ret ?_
    refine blk_r ?_
    iterate 2 refine then_r ?_
    replace hF := exitS hF hy1
    refine blk_r ?_
    refine then_r ?_
    have hF := Option.some.inj hF
    subst hF
    exact ret_mk rfl (RV.tmp rfl RV.nil) ⟨_, hG10, rfl, H11⟩
   ·replace hF := ifF hF hb19
    refine wc_false (vb hb19) ?_
    refine wp_skip ?_
    refine blk_n ?_
    refine then_n ?_
    refine wc_region ?_
    iterate 2 refine wl_rn (rn_pure (.int .i64 (IntKind.i64.wrap (x9 + 1))) rfl) ?_
    refine wl_nil (then_n ?_)
    exact ⟨_, (Option.some.inj hF).symm, _, _, frame_eq [(0, (.slice A0_ a0.length c0_)), (1, (.int .i64 a1)), (7, (.int .i64 (a0.length : Int))), (8, (.int .i64 (IntKind.i64.wrap (x9 + 1))))] ⟨rfl, rfl, rfl, rfl, trivial⟩, hG10, H11⟩
  ·replace hF := ifF hF hb14
   refine wc_false (vb hb14) ?_
   refine wp_exit ?_
   iterate 2 refine then_e ?_
   replace hF := exitS hF hy1
   refine blk_e ?_
   refine then_n ?_
   refine wp_seq (wc_region ?_)
   refine wl_rn (rn_pure (.int .i64 (-1)) rfl) ?_
   refine wl_nil (then_n ?_)
   refine wp_ret ?_
   have hF := Option.some.inj hF
   subst hF
   exact ret_mk rfl (RV.tmp rfl RV.nil) ⟨_, hG10, rfl, H11⟩

theorem slices_Contains_int_ok {c : World} (hc : Hc c) {G : Ghost} {w : World} {σ : List Ent} {a0 : (List Int)} {A0_ : Option Addr} {c0_ : Nat} {a1 : Int} (h0_ : SlR kI G A0_ c0_ a0) (H : St c G w (σ)) {r : Bool} (hF : slices_Contains_int a0 a1 = some r) :
  Calls Tryd.prog 48 ([(.slice A0_ a0.length c0_), (.int .i64 a1)] : List Value).toArray w (Ends fun v w' => ∃ (G' : Ghost), GLe G G' ∧ tup [(.bool r)] = v ∧ St c G' w' (σ)) := by
 unfold slices_Contains_int at hF
 refine calls_mk Tryd.func48 rfl rfl rfl ?_
 refine wp_seq (wc_region ?_)
 refine wl_rn (rn_pure (.bool false) rfl) ?_
 refine wl_nil (then_n (wp_seq (wc_region ?_)))
 refine wl_rn (rn_pure (.slice A0_ a0.length c0_) rfl) ?_
 refine wl_rn (rn_pure (.int .i64 a1) rfl) ?_
 obtain ⟨r1, hr2, hF⟩ := bindS hF
 refine wl_call (vs := [(.slice A0_ a0.length c0_), (.int .i64 a1)]) en73 rfl (slices_Index_int_ok hc h0_ H hr2) ?_
 rintro v7 w6 ⟨G3, hG4, rfl, H5⟩
 iterate 2 refine wl_rn (rn_pure (.bool (decide (r1 ≥ 0))) rfl) ?_
 refine wl_nil (then_n ?_)
 refine wp_ret ?_
 have hF := Option.some.inj hF
 subst hF
 exact ret_mk rfl (RV.tmp rfl RV.nil) ⟨_, hG4, rfl, H5⟩

theorem auto_work_begin_ok {c : World} (hc : Hc c) {G : Ghost} {w : World} {σ : List Ent} {b0 : Nat} {x2 : Tauto_work}  (H : St c G w ((.box b0 105 (kTauto_work.at_ x2)) :: σ)) {r : Tauto_work} (hF : auto_work_begin x2 = some r) :
  Calls Tryd.prog 70 ([(pt b0)] : List Value).toArray w (Ends fun v w' => ∃ (G' : Ghost), GLe G G' ∧ tup [] = v ∧ St c G' w' ((.box b0 105 (kTauto_work.at_ r)) :: σ)) := by
 unfold auto_work_begin at hF
 refine calls_mk Tryd.func70 rfl rfl rfl ?_
 refine wp_seq (wc_region ?_)
 refine wl_rn (rn_pure (pt b0) rfl) ?_
 refine wl_rn (rn_nilCheck rfl) ?_
 refine wl_rn (rn_field fo105_0 rfl) ?_
 refine wl_rn (rn_field fo23_1 rfl) ?_
 refine wl_store (z := 5) H (i := 0) rfl (Lens.then lTauto_work_Auto lTAuto_Count) ty3 rfl rfl ((dInt .i64).toV _ _) ?_
 intro w4 H3
 refine wl_nil (then_n (wp_seq (wc_region ?_)))
 refine wl_rn (rn_pure (pt b0) rfl) ?_
 refine wl_rn (rn_nilCheck rfl) ?_
 refine wl_rn (rn_field fo105_1 rfl) ?_
 refine wl_load H3 (i := 0) rfl lTauto_work_L ty36 rfl ?_
 intro v5 hv6
 obtain ⟨A7, c8, rfl, hs9⟩ := slice_V hv6
 obtain ⟨r10, hr11, hF⟩ := bindS hF
 refine wl_call (vs := [(.slice A7 x2.L.length c8), (.int .i64 10)]) en48 rfl (slices_Contains_int_ok hc hs9 H3 hr11) ?_
 rintro v16 w15 ⟨G12, hG13, rfl, H14⟩
 refine wl_nil (then_n ?_)
 rcases bcases r10 with hb17 | hb17
 ·replace hF := ifT hF hb17
  refine wc_true (vb hb17) ?_
  refine wc_region ?_
  refine wl_rn (rn_pure (pt b0) rfl) ?_
  refine wl_rn (rn_nilCheck rfl) ?_
  refine wl_rn (rn_field fo105_0 rfl) ?_
  refine wl_rn (rn_field fo23_1 rfl) ?_
  refine wl_store (z := 2) H14 (i := 0) rfl (Lens.then lTauto_work_Auto lTAuto_Count) ty3 rfl rfl ((dInt .i64).toV _ _) ?_
  intro w19 H18
  refine wl_nil ?_
  have hF := Option.some.inj hF
  subst hF
  exact end_mk rfl RV.nil ⟨_, hG13, rfl, H18⟩
 ·replace hF := ifF hF hb17
  refine wc_false (vb hb17) ?_
  refine wp_skip ?_
  have hF := Option.some.inj hF
  subst hF
  exact end_mk rfl RV.nil ⟨_, hG13, rfl, H14⟩

theorem auto_work_nought_ok {c : World} (hc : Hc c) {G : Ghost} {w : World} {σ : List Ent} {b0 : Nat} {x2 : Tauto_work}  (H : St c G w ((.box b0 105 (kTauto_work.at_ x2)) :: σ)) {r : Tauto_work} (hF : auto_work_nought x2 = some r) :
  Calls Tryd.prog 71 ([(pt b0)] : List Value).toArray w (Ends fun v w' => ∃ (G' : Ghost), GLe G G' ∧ tup [] = v ∧ St c G' w' ((.box b0 105 (kTauto_work.at_ r)) :: σ)) := by
 unfold auto_work_nought at hF
 refine calls_mk Tryd.func71 rfl rfl rfl ?_
 refine wc_region ?_
 iterate 2 refine wl_rn (rn_pure (pt b0) rfl) ?_
 refine wl_rn (rn_nilCheck rfl) ?_
 refine wl_rn (rn_field fo105_0 rfl) ?_
 refine wl_rn (rn_field fo23_1 rfl) ?_
 refine wl_store (z := 0) H (i := 0) rfl (Lens.then lTauto_work_Auto lTAuto_Count) ty3 rfl rfl ((dInt .i64).toV _ _) ?_
 intro w4 H3
 refine wl_rn (rn_nilCheck rfl) ?_
 refine wl_rn (rn_field fo105_0 rfl) ?_
 refine wl_rn (rn_field fo23_2 rfl) ?_
 refine wl_store (z := 3) H3 (i := 0) rfl (Lens.then lTauto_work_Auto lTAuto_Left) ty3 rfl rfl ((dInt .i64).toV _ _) ?_
 intro w6 H5
 refine wl_nil ?_
 have hF := Option.some.inj hF
 subst hF
 exact end_mk rfl RV.nil ⟨_, GLe.refl _, rfl, H5⟩

theorem auto_work_send_ok {c : World} (hc : Hc c) {G : Ghost} {w : World} {σ : List Ent} {b0 : Nat} {x2 : Tauto_work}  (H : St c G w ((.box b0 105 (kTauto_work.at_ x2)) :: σ)) {r : Tauto_work} (hF : auto_work_send x2 = some r) :
  Calls Tryd.prog 72 ([(pt b0)] : List Value).toArray w (Ends fun v w' => ∃ (G' : Ghost), GLe G G' ∧ tup [] = v ∧ St c G' w' ((.box b0 105 (kTauto_work.at_ r)) :: σ)) := by
 unfold auto_work_send at hF
 refine calls_mk Tryd.func72 rfl rfl rfl ?_
 refine wp_seq (wc_region ?_)
 iterate 3 refine wl_rn (rn_pure (pt b0) rfl) ?_
 refine wl_rn (rn_nilCheck rfl) ?_
 refine wl_rn (rn_field fo105_0 rfl) ?_
 refine wl_rn (rn_field fo23_1 rfl) ?_
 refine wl_loadd H (i := 0) rfl (Lens.then lTauto_work_Auto lTAuto_Count) (dInt .i64) ty3 rfl ?_
 refine wl_rn (rn_pure (.int .i64 (IntKind.i64.wrap (x2.Auto.Count - 1))) rfl) ?_
 refine wl_rn (rn_max rfl rfl) ?_
 refine wl_rn (rn_nilCheck rfl) ?_
 refine wl_rn (rn_field fo105_0 rfl) ?_
 refine wl_rn (rn_field fo23_1 rfl) ?_
 refine wl_store (z := (if (IntKind.i64.wrap (x2.Auto.Count - 1)) < 0 then 0 else (IntKind.i64.wrap (x2.Auto.Count - 1)))) H (i := 0) rfl (Lens.then lTauto_work_Auto lTAuto_Count) ty3 rfl rfl ((dInt .i64).toV _ _) ?_
 intro w4 H3
 refine wl_rn (rn_nilCheck rfl) ?_
 refine wl_rn (rn_field fo105_0 rfl) ?_
 refine wl_rn (rn_field fo23_2 rfl) ?_
 refine wl_store (z := 3) H3 (i := 0) rfl (Lens.then lTauto_work_Auto lTAuto_Left) ty3 rfl rfl ((dInt .i64).toV _ _) ?_
 intro w6 H5
 refine wl_nil (then_n ?_)
 refine wc_region ?_
 refine wl_rn (rn_pure (pt b0) rfl) ?_
 refine wl_rn (rn_nilCheck rfl) ?_
 refine wl_rn (rn_field fo105_0 rfl) ?_
 refine wl_rn (rn_field fo23_3 rfl) ?_
 refine wl_loadd H5 (i := 0) rfl (Lens.then lTauto_work_Auto lTAuto_Id) (dInt .u8) ty5 rfl ?_
 refine wl_rn (rn_pure (.int .u8 (IntKind.u8.wrap (x2.Auto.Id + 1))) rfl) ?_
 refine wl_rn (rn_nilCheck rfl) ?_
 refine wl_rn (rn_field fo105_0 rfl) ?_
 refine wl_rn (rn_field fo23_3 rfl) ?_
 refine wl_store (z := (IntKind.u8.wrap (x2.Auto.Id + 1))) H5 (i := 0) rfl (Lens.then lTauto_work_Auto lTAuto_Id) ty5 rfl rfl ((dInt .u8).toV _ _) ?_
 intro w8 H7
 refine wl_nil ?_
 have hF := Option.some.inj hF
 subst hF
 exact end_mk rfl RV.nil ⟨_, GLe.refl _, rfl, H7⟩

theorem fsm_Timed_ok {c : World} (hc : Hc c) {G : Ghost} {w : World} {σ : List Ent} {a0 : Int}  (H : St c G w (σ)) {r : Bool} (hF : fsm_Timed a0 = some r) :
  Calls Tryd.prog 64 ([(.int .i64 a0)] : List Value).toArray w (Ends fun v w' => ∃ (G' : Ghost), GLe G G' ∧ tup [(.bool r)] = v ∧ St c G' w' (σ)) := by
 unfold fsm_Timed at hF
 refine calls_mk Tryd.func64 rfl rfl rfl ?_
 refine wp_seq (wc_region ?_)
 refine wl_rn (rn_pure (.bool false) rfl) ?_
 refine wl_nil (then_n (wp_seq (wc_region ?_)))
 refine wl_rn (rn_pure (.int .i64 a0) rfl) ?_
 iterate 2 refine wl_rn (rn_pure (.bool (decide (a0 ≥ 4))) rfl) ?_
 rcases bcases (decide (a0 ≥ 4)) with hb1 | hb1
 ·replace hF := ifT hF hb1
  refine wl_yes rfl rfl rfl (vb hb1) ?_
  refine wl_rn (rn_pure (.int .i64 a0) rfl) ?_
  refine wl_yes rfl rfl rfl (vb hb1) ?_
  refine wl_rn (rn_pure (.bool (decide (a0 ≤ 8))) rfl) ?_
  refine wl_rn (rn_pickT (.bool (decide (a0 ≤ 8))) (vb hb1) rfl) ?_
  refine wl_rn (rn_pure (.bool (decide (a0 ≤ 8))) rfl) ?_
  refine wl_nil (then_n ?_)
  refine wp_ret ?_
  have hF := Option.some.inj hF
  subst hF
  exact ret_mk rfl (RV.tmp rfl RV.nil) ⟨_, GLe.refl _, rfl, H⟩
 ·replace hF := ifF hF hb1
  iterate 2 refine wl_no rfl rfl rfl (vb hb1) ?_
  refine wl_rn (rn_pickF (.bool false) (vb hb1) rfl) ?_
  refine wl_rn (rn_pure (.bool false) rfl) ?_
  refine wl_nil (then_n ?_)
  refine wp_ret ?_
  have hF := Option.some.inj hF
  subst hF
  exact ret_mk rfl (RV.tmp rfl RV.nil) ⟨_, GLe.refl _, rfl, H⟩

theorem auto_Do_ok {c : World} (hc : Hc c) {G : Ghost} {w : World} {σ : List Ent} {a0 : TAuto} {v0_ : Value} {a1 : Int} (h0_ : kTAuto.V G v0_ a0) (H : St c G w (σ)) {r : (TAuto × (List Int) × Int)} (hF : auto_Do a0 a1 = some r) :
  Calls Tryd.prog 47 ([v0_, (.int .i64 a1)] : List Value).toArray w (Ends fun v w' => ∃ (G' : Ghost) (v1' : Value) (A2' : Option Addr) (c3' : Nat), GLe G G' ∧ tup [v1', (.slice A2' r.2.1.length c3'), (.int .i64 r.2.2)] = v ∧ St c G' w' (σ) ∧ kTAuto.V G' v1' r.1 ∧ SlR kI G' A2' c3' r.2.1) := by
 unfold auto_Do at hF
 refine calls_mk Tryd.func47 rfl rfl rfl ?_
 refine wp_seq (wc_region ?_)
 refine wl_box (K := kTAuto) (x := a0) H rfl h0_ ?_
 intro b1 w4 H2
 refine wl_alloc H2 zr23 ?_
 intro b5 w8 H6
 refine wl_rn (rn_pure (.slice none 0 0) rfl) ?_
 refine wl_rn (rn_pure (.int .i64 0) rfl) ?_
 refine wl_nil (then_n (wp_seq (wc_region ?_)))
 refine wl_rn (rn_field fo23_0 rfl) ?_
 refine wl_loadd H6 (i := 1) rfl lTAuto_State (dInt .i64) ty3 rfl ?_
 refine wl_rn (rn_pure (.int .i64 a1) rfl) ?_
 obtain ⟨r9, hr10, hF⟩ := bindS hF
 refine wl_call (vs := [(.int .i64 a0.State), (.int .i64 a1)]) en69 rfl (fsm_Next_ok hc H6 hr10) ?_
 rintro v15 w14 ⟨G11, A16, c17, hG12, rfl, H13, hs18⟩
 refine wl_rn (rn_pure (.tuple #[(.slice A16 r9.1.length c17), (.int .i64 r9.2.1), (.bool r9.2.2)]) rfl) ?_
 refine wl_rn (rn_pure (.slice A16 r9.1.length c17) rfl) ?_
 refine wl_rn (rn_pure (.int .i64 r9.2.1) rfl) ?_
 refine wl_rn (rn_pure (.bool r9.2.2) rfl) ?_
 refine wl_rn (rn_pure (.slice A16 r9.1.length c17) rfl) ?_
 refine wl_rn (rn_pure (.int .i64 r9.2.1) rfl) ?_
 refine wl_rn (rn_pure (.bool r9.2.2) rfl) ?_
 refine wl_nil (then_n ?_)
 refine wp_seq ?_
 refine wp_seq (wc_region ?_)
 refine wl_rn (rn_pure (.bool r9.2.2) rfl) ?_
 refine wl_rn (rn_pure (.bool (!r9.2.2)) rfl) ?_
 refine wl_nil (then_n ?_)
 rcases bcases (!r9.2.2) with hb19 | hb19
 ·replace hF := ifT hF hb19
  refine wc_true (vb hb19) ?_
  refine wp_seq (wc_region ?_)
  refine wl_load H13 (i := 1) rfl (Lens.id kTAuto) ty23 rfl ?_
  intro v20 hv21
  refine wl_store (z := a0) H13 (i := 0) rfl (Lens.id kTAuto) ty23 rfl rfl hv21 ?_
  intro w23 H22
  refine wl_rn (rn_pure (.slice none 0 0) rfl) ?_
  refine wl_rn (rn_pure (.int .i64 1) rfl) ?_
  refine wl_nil (then_n ?_)
  refine wp_ret ?_
  refine then_r ?_
  obtain ⟨v24, hv25, hl26⟩ := H22.loadv (i := 0) rfl ty23
  have hF := Option.some.inj hF
  subst hF
  exact ret_mk rfl (RV.cell rfl hl26 (RV.tmp rfl (RV.tmp rfl RV.nil))) ⟨_, v24, none, 0, hG12, rfl, (St.pick [(.box b5 23 (kTAuto.at_ a0)), (.box b1 23 (kTAuto.at_ a0))] [] [] H22 (by decide) rfl), hv25, (SlR.nil _ _)⟩
 ·replace hF := ifF hF hb19
  refine wc_false (vb hb19) ?_
  refine wp_skip ?_
  refine then_n ?_
  refine wp_seq (wc_region ?_)
  refine wl_load H13 (i := 1) rfl (Lens.id kTAuto) ty23 rfl ?_
  intro v27 hv28
  refine wl_rn (rn_pure (.slice A16 r9.1.length c17) rfl) ?_
  refine wl_rnE (rn_build (G := G11) zr105 rfl bs105 rfl (Parts.cons fo105_0 lTauto_work_Auto hv28 (Parts.cons fo105_1 lTauto_work_L (slice_toV hs18) (Parts.nil _)))) ?_
  intro v29 hv30
  refine wl_box (K := kTauto_work) (x := (Tauto_work.mk a0 r9.1)) H13 rfl hv30 ?_
  intro b31 w34 H32
  refine wl_rn (rn_pure (pt b31) rfl) ?_
  refine wl_nil (then_n (wp_seq (wc_region ?_)))
  refine wl_makeMap H32 ?_
  intro r35 w36 H37
  refine wl_rn (rn_pure (pt b31) rfl) ?_
  refine wl_rn (rn_pure (.func (.func 70) #[(pt b31)] #[]) rfl) ?_
  refine wl_insert (key := (.int .i64 5)) (val := (.func (.func 70) #[(pt b31)] #[])) H37 (i := 0) rfl mt106 un3 rfl rfl rfl (by simp [Go.MapKept.IsKey]) rfl ?_
  intro w39 H40
  have H41 : St c G11 w39 ((.mp r35 [⟨.int .i64 5, (.func (.func 70) #[(pt b31)] #[]), 0⟩] 1) :: (.box b31 105 (kTauto_work.at_ (Tauto_work.mk a0 r9.1))) :: (.box b5 23 (kTAuto.at_ zTAuto)) :: (.box b1 23 (kTAuto.at_ a0)) :: σ) := H40
  refine wl_rn (rn_pure (pt b31) rfl) ?_
  refine wl_rn (rn_pure (.func (.func 71) #[(pt b31)] #[]) rfl) ?_
  refine wl_insert (key := (.int .i64 6)) (val := (.func (.func 71) #[(pt b31)] #[])) H41 (i := 0) rfl mt106 un3 rfl rfl rfl (by simp [Go.MapKept.IsKey]) rfl ?_
  intro w42 H43
  have H44 : St c G11 w42 ((.mp r35 [⟨.int .i64 5, (.func (.func 70) #[(pt b31)] #[]), 0⟩, ⟨.int .i64 6, (.func (.func 71) #[(pt b31)] #[]), 1⟩] 2) :: (.box b31 105 (kTauto_work.at_ (Tauto_work.mk a0 r9.1))) :: (.box b5 23 (kTAuto.at_ zTAuto)) :: (.box b1 23 (kTAuto.at_ a0)) :: σ) := H43
  refine wl_rn (rn_pure (pt b31) rfl) ?_
  refine wl_rn (rn_pure (.func (.func 72) #[(pt b31)] #[]) rfl) ?_
  refine wl_insert (key := (.int .i64 7)) (val := (.func (.func 72) #[(pt b31)] #[])) H44 (i := 0) rfl mt106 un3 rfl rfl rfl (by simp [Go.MapKept.IsKey]) rfl ?_
  intro w45 H46
  have H47 : St c G11 w45 ((.mp r35 [⟨.int .i64 5, (.func (.func 70) #[(pt b31)] #[]), 0⟩, ⟨.int .i64 6, (.func (.func 71) #[(pt b31)] #[]), 1⟩, ⟨.int .i64 7, (.func (.func 72) #[(pt b31)] #[]), 2⟩] 3) :: (.box b31 105 (kTauto_work.at_ (Tauto_work.mk a0 r9.1))) :: (.box b5 23 (kTAuto.at_ zTAuto)) :: (.box b1 23 (kTAuto.at_ a0)) :: σ) := H46
  refine wl_rn (rn_pure (pt b31) rfl) ?_
  refine wl_rn (rn_pure (.func (.func 72) #[(pt b31)] #[]) rfl) ?_
  refine wl_insert (key := (.int .i64 10)) (val := (.func (.func 72) #[(pt b31)] #[])) H47 (i := 0) rfl mt106 un3 rfl rfl rfl (by simp [Go.MapKept.IsKey]) rfl ?_
  intro w48 H49
  have H50 : St c G11 w48 ((.mp r35 [⟨.int .i64 5, (.func (.func 70) #[(pt b31)] #[]), 0⟩, ⟨.int .i64 6, (.func (.func 71) #[(pt b31)] #[]), 1⟩, ⟨.int .i64 7, (.func (.func 72) #[(pt b31)] #[]), 2⟩, ⟨.int .i64 10, (.func (.func 72) #[(pt b31)] #[]), 3⟩] 4) :: (.box b31 105 (kTauto_work.at_ (Tauto_work.mk a0 r9.1))) :: (.box b5 23 (kTAuto.at_ zTAuto)) :: (.box b1 23 (kTAuto.at_ a0)) :: σ) := H49
  iterate 2 refine wl_rn (rn_pure (.map (some r35)) rfl) ?_
  refine wl_nil (then_n ?_)
  refine wp_seq ?_
  refine wp_seq (wc_region ?_)
  refine wl_rn (rn_pure (.slice A16 r9.1.length c17) rfl) ?_
  refine wl_rn (rn_len sl36 rfl) ?_
  refine wl_rn (rn_pure (.int .i64 0) rfl) ?_
  refine wl_nil (then_n ?_)
  refine wp_block ?_
  refine wp_loopX (fun (s : (Int × Tauto_work)) a w => ∃ (T0 : Fr) (G1 : Ghost), a = mk 74 (upds T0 [(4, (pt b5)), (7, (.slice A16 r9.1.length c17)), (8, (.int .i64 r9.2.1)), (10, (pt b31)), (11, (.map (some r35))), (41, (.slice A16 r9.1.length c17)), (42, (.int .i64 (r9.1.length : Int))), (43, (.int .i64 s.1))]) ∧ GLe G11 G1 ∧ St c G1 w ((.mp r35 [⟨.int .i64 5, (.func (.func 70) #[(pt b31)] #[]), 0⟩, ⟨.int .i64 6, (.func (.func 71) #[(pt b31)] #[]), 1⟩, ⟨.int .i64 7, (.func (.func 72) #[(pt b31)] #[]), 2⟩, ⟨.int .i64 10, (.func (.func 72) #[(pt b31)] #[]), 3⟩] 4) :: (.box b31 105 (kTauto_work.at_ s.2)) :: (.box b5 23 (kTAuto.at_ zTAuto)) :: σ)) hF ?_ ?_
  ·exact ⟨_, _, frame_eq [(4, (pt b5)), (7, (.slice A16 r9.1.length c17)), (8, (.int .i64 r9.2.1)), (10, (pt b31)), (11, (.map (some r35))), (41, (.slice A16 r9.1.length c17)), (42, (.int .i64 (r9.1.length : Int))), (43, (.int .i64 0))] ⟨rfl, rfl, rfl, rfl, rfl, rfl, rfl, rfl, trivial⟩, GLe.refl _, (St.pick [(.mp r35 [⟨.int .i64 5, (.func (.func 70) #[(pt b31)] #[]), 0⟩, ⟨.int .i64 6, (.func (.func 71) #[(pt b31)] #[]), 1⟩, ⟨.int .i64 7, (.func (.func 72) #[(pt b31)] #[]), 2⟩, ⟨.int .i64 10, (.func (.func 72) #[(pt b31)] #[]), 3⟩] 4), (.box b31 105 (kTauto_work.at_ (Tauto_work.mk a0 r9.1))), (.box b5 23 (kTAuto.at_ zTAuto)), (.box b1 23 (kTAuto.at_ a0))] [(.mp r35 [⟨.int .i64 5, (.func (.func 70) #[(pt b31)] #[]), 0⟩, ⟨.int .i64 6, (.func (.func 71) #[(pt b31)] #[]), 1⟩, ⟨.int .i64 7, (.func (.func 72) #[(pt b31)] #[]), 2⟩, ⟨.int .i64 10, (.func (.func 72) #[(pt b31)] #[]), 3⟩] 4), (.box b31 105 (kTauto_work.at_ (Tauto_work.mk a0 r9.1))), (.box b5 23 (kTAuto.at_ zTAuto))] [0, 1, 2] H50 (by decide) rfl)⟩
  ·rintro ⟨x192, x193⟩ a w y196 ⟨T0, G197, rfl, hG194, H195⟩ hF hy51
   refine wp_seq (wc_region ?_)
   refine wl_rn (rn_pure (.bool (decide (x192 < (r9.1.length : Int)))) rfl) ?_
   refine wl_nil (then_n ?_)
   refine wp_seq ?_
   rcases bcases (decide (x192 < (r9.1.length : Int))) with hb198 | hb198
   ·replace hF := ifT hF hb198
    refine wc_true (vb hb198) ?_
    refine wp_skip ?_
    refine then_n ?_
    refine wp_seq (join (fun a w => ∃ (T0 : Fr) (G1 : Ghost) (x239 : Tauto_work), a = mk 74 (upds T0 [(4, (pt b5)), (7, (.slice A16 r9.1.length c17)), (8, (.int .i64 r9.2.1)), (10, (pt b31)), (11, (.map (some r35))), (41, (.slice A16 r9.1.length c17)), (42, (.int .i64 (r9.1.length : Int))), (43, (.int .i64 x192))]) ∧ GLe G197 G1 ∧ St c G1 w ((.mp r35 [⟨.int .i64 5, (.func (.func 70) #[(pt b31)] #[]), 0⟩, ⟨.int .i64 6, (.func (.func 71) #[(pt b31)] #[]), 1⟩, ⟨.int .i64 7, (.func (.func 72) #[(pt b31)] #[]), 2⟩, ⟨.int .i64 10, (.func (.func 72) #[(pt b31)] #[]), 3⟩] 4) :: (.box b31 105 (kTauto_work.at_ x239)) :: (.box b5 23 (kTAuto.at_ zTAuto)) :: σ) ∧ auto_Do_j2 x192 x239 = some y196) ?_ ?_)
    ·rintro a w ⟨T0, G242, x239, rfl, hG240, H241, hF⟩
     refine wc_region ?_
     iterate 2 refine wl_rn (rn_pure (.int .i64 (IntKind.i64.wrap (x192 + 1))) rfl) ?_
     refine wl_nil (then_n ?_)
     exact ⟨_, (Option.some.inj hF).symm, _, _, frame_eq [(4, (pt b5)), (7, (.slice A16 r9.1.length c17)), (8, (.int .i64 r9.2.1)), (10, (pt b31)), (11, (.map (some r35))), (41, (.slice A16 r9.1.length c17)), (42, (.int .i64 (r9.1.length : Int))), (43, (.int .i64 (IntKind.i64.wrap (x192 + 1))))] ⟨rfl, rfl, rfl, rfl, rfl, rfl, rfl, rfl, trivial⟩, (hG194.trans hG240), H241⟩
    ·refine wp_block ?_
     refine wp_seq (wc_region ?_)
     obtain ⟨x243, hx244, hF⟩ := bindS hF
     refine wl_rnE (rn_index (hs18.mono hG194) sl36 ty3 rfl rfl hx244) ?_
     intro a245 hp246
     refine wl_loadpd H195 hp246 (dInt .i64) ty3 rfl ?_
     refine wl_rn (rn_pure (.int .i64 x243) rfl) ?_
     refine wl_nil (then_n (wp_seq (wc_region ?_)))
     refine wl_rn (rn_pure (.map (some r35)) rfl) ?_
     refine wl_rn (rn_pure (.int .i64 x243) rfl) ?_
     rcases bcases (x243 == 5) with hb251 | hb251
     ·replace hF := ifT hF hb251
      refine wl_lookup (key := (.int .i64 x243)) (val := (.func (.func 70) #[(pt b31)] #[])) (ok := true) H195 (i := 0) rfl mt106 un3 rfl rfl (by simp [Go.MapKept.IsKey]) ⟨_, (fnd_yes hb251), .inl ⟨_, rfl, rfl⟩⟩ ?_
      refine wl_rn (rn_pure (.tuple #[(.func (.func 70) #[(pt b31)] #[]), (.bool true)]) rfl) ?_
      refine wl_rn (rn_pure (.func (.func 70) #[(pt b31)] #[]) rfl) ?_
      refine wl_rn (rn_pure (.bool true) rfl) ?_
      refine wl_rn (rn_pure (.func (.func 70) #[(pt b31)] #[]) rfl) ?_
      refine wl_rn (rn_pure (.bool true) rfl) ?_
      refine wl_nil (then_n (wp_seq (wc_region ?_)))
      refine wl_rn (rn_pure (.bool true) rfl) ?_
      refine wl_nil (then_n ?_)
      refine wc_true rfl ?_
      refine wc_region ?_
      refine wl_rn (rn_pure (.func (.func 70) #[(pt b31)] #[]) rfl) ?_
      obtain ⟨r252, hr253, hF⟩ := bindS hF
      refine wl_callv (first := [(pt b31)]) (captured := []) (vs := [(pt b31)]) en70 rfl rfl (auto_work_begin_ok hc (St.pick [(.mp r35 [⟨.int .i64 5, (.func (.func 70) #[(pt b31)] #[]), 0⟩, ⟨.int .i64 6, (.func (.func 71) #[(pt b31)] #[]), 1⟩, ⟨.int .i64 7, (.func (.func 72) #[(pt b31)] #[]), 2⟩, ⟨.int .i64 10, (.func (.func 72) #[(pt b31)] #[]), 3⟩] 4), (.box b31 105 (kTauto_work.at_ x193)), (.box b5 23 (kTAuto.at_ zTAuto))] [(.box b31 105 (kTauto_work.at_ x193)), (.mp r35 [⟨.int .i64 5, (.func (.func 70) #[(pt b31)] #[]), 0⟩, ⟨.int .i64 6, (.func (.func 71) #[(pt b31)] #[]), 1⟩, ⟨.int .i64 7, (.func (.func 72) #[(pt b31)] #[]), 2⟩, ⟨.int .i64 10, (.func (.func 72) #[(pt b31)] #[]), 3⟩] 4), (.box b5 23 (kTAuto.at_ zTAuto))] [1, 0, 2] H195 (by decide) rfl) hr253) ?_
      rintro v258 w257 ⟨G254, hG255, rfl, H256⟩
      refine wl_nil (blk_n ?_)
      refine then_n ?_
      exact ⟨_, _, r252, frame_eq [(4, (pt b5)), (7, (.slice A16 r9.1.length c17)), (8, (.int .i64 r9.2.1)), (10, (pt b31)), (11, (.map (some r35))), (41, (.slice A16 r9.1.length c17)), (42, (.int .i64 (r9.1.length : Int))), (43, (.int .i64 x192))] ⟨rfl, rfl, rfl, rfl, rfl, rfl, rfl, rfl, trivial⟩, hG255, (St.pick [(.box b31 105 (kTauto_work.at_ r252)), (.mp r35 [⟨.int .i64 5, (.func (.func 70) #[(pt b31)] #[]), 0⟩, ⟨.int .i64 6, (.func (.func 71) #[(pt b31)] #[]), 1⟩, ⟨.int .i64 7, (.func (.func 72) #[(pt b31)] #[]), 2⟩, ⟨.int .i64 10, (.func (.func 72) #[(pt b31)] #[]), 3⟩] 4), (.box b5 23 (kTAuto.at_ zTAuto))] [(.mp r35 [⟨.int .i64 5, (.func (.func 70) #[(pt b31)] #[]), 0⟩, ⟨.int .i64 6, (.func (.func 71) #[(pt b31)] #[]), 1⟩, ⟨.int .i64 7, (.func (.func 72) #[(pt b31)] #[]), 2⟩, ⟨.int .i64 10, (.func (.func 72) #[(pt b31)] #[]), 3⟩] 4), (.box b31 105 (kTauto_work.at_ r252)), (.box b5 23 (kTAuto.at_ zTAuto))] [1, 0, 2] H256 (by decide) rfl), hF⟩
     ·replace hF := ifF hF hb251
      rcases bcases (x243 == 6) with hb259 | hb259
      ·replace hF := ifT hF hb259
       refine wl_lookup (key := (.int .i64 x243)) (val := (.func (.func 71) #[(pt b31)] #[])) (ok := true) H195 (i := 0) rfl mt106 un3 rfl rfl (by simp [Go.MapKept.IsKey]) ⟨_, (fnd_no hb251 (fnd_yes hb259)), .inl ⟨_, rfl, rfl⟩⟩ ?_
       refine wl_rn (rn_pure (.tuple #[(.func (.func 71) #[(pt b31)] #[]), (.bool true)]) rfl) ?_
       refine wl_rn (rn_pure (.func (.func 71) #[(pt b31)] #[]) rfl) ?_
       refine wl_rn (rn_pure (.bool true) rfl) ?_
       refine wl_rn (rn_pure (.func (.func 71) #[(pt b31)] #[]) rfl) ?_
       refine wl_rn (rn_pure (.bool true) rfl) ?_
       refine wl_nil (then_n (wp_seq (wc_region ?_)))
       refine wl_rn (rn_pure (.bool true) rfl) ?_
       refine wl_nil (then_n ?_)
       refine wc_true rfl ?_
       refine wc_region ?_
       refine wl_rn (rn_pure (.func (.func 71) #[(pt b31)] #[]) rfl) ?_
       obtain ⟨r260, hr261, hF⟩ := bindS hF
       refine wl_callv (first := [(pt b31)]) (captured := []) (vs := [(pt b31)]) en71 rfl rfl (auto_work_nought_ok hc (St.pick [(.mp r35 [⟨.int .i64 5, (.func (.func 70) #[(pt b31)] #[]), 0⟩, ⟨.int .i64 6, (.func (.func 71) #[(pt b31)] #[]), 1⟩, ⟨.int .i64 7, (.func (.func 72) #[(pt b31)] #[]), 2⟩, ⟨.int .i64 10, (.func (.func 72) #[(pt b31)] #[]), 3⟩] 4), (.box b31 105 (kTauto_work.at_ x193)), (.box b5 23 (kTAuto.at_ zTAuto))] [(.box b31 105 (kTauto_work.at_ x193)), (.mp r35 [⟨.int .i64 5, (.func (.func 70) #[(pt b31)] #[]), 0⟩, ⟨.int .i64 6, (.func (.func 71) #[(pt b31)] #[]), 1⟩, ⟨.int .i64 7, (.func (.func 72) #[(pt b31)] #[]), 2⟩, ⟨.int .i64 10, (.func (.func 72) #[(pt b31)] #[]), 3⟩] 4), (.box b5 23 (kTAuto.at_ zTAuto))] [1, 0, 2] H195 (by decide) rfl) hr261) ?_
       rintro v266 w265 ⟨G262, hG263, rfl, H264⟩
       refine wl_nil (blk_n ?_)
       refine then_n ?_
       exact ⟨_, _, r260, frame_eq [(4, (pt b5)), (7, (.slice A16 r9.1.length c17)), (8, (.int .i64 r9.2.1)), (10, (pt b31)), (11, (.map (some r35))), (41, (.slice A16 r9.1.length c17)), (42, (.int .i64 (r9.1.length : Int))), (43, (.int .i64 x192))] ⟨rfl, rfl, rfl, rfl, rfl, rfl, rfl, rfl, trivial⟩, hG263, (St.pick [(.box b31 105 (kTauto_work.at_ r260)), (.mp r35 [⟨.int .i64 5, (.func (.func 70) #[(pt b31)] #[]), 0⟩, ⟨.int .i64 6, (.func (.func 71) #[(pt b31)] #[]), 1⟩, ⟨.int .i64 7, (.func (.func 72) #[(pt b31)] #[]), 2⟩, ⟨.int .i64 10, (.func (.func 72) #[(pt b31)] #[]), 3⟩] 4), (.box b5 23 (kTAuto.at_ zTAuto))] [(.mp r35 [⟨.int .i64 5, (.func (.func 70) #[(pt b31)] #[]), 0⟩, ⟨.int .i64 6, (.func (.func 71) #[(pt b31)] #[]), 1⟩, ⟨.int .i64 7, (.func (.func 72) #[(pt b31)] #[]), 2⟩, ⟨.int .i64 10, (.func (.func 72) #[(pt b31)] #[]), 3⟩] 4), (.box b31 105 (kTauto_work.at_ r260)), (.box b5 23 (kTAuto.at_ zTAuto))] [1, 0, 2] H264 (by decide) rfl), hF⟩
      ·replace hF := ifF hF hb259
       rcases bcases (x243 == 7) with hb267 | hb267
       ·replace hF := ifT hF hb267
        refine wl_lookup (key := (.int .i64 x243)) (val := (.func (.func 72) #[(pt b31)] #[])) (ok := true) H195 (i := 0) rfl mt106 un3 rfl rfl (by simp [Go.MapKept.IsKey]) ⟨_, (fnd_no hb251 (fnd_no hb259 (fnd_yes hb267))), .inl ⟨_, rfl, rfl⟩⟩ ?_
        refine wl_rn (rn_pure (.tuple #[(.func (.func 72) #[(pt b31)] #[]), (.bool true)]) rfl) ?_
        refine wl_rn (rn_pure (.func (.func 72) #[(pt b31)] #[]) rfl) ?_
        refine wl_rn (rn_pure (.bool true) rfl) ?_
        refine wl_rn (rn_pure (.func (.func 72) #[(pt b31)] #[]) rfl) ?_
        refine wl_rn (rn_pure (.bool true) rfl) ?_
        refine wl_nil (then_n (wp_seq (wc_region ?_)))
        refine wl_rn (rn_pure (.bool true) rfl) ?_
        refine wl_nil (then_n ?_)
        refine wc_true rfl ?_
        refine wc_region ?_
        refine wl_rn (rn_pure (.func (.func 72) #[(pt b31)] #[]) rfl) ?_
        obtain ⟨r268, hr269, hF⟩ := bindS hF
        refine wl_callv (first := [(pt b31)]) (captured := []) (vs := [(pt b31)]) en72 rfl rfl (auto_work_send_ok hc (St.pick [(.mp r35 [⟨.int .i64 5, (.func (.func 70) #[(pt b31)] #[]), 0⟩, ⟨.int .i64 6, (.func (.func 71) #[(pt b31)] #[]), 1⟩, ⟨.int .i64 7, (.func (.func 72) #[(pt b31)] #[]), 2⟩, ⟨.int .i64 10, (.func (.func 72) #[(pt b31)] #[]), 3⟩] 4), (.box b31 105 (kTauto_work.at_ x193)), (.box b5 23 (kTAuto.at_ zTAuto))] [(.box b31 105 (kTauto_work.at_ x193)), (.mp r35 [⟨.int .i64 5, (.func (.func 70) #[(pt b31)] #[]), 0⟩, ⟨.int .i64 6, (.func (.func 71) #[(pt b31)] #[]), 1⟩, ⟨.int .i64 7, (.func (.func 72) #[(pt b31)] #[]), 2⟩, ⟨.int .i64 10, (.func (.func 72) #[(pt b31)] #[]), 3⟩] 4), (.box b5 23 (kTAuto.at_ zTAuto))] [1, 0, 2] H195 (by decide) rfl) hr269) ?_
        rintro v274 w273 ⟨G270, hG271, rfl, H272⟩
        refine wl_nil (blk_n ?_)
        refine then_n ?_
        exact ⟨_, _, r268, frame_eq [(4, (pt b5)), (7, (.slice A16 r9.1.length c17)), (8, (.int .i64 r9.2.1)), (10, (pt b31)), (11, (.map (some r35))), (41, (.slice A16 r9.1.length c17)), (42, (.int .i64 (r9.1.length : Int))), (43, (.int .i64 x192))] ⟨rfl, rfl, rfl, rfl, rfl, rfl, rfl, rfl, trivial⟩, hG271, (St.pick [(.box b31 105 (kTauto_work.at_ r268)), (.mp r35 [⟨.int .i64 5, (.func (.func 70) #[(pt b31)] #[]), 0⟩, ⟨.int .i64 6, (.func (.func 71) #[(pt b31)] #[]), 1⟩, ⟨.int .i64 7, (.func (.func 72) #[(pt b31)] #[]), 2⟩, ⟨.int .i64 10, (.func (.func 72) #[(pt b31)] #[]), 3⟩] 4), (.box b5 23 (kTAuto.at_ zTAuto))] [(.mp r35 [⟨.int .i64 5, (.func (.func 70) #[(pt b31)] #[]), 0⟩, ⟨.int .i64 6, (.func (.func 71) #[(pt b31)] #[]), 1⟩, ⟨.int .i64 7, (.func (.func 72) #[(pt b31)] #[]), 2⟩, ⟨.int .i64 10, (.func (.func 72) #[(pt b31)] #[]), 3⟩] 4), (.box b31 105 (kTauto_work.at_ r268)), (.box b5 23 (kTAuto.at_ zTAuto))] [1, 0, 2] H272 (by decide) rfl), hF⟩
       ·replace hF := ifF hF hb267
        rcases bcases (x243 == 10) with hb275 | hb275
        ·replace hF := ifT hF hb275
         refine wl_lookup (key := (.int .i64 x243)) (val := (.func (.func 72) #[(pt b31)] #[])) (ok := true) H195 (i := 0) rfl mt106 un3 rfl rfl (by simp [Go.MapKept.IsKey]) ⟨_, (fnd_no hb251 (fnd_no hb259 (fnd_no hb267 (fnd_yes hb275)))), .inl ⟨_, rfl, rfl⟩⟩ ?_
         refine wl_rn (rn_pure (.tuple #[(.func (.func 72) #[(pt b31)] #[]), (.bool true)]) rfl) ?_
         refine wl_rn (rn_pure (.func (.func 72) #[(pt b31)] #[]) rfl) ?_
         refine wl_rn (rn_pure (.bool true) rfl) ?_
         refine wl_rn (rn_pure (.func (.func 72) #[(pt b31)] #[]) rfl) ?_
         refine wl_rn (rn_pure (.bool true) rfl) ?_
         refine wl_nil (then_n (wp_seq (wc_region ?_)))
         refine wl_rn (rn_pure (.bool true) rfl) ?_
         refine wl_nil (then_n ?_)
         refine wc_true rfl ?_
         refine wc_region ?_
         refine wl_rn (rn_pure (.func (.func 72) #[(pt b31)] #[]) rfl) ?_
         obtain ⟨r276, hr277, hF⟩ := bindS hF
         refine wl_callv (first := [(pt b31)]) (captured := []) (vs := [(pt b31)]) en72 rfl rfl (auto_work_send_ok hc (St.pick [(.mp r35 [⟨.int .i64 5, (.func (.func 70) #[(pt b31)] #[]), 0⟩, ⟨.int .i64 6, (.func (.func 71) #[(pt b31)] #[]), 1⟩, ⟨.int .i64 7, (.func (.func 72) #[(pt b31)] #[]), 2⟩, ⟨.int .i64 10, (.func (.func 72) #[(pt b31)] #[]), 3⟩] 4), (.box b31 105 (kTauto_work.at_ x193)), (.box b5 23 (kTAuto.at_ zTAuto))] [(.box b31 105 (kTauto_work.at_ x193)), (.mp r35 [⟨.int .i64 5, (.func (.func 70) #[(pt b31)] #[]), 0⟩, ⟨.int .i64 6, (.func (.func 71) #[(pt b31)] #[]), 1⟩, ⟨.int .i64 7, (.func (.func 72) #[(pt b31)] #[]), 2⟩, ⟨.int .i64 10, (.func (.func 72) #[(pt b31)] #[]), 3⟩] 4), (.box b5 23 (kTAuto.at_ zTAuto))] [1, 0, 2] H195 (by decide) rfl) hr277) ?_
         rintro v282 w281 ⟨G278, hG279, rfl, H280⟩
         refine wl_nil (blk_n ?_)
         refine then_n ?_
         exact ⟨_, _, r276, frame_eq [(4, (pt b5)), (7, (.slice A16 r9.1.length c17)), (8, (.int .i64 r9.2.1)), (10, (pt b31)), (11, (.map (some r35))), (41, (.slice A16 r9.1.length c17)), (42, (.int .i64 (r9.1.length : Int))), (43, (.int .i64 x192))] ⟨rfl, rfl, rfl, rfl, rfl, rfl, rfl, rfl, trivial⟩, hG279, (St.pick [(.box b31 105 (kTauto_work.at_ r276)), (.mp r35 [⟨.int .i64 5, (.func (.func 70) #[(pt b31)] #[]), 0⟩, ⟨.int .i64 6, (.func (.func 71) #[(pt b31)] #[]), 1⟩, ⟨.int .i64 7, (.func (.func 72) #[(pt b31)] #[]), 2⟩, ⟨.int .i64 10, (.func (.func 72) #[(pt b31)] #[]), 3⟩] 4), (.box b5 23 (kTAuto.at_ zTAuto))] [(.mp r35 [⟨.int .i64 5, (.func (.func 70) #[(pt b31)] #[]), 0⟩, ⟨.int .i64 6, (.func (.func 71) #[(pt b31)] #[]), 1⟩, ⟨.int .i64 7, (.func (.func 72) #[(pt b31)] #[]), 2⟩, ⟨.int .i64 10, (.func (.func 72) #[(pt b31)] #[]), 3⟩] 4), (.box b31 105 (kTauto_work.at_ r276)), (.box b5 23 (kTAuto.at_ zTAuto))] [1, 0, 2] H280 (by decide) rfl), hF⟩
        ·replace hF := ifF hF hb275
         refine wl_lookup (key := (.int .i64 x243)) (val := (.nilFunc)) (ok := false) H195 (i := 0) rfl mt106 un3 rfl rfl (by simp [Go.MapKept.IsKey]) ⟨_, (fnd_no hb251 (fnd_no hb259 (fnd_no hb267 (fnd_no hb275 rfl)))), .inr ⟨rfl, rfl, mz1⟩⟩ ?_
         refine wl_rn (rn_pure (.tuple #[(.nilFunc), (.bool false)]) rfl) ?_
         refine wl_rn (rn_pure (.nilFunc) rfl) ?_
         refine wl_rn (rn_pure (.bool false) rfl) ?_
         refine wl_rn (rn_pure (.nilFunc) rfl) ?_
         refine wl_rn (rn_pure (.bool false) rfl) ?_
         refine wl_nil (then_n (wp_seq (wc_region ?_)))
         refine wl_rn (rn_pure (.bool false) rfl) ?_
         refine wl_nil (then_n ?_)
         refine wc_false rfl ?_
         refine wp_skip ?_
         refine blk_n ?_
         refine then_n ?_
         exact ⟨_, _, x193, frame_eq [(4, (pt b5)), (7, (.slice A16 r9.1.length c17)), (8, (.int .i64 r9.2.1)), (10, (pt b31)), (11, (.map (some r35))), (41, (.slice A16 r9.1.length c17)), (42, (.int .i64 (r9.1.length : Int))), (43, (.int .i64 x192))] ⟨rfl, rfl, rfl, rfl, rfl, rfl, rfl, rfl, trivial⟩, GLe.refl _, H195, hF⟩
   ·replace hF := ifF hF hb198
    refine wc_false (vb hb198) ?_
    refine wp_exit ?_
    iterate 2 refine then_e ?_
    replace hF := exitS hF hy51
    refine blk_e ?_
    refine then_n ?_
    refine wp_seq (wc_region ?_)
    refine wl_rn (rn_pure (pt b31) rfl) ?_
    refine wl_rn (rn_pure (.int .i64 r9.2.1) rfl) ?_
    refine wl_rn (rn_nilCheck rfl) ?_
    refine wl_rn (rn_field fo105_0 rfl) ?_
    refine wl_rn (rn_field fo23_0 rfl) ?_
    refine wl_store (z := r9.2.1) H195 (i := 1) rfl (Lens.then lTauto_work_Auto lTAuto_State) ty3 rfl rfl ((dInt .i64).toV _ _) ?_
    intro w284 H283
    refine wl_nil (then_n ?_)
    refine wp_seq ?_
    refine wp_seq (wc_region ?_)
    refine wl_rn (rn_pure (.int .i64 r9.2.1) rfl) ?_
    obtain ⟨r285, hr286, hF⟩ := bindS hF
    refine wl_call (vs := [(.int .i64 r9.2.1)]) en64 rfl (fsm_Timed_ok hc H283 hr286) ?_
    rintro v291 w290 ⟨G287, hG288, rfl, H289⟩
    refine wl_rn (rn_pure (.bool (!r285)) rfl) ?_
    refine wl_nil (then_n ?_)
    rcases bcases (!r285) with hb292 | hb292
    ·replace hF := ifT hF hb292
     refine wc_true (vb hb292) ?_
     refine wc_region ?_
     refine wl_rn (rn_pure (pt b31) rfl) ?_
     refine wl_rn (rn_nilCheck rfl) ?_
     refine wl_rn (rn_field fo105_0 rfl) ?_
     refine wl_rn (rn_field fo23_2 rfl) ?_
     refine wl_store (z := 0) H289 (i := 1) rfl (Lens.then lTauto_work_Auto lTAuto_Left) ty3 rfl rfl ((dInt .i64).toV _ _) ?_
     intro w294 H293
     refine wl_nil (then_n (wp_seq (wc_region ?_)))
     refine wl_rn (rn_pure (pt b31) rfl) ?_
     refine wl_rn (rn_nilCheck rfl) ?_
     refine wl_rn (rn_field fo105_0 rfl) ?_
     refine wl_load H293 (i := 1) rfl lTauto_work_Auto ty23 rfl ?_
     intro v295 hv296
     refine wl_rn (rn_pure (.slice A16 r9.1.length c17) rfl) ?_
     refine wl_store (z := (TAuto.mk r9.2.1 x193.Auto.Count 0 x193.Auto.Id)) H293 (i := 2) rfl (Lens.id kTAuto) ty23 rfl rfl hv296 ?_
     intro w298 H297
     refine wl_rn (rn_pure (.slice A16 r9.1.length c17) rfl) ?_
     refine wl_rn (rn_pure (.int .i64 0) rfl) ?_
     refine wl_nil (then_n ?_)
     refine wp_ret ?_
     obtain ⟨v299, hv300, hl301⟩ := H297.loadv (i := 2) rfl ty23
     have hF := Option.some.inj hF
     subst hF
     exact ret_mk rfl (RV.cell rfl hl301 (RV.tmp rfl (RV.tmp rfl RV.nil))) ⟨_, v299, A16, c17, ((hG12.trans hG194).trans hG288), rfl, (St.pick [(.mp r35 [⟨.int .i64 5, (.func (.func 70) #[(pt b31)] #[]), 0⟩, ⟨.int .i64 6, (.func (.func 71) #[(pt b31)] #[]), 1⟩, ⟨.int .i64 7, (.func (.func 72) #[(pt b31)] #[]), 2⟩, ⟨.int .i64 10, (.func (.func 72) #[(pt b31)] #[]), 3⟩] 4), (.box b31 105 (kTauto_work.at_ (Tauto_work.mk (TAuto.mk r9.2.1 x193.Auto.Count 0 x193.Auto.Id) x193.L))), (.box b5 23 (kTAuto.at_ (TAuto.mk r9.2.1 x193.Auto.Count 0 x193.Auto.Id)))] [] [] H297 (by decide) rfl), hv300, (hs18.mono (hG194.trans hG288))⟩
    ·replace hF := ifF hF hb292
     refine wc_false (vb hb292) ?_
     refine wp_skip ?_
     refine then_n ?_
     refine wp_seq (wc_region ?_)
     refine wl_rn (rn_pure (pt b31) rfl) ?_
     refine wl_rn (rn_nilCheck rfl) ?_
     refine wl_rn (rn_field fo105_0 rfl) ?_
     refine wl_load H289 (i := 1) rfl lTauto_work_Auto ty23 rfl ?_
     intro v302 hv303
     refine wl_rn (rn_pure (.slice A16 r9.1.length c17) rfl) ?_
     refine wl_store (z := (TAuto.mk r9.2.1 x193.Auto.Count x193.Auto.Left x193.Auto.Id)) H289 (i := 2) rfl (Lens.id kTAuto) ty23 rfl rfl hv303 ?_
     intro w305 H304
     refine wl_rn (rn_pure (.slice A16 r9.1.length c17) rfl) ?_
     refine wl_rn (rn_pure (.int .i64 0) rfl) ?_
     refine wl_nil (then_n ?_)
     refine wp_ret ?_
     obtain ⟨v306, hv307, hl308⟩ := H304.loadv (i := 2) rfl ty23
     have hF := Option.some.inj hF
     subst hF
     exact ret_mk rfl (RV.cell rfl hl308 (RV.tmp rfl (RV.tmp rfl RV.nil))) ⟨_, v306, A16, c17, ((hG12.trans hG194).trans hG288), rfl, (St.pick [(.mp r35 [⟨.int .i64 5, (.func (.func 70) #[(pt b31)] #[]), 0⟩, ⟨.int .i64 6, (.func (.func 71) #[(pt b31)] #[]), 1⟩, ⟨.int .i64 7, (.func (.func 72) #[(pt b31)] #[]), 2⟩, ⟨.int .i64 10, (.func (.func 72) #[(pt b31)] #[]), 3⟩] 4), (.box b31 105 (kTauto_work.at_ (Tauto_work.mk (TAuto.mk r9.2.1 x193.Auto.Count x193.Auto.Left x193.Auto.Id) x193.L))), (.box b5 23 (kTAuto.at_ (TAuto.mk r9.2.1 x193.Auto.Count x193.Auto.Left x193.Auto.Id)))] [] [] H304 (by decide) rfl), hv307, (hs18.mono (hG194.trans hG288))⟩

theorem opts_Bytes_ok {c : World} (hc : Hc c) {G : Ghost} {w : World} {σ : List Ent} {a0 : (List TOpt)} {A0_ : Option Addr} {c0_ : Nat} (h0_ : SlR kTOpt G A0_ c0_ a0) (H : St c G w (σ)) {r : ((List Int) × Int)} (hF : opts_Bytes a0 = some r) :
  Calls Tryd.prog 41 ([(.slice A0_ a0.length c0_)] : List Value).toArray w (Ends fun v w' => ∃ (G' : Ghost) (A1' : Option Addr) (c2' : Nat), GLe G G' ∧ tup [(.slice A1' r.1.length c2'), (.int .i64 r.2)] = v ∧ St c G' w' (σ) ∧ SlR kB G' A1' c2' r.1) := by
 unfold opts_Bytes at hF
 refine calls_mk Tryd.func41 rfl rfl rfl ?_
 refine wp_seq (wc_region ?_)
 refine wl_rn (rn_pure (.slice none 0 0) rfl) ?_
 refine wl_rn (rn_pure (.int .i64 0) rfl) ?_
 refine wl_nil (then_n (wp_seq (wc_region ?_)))
 refine wl_rn (rn_pure (.slice none 0 0) rfl) ?_
 refine wl_nil (then_n ?_)
 refine wp_seq ?_
 refine wp_seq (wc_region ?_)
 refine wl_rn (rn_pure (.slice A0_ a0.length c0_) rfl) ?_
 refine wl_rn (rn_len sl27 rfl) ?_
 refine wl_rn (rn_pure (.int .i64 0) rfl) ?_
 refine wl_nil (then_n ?_)
 refine wp_block ?_
 have H398 := H.nilrow kB none 5
 refine wp_loopX (fun (s : ((List Int) × Int)) a w => ∃ (T0 : Fr) (G1 : Ghost) (g107 : Option Nat) (A108 : Option Addr) (c109 : Nat), a = mk 35 (upds T0 [(4, (.slice A108 s.1.length c109)), (7, (.slice A0_ a0.length c0_)), (8, (.int .i64 (a0.length : Int))), (9, (.int .i64 s.2))]) ∧ GLe G G1 ∧ St c G1 w ((.row kB g107 A108 c109 5 s.1) :: σ)) hF ?_ ?_
 ·exact ⟨_, _, none, none, 0, frame_eq [(4, (.slice none ([] : (List Int)).length 0)), (7, (.slice A0_ a0.length c0_)), (8, (.int .i64 (a0.length : Int))), (9, (.int .i64 0))] ⟨rfl, rfl, rfl, rfl, trivial⟩, GLe.refl _, H398⟩
 ·rintro ⟨x106, x111⟩ a w y114 ⟨T0, G115, g107, A108, c109, rfl, hG112, H113⟩ hF hy1
  refine wp_seq (wc_region ?_)
  refine wl_rn (rn_pure (.bool (decide (x111 < (a0.length : Int)))) rfl) ?_
  refine wl_nil (then_n ?_)
  refine wp_seq ?_
  rcases bcases (decide (x111 < (a0.length : Int))) with hb116 | hb116
  ·replace hF := ifT hF hb116
   refine wc_true (vb hb116) ?_
   refine wp_skip ?_
   refine then_n ?_
   refine wp_seq ?_
   refine wp_block ?_
   refine wp_seq (wc_region ?_)
   obtain ⟨x163, hx164, hF⟩ := bindS hF
   refine wl_rnE (rn_index (h0_.mono hG112) sl27 ty60 rfl rfl hx164) ?_
   intro a165 hp166
   refine wl_loadp H113 hp166 ty60 rfl ?_
   intro v167 hv168
   refine wl_alloc H113 zr60 ?_
   intro b169 w172 H170
   refine wl_store (z := x163) H170 (i := 0) rfl (Lens.id kTOpt) ty60 rfl rfl hv168 ?_
   intro w174 H173
   refine wl_nil (then_n ?_)
   refine wp_seq ?_
   refine wp_seq (wc_region ?_)
   refine wl_rn (rn_field fo60_1 rfl) ?_
   refine wl_load H173 (i := 0) rfl lTOpt_Data ty30 rfl ?_
   intro v175 hv176
   obtain ⟨A177, c178, rfl, hs179⟩ := slice_V hv176
   refine wl_rn (rn_len sl30 rfl) ?_
   refine wl_rn (rn_pure (.bool (decide ((x163.Data.length : Int) > 253))) rfl) ?_
   refine wl_nil (then_n ?_)
   rcases bcases (decide ((x163.Data.length : Int) > 253)) with hb180 | hb180
   ·replace hF := ifT hF hb180
    refine wc_true (vb hb180) ?_
    refine wp_seq (wc_region ?_)
    refine wl_rn (rn_pure (.slice none 0 0) rfl) ?_
    refine wl_rn (rn_pure (.int .i64 1) rfl) ?_
    refine wl_nil (then_n ?_)
    refine wp_ret ?_
    refine then_r ?_
    refine blk_r ?_
    iterate 2 refine then_r ?_
    replace hF := exitS hF hy1
    refine blk_r ?_
    refine then_r ?_
    have hF := Option.some.inj hF
    subst hF
    exact ret_mk rfl (RV.tmp rfl (RV.tmp rfl RV.nil)) ⟨_, none, 0, hG112, rfl, (St.pick [(.box b169 60 (kTOpt.at_ x163)), (.row kB g107 A108 c109 5 x106)] [] [] H173 (by decide) rfl), (SlR.nil _ _)⟩
   ·replace hF := ifF hF hb180
    refine wc_false (vb hb180) ?_
    refine wp_skip ?_
    refine then_n ?_
    refine wc_anyS (f := 14) H173 mixed ?_
    intro w181 H182
    refine any_pf (by repeat (first | exact PF.base | apply PF.then_ | apply PF.blk)) ?_
    intro hPF hns
    obtain ⟨r192, hr193, hF⟩ := bindS hF
    obtain ⟨r204, hr205, hF⟩ := bindS hF
    refine any_memo (fuel := 2) (m := 4095) (fun a w => ∃ (T0 : Fr) (G1 : Ghost) (g309 : Option Nat) (A310 : Option Addr) (c311 : Nat) (A312 : Option Addr) (c313 : Nat), a = mk 35 (upds T0 [(7, (.slice A0_ a0.length c0_)), (8, (.int .i64 (a0.length : Int))), (9, (.int .i64 x111)), (26, (.slice A310 r192.length c311)), (28, (.slice A312 x163.Data.length c313))]) ∧ GLe G115 G1 ∧ St c G1 w ((.row kB g309 A310 c311 5 r192) :: σ) ∧ SlR kB G1 A312 c313 x163.Data) ?_ ?_
    ·rintro a w ⟨T0, G308, g309, A310, c311, A312, c313, rfl, hG306, H307, hs314⟩
     refine any_alls [12] ⟨any_ops (m' := 8191) fun Q' hN => ?_, trivial⟩
     refine wl_append H307 sl30 el5 (i := 0) rfl rfl rfl (hs314.src H307.ag) hr205 ?_
     intro g320 A321 c322 w323 H324
     refine wl_nil (hN _ _ ?_)
     refine any_rn (i := 13) (m' := 16383) rfl (rn_pure (.slice A321 r204.length c322) rfl) hPF hns ?_
     refine any_end ?_
     refine blk_n ?_
     refine then_n ?_
     refine wc_region ?_
     iterate 2 refine wl_rn (rn_pure (.int .i64 (IntKind.i64.wrap (x111 + 1))) rfl) ?_
     refine wl_nil (then_n ?_)
     exact ⟨_, (Option.some.inj hF).symm, _, _, g320, A321, c322, frame_eq [(4, (.slice A321 r204.length c322)), (7, (.slice A0_ a0.length c0_)), (8, (.int .i64 (a0.length : Int))), (9, (.int .i64 (IntKind.i64.wrap (x111 + 1))))] ⟨rfl, rfl, rfl, rfl, trivial⟩, (hG112.trans hG306), H324⟩
    intro hM305
    refine any_memo (fuel := 3) (m := 3583) (fun a w => ∃ (T0 : Fr) (G1 : Ghost) (g299 : Option Nat) (A300 : Option Addr) (c301 : Nat) (A302 : Option Addr) (c303 : Nat), a = mk 35 (upds T0 [(7, (.slice A0_ a0.length c0_)), (8, (.int .i64 (a0.length : Int))), (9, (.int .i64 x111)), (17, (.slice A108 x106.length c109)), (25, (.slice A300 ([x163.Typ, (IntKind.u8.wrap ((IntKind.i64.wrap ((x163.Data.length : Int) + 2))))] : (List Int)).length c301)), (28, (.slice A302 x163.Data.length c303))]) ∧ GLe G115 G1 ∧ St c G1 w ((.row kB g107 A108 c109 5 x106) :: (.row kB g299 A300 c301 5 ([x163.Typ, (IntKind.u8.wrap ((IntKind.i64.wrap ((x163.Data.length : Int) + 2))))] : (List Int))) :: σ) ∧ SlR kB G1 A302 c303 x163.Data) ?_ ?_
    ·rintro a w ⟨T0, G298, g299, A300, c301, A302, c303, rfl, hG296, H297, hs304⟩
     refine any_alls [9] ⟨any_ops (m' := 4095) fun Q' hN => ?_, trivial⟩
     refine wl_append H297 sl30 el5 (i := 0) rfl rfl rfl ((H297.okAt (i := 1) rfl).src) hr193 ?_
     intro g325 A326 c327 w328 H329
     refine wl_nil (hN _ _ ?_)
     exact hM305 _ _ ⟨_, _, g325, A326, c327, A302, c303, frame_eq [(7, (.slice A0_ a0.length c0_)), (8, (.int .i64 (a0.length : Int))), (9, (.int .i64 x111)), (26, (.slice A326 r192.length c327)), (28, (.slice A302 x163.Data.length c303))] ⟨rfl, rfl, rfl, rfl, rfl, trivial⟩, hG296, (St.pick [(.row kB g325 A326 c327 5 r192), (.row kB g299 A300 c301 5 ([x163.Typ, (IntKind.u8.wrap ((IntKind.i64.wrap ((x163.Data.length : Int) + 2))))] : (List Int)))] [(.row kB g325 A326 c327 5 r192)] [0] H329 (by decide) rfl), hs304⟩
    intro hM295
    refine any_memo (fuel := 4) (m := 3327) (fun a w => ∃ (T0 : Fr) (G1 : Ghost) (A287 : Option Addr) (c288 : Nat), a = mk 35 (upds T0 [(7, (.slice A0_ a0.length c0_)), (8, (.int .i64 (a0.length : Int))), (9, (.int .i64 x111)), (17, (.slice A108 x106.length c109)), (19, (.int .u8 x163.Typ)), (24, (.int .u8 (IntKind.u8.wrap ((IntKind.i64.wrap ((x163.Data.length : Int) + 2)))))), (28, (.slice A287 x163.Data.length c288))]) ∧ GLe G115 G1 ∧ St c G1 w ((.row kB g107 A108 c109 5 x106) :: σ) ∧ SlR kB G1 A287 c288 x163.Data) ?_ ?_
    ·rintro a w ⟨T0, G286, A287, c288, rfl, hG284, H285, hs289⟩
     refine any_alls [8] ⟨any_ops (m' := 3583) fun Q' hN => ?_, trivial⟩
     refine wl_lit (K := kB) (vs := [(.int .u8 x163.Typ), (.int .u8 (IntKind.u8.wrap ((IntKind.i64.wrap ((x163.Data.length : Int) + 2)))))]) (xs := ([x163.Typ, (IntKind.u8.wrap ((IntKind.i64.wrap ((x163.Data.length : Int) + 2))))] : (List Int))) H285 sl30 el5 rfl ⟨((dInt .u8).toV _ _), ((dInt .u8).toV _ _), trivial⟩ rfl (by decide) ?_
     intro g330 w332 H331
     refine wl_nil (hN _ _ ?_)
     exact hM295 _ _ ⟨_, _, (some g330), (some ⟨g330, 0, none⟩), 2, A287, c288, frame_eq [(7, (.slice A0_ a0.length c0_)), (8, (.int .i64 (a0.length : Int))), (9, (.int .i64 x111)), (17, (.slice A108 x106.length c109)), (25, (.slice (some ⟨g330, 0, none⟩) ([x163.Typ, (IntKind.u8.wrap ((IntKind.i64.wrap ((x163.Data.length : Int) + 2))))] : (List Int)).length 2)), (28, (.slice A287 x163.Data.length c288))] ⟨rfl, rfl, rfl, rfl, rfl, rfl, trivial⟩, hG284, (St.pick [(.row kB (some g330) (some ⟨g330, 0, none⟩) 2 5 ([x163.Typ, (IntKind.u8.wrap ((IntKind.i64.wrap ((x163.Data.length : Int) + 2))))] : (List Int))), (.row kB g107 A108 c109 5 x106)] [(.row kB g107 A108 c109 5 x106), (.row kB (some g330) (some ⟨g330, 0, none⟩) 2 5 ([x163.Typ, (IntKind.u8.wrap ((IntKind.i64.wrap ((x163.Data.length : Int) + 2))))] : (List Int)))] [1, 0] H331 (by decide) rfl), hs289⟩
    intro hM283
    refine any_memo (fuel := 5) (m := 3323) (fun a w => ∃ (T0 : Fr) (G1 : Ghost) (A270 : Option Addr) (c271 : Nat), a = mk 35 (upds T0 [(7, (.slice A0_ a0.length c0_)), (8, (.int .i64 (a0.length : Int))), (9, (.int .i64 x111)), (17, (.slice A108 x106.length c109)), (18, (pt b169)), (24, (.int .u8 (IntKind.u8.wrap ((IntKind.i64.wrap ((x163.Data.length : Int) + 2)))))), (28, (.slice A270 x163.Data.length c271))]) ∧ GLe G115 G1 ∧ St c G1 w ((.row kB g107 A108 c109 5 x106) :: (.box b169 60 (kTOpt.at_ x163)) :: σ) ∧ SlR kB G1 A270 c271 x163.Data) ?_ ?_
    ·rintro a w ⟨T0, G269, A270, c271, rfl, hG267, H268, hs272⟩
     refine any_alls [2] ⟨any_ops (m' := 3327) fun Q' hN => ?_, trivial⟩
     refine wl_loadd H268 (i := 1) rfl lTOpt_Typ (dInt .u8) ty5 rfl ?_
     refine wl_nil (hN _ _ ?_)
     exact hM283 _ _ ⟨_, _, A270, c271, frame_eq [(7, (.slice A0_ a0.length c0_)), (8, (.int .i64 (a0.length : Int))), (9, (.int .i64 x111)), (17, (.slice A108 x106.length c109)), (19, (.int .u8 x163.Typ)), (24, (.int .u8 (IntKind.u8.wrap ((IntKind.i64.wrap ((x163.Data.length : Int) + 2)))))), (28, (.slice A270 x163.Data.length c271))] ⟨rfl, rfl, rfl, rfl, rfl, rfl, rfl, trivial⟩, hG267, (St.pick [(.row kB g107 A108 c109 5 x106), (.box b169 60 (kTOpt.at_ x163))] [(.row kB g107 A108 c109 5 x106)] [0] H268 (by decide) rfl), hs272⟩
    intro hM266
    refine any_memo (fuel := 5) (m := 1279) (fun a w => ∃ (T0 : Fr) (G1 : Ghost), a = mk 35 (upds T0 [(7, (.slice A0_ a0.length c0_)), (8, (.int .i64 (a0.length : Int))), (9, (.int .i64 x111)), (17, (.slice A108 x106.length c109)), (19, (.int .u8 x163.Typ)), (24, (.int .u8 (IntKind.u8.wrap ((IntKind.i64.wrap ((x163.Data.length : Int) + 2)))))), (27, (pu b169 1))]) ∧ GLe G115 G1 ∧ St c G1 w ((.row kB g107 A108 c109 5 x106) :: (.box b169 60 (kTOpt.at_ x163)) :: σ)) ?_ ?_
    ·rintro a w ⟨T0, G256, rfl, hG254, H255⟩
     refine any_alls [8, 11] ⟨?_, ?_, trivial⟩
     ·refine any_ops (m' := 1535) fun Q' hN => ?_
      refine wl_lit (K := kB) (vs := [(.int .u8 x163.Typ), (.int .u8 (IntKind.u8.wrap ((IntKind.i64.wrap ((x163.Data.length : Int) + 2)))))]) (xs := ([x163.Typ, (IntKind.u8.wrap ((IntKind.i64.wrap ((x163.Data.length : Int) + 2))))] : (List Int))) H255 sl30 el5 rfl ⟨((dInt .u8).toV _ _), ((dInt .u8).toV _ _), trivial⟩ rfl (by decide) ?_
      intro g334 w336 H335
      refine wl_nil (hN _ _ ?_)
      refine any_alls [9, 11] ⟨?_, ?_, trivial⟩
      ·refine any_ops (m' := 2047) fun Q' hN => ?_
       refine wl_append H335 sl30 el5 (i := 1) rfl rfl rfl ((H335.okAt (i := 0) rfl).src) hr193 ?_
       intro g338 A339 c340 w341 H342
       refine wl_nil (hN _ _ ?_)
       refine any_alls [11] ⟨any_ops (m' := 4095) fun Q' hN => ?_, trivial⟩
       refine wl_load H342 (i := 2) rfl lTOpt_Data ty30 rfl ?_
       intro v343 hv344
       obtain ⟨A345, c346, rfl, hs347⟩ := slice_V hv344
       refine wl_nil (hN _ _ ?_)
       exact hM305 _ _ ⟨_, _, g338, A339, c340, A345, c346, frame_eq [(7, (.slice A0_ a0.length c0_)), (8, (.int .i64 (a0.length : Int))), (9, (.int .i64 x111)), (26, (.slice A339 r192.length c340)), (28, (.slice A345 x163.Data.length c346))] ⟨rfl, rfl, rfl, rfl, rfl, trivial⟩, hG254, (St.pick [(.row kB (some g334) (some ⟨g334, 0, none⟩) 2 5 ([x163.Typ, (IntKind.u8.wrap ((IntKind.i64.wrap ((x163.Data.length : Int) + 2))))] : (List Int))), (.row kB g338 A339 c340 5 r192), (.box b169 60 (kTOpt.at_ x163))] [(.row kB g338 A339 c340 5 r192)] [1] H342 (by decide) rfl), hs347⟩
      ·refine any_ops (m' := 3583) fun Q' hN => ?_
       refine wl_load H335 (i := 2) rfl lTOpt_Data ty30 rfl ?_
       intro v348 hv349
       obtain ⟨A350, c351, rfl, hs352⟩ := slice_V hv349
       refine wl_nil (hN _ _ ?_)
       exact hM295 _ _ ⟨_, _, (some g334), (some ⟨g334, 0, none⟩), 2, A350, c351, frame_eq [(7, (.slice A0_ a0.length c0_)), (8, (.int .i64 (a0.length : Int))), (9, (.int .i64 x111)), (17, (.slice A108 x106.length c109)), (25, (.slice (some ⟨g334, 0, none⟩) ([x163.Typ, (IntKind.u8.wrap ((IntKind.i64.wrap ((x163.Data.length : Int) + 2))))] : (List Int)).length 2)), (28, (.slice A350 x163.Data.length c351))] ⟨rfl, rfl, rfl, rfl, rfl, rfl, trivial⟩, hG254, (St.pick [(.row kB (some g334) (some ⟨g334, 0, none⟩) 2 5 ([x163.Typ, (IntKind.u8.wrap ((IntKind.i64.wrap ((x163.Data.length : Int) + 2))))] : (List Int))), (.row kB g107 A108 c109 5 x106), (.box b169 60 (kTOpt.at_ x163))] [(.row kB g107 A108 c109 5 x106), (.row kB (some g334) (some ⟨g334, 0, none⟩) 2 5 ([x163.Typ, (IntKind.u8.wrap ((IntKind.i64.wrap ((x163.Data.length : Int) + 2))))] : (List Int)))] [1, 0] H335 (by decide) rfl), hs352⟩
     ·refine any_ops (m' := 3327) fun Q' hN => ?_
      refine wl_load H255 (i := 1) rfl lTOpt_Data ty30 rfl ?_
      intro v353 hv354
      obtain ⟨A355, c356, rfl, hs357⟩ := slice_V hv354
      refine wl_nil (hN _ _ ?_)
      exact hM283 _ _ ⟨_, _, A355, c356, frame_eq [(7, (.slice A0_ a0.length c0_)), (8, (.int .i64 (a0.length : Int))), (9, (.int .i64 x111)), (17, (.slice A108 x106.length c109)), (19, (.int .u8 x163.Typ)), (24, (.int .u8 (IntKind.u8.wrap ((IntKind.i64.wrap ((x163.Data.length : Int) + 2)))))), (28, (.slice A355 x163.Data.length c356))] ⟨rfl, rfl, rfl, rfl, rfl, rfl, rfl, trivial⟩, hG254, (St.pick [(.row kB g107 A108 c109 5 x106), (.box b169 60 (kTOpt.at_ x163))] [(.row kB g107 A108 c109 5 x106)] [0] H255 (by decide) rfl), hs357⟩
    intro hM253
    refine any_memo (fuel := 8) (m := 3087) (fun a w => ∃ (T0 : Fr) (G1 : Ghost) (A240 : Option Addr) (c241 : Nat), a = mk 35 (upds T0 [(7, (.slice A0_ a0.length c0_)), (8, (.int .i64 (a0.length : Int))), (9, (.int .i64 x111)), (17, (.slice A108 x106.length c109)), (19, (.int .u8 x163.Typ)), (20, (pu b169 1)), (28, (.slice A240 x163.Data.length c241))]) ∧ GLe G115 G1 ∧ St c G1 w ((.row kB g107 A108 c109 5 x106) :: (.box b169 60 (kTOpt.at_ x163)) :: σ) ∧ SlR kB G1 A240 c241 x163.Data) ?_ ?_
    ·rintro a w ⟨T0, G239, A240, c241, rfl, hG237, H238, hs242⟩
     refine any_alls [4] ⟨any_ops (m' := 3103) fun Q' hN => ?_, trivial⟩
     refine wl_load H238 (i := 1) rfl lTOpt_Data ty30 rfl ?_
     intro v358 hv359
     obtain ⟨A360, c361, rfl, hs362⟩ := slice_V hv359
     refine wl_nil (hN _ _ ?_)
     refine any_rn (i := 5) (m' := 3135) rfl (rn_len sl30 rfl) hPF hns ?_
     refine any_rn (i := 6) (m' := 3199) rfl (rn_pure (.int .i64 (IntKind.i64.wrap ((x163.Data.length : Int) + 2))) rfl) hPF hns ?_
     refine any_rn (i := 7) (m' := 3327) rfl (rn_convert un3 un5 rfl) hPF hns ?_
     exact hM283 _ _ ⟨_, _, A240, c241, frame_eq [(7, (.slice A0_ a0.length c0_)), (8, (.int .i64 (a0.length : Int))), (9, (.int .i64 x111)), (17, (.slice A108 x106.length c109)), (19, (.int .u8 x163.Typ)), (24, (.int .u8 (IntKind.u8.wrap ((IntKind.i64.wrap ((x163.Data.length : Int) + 2)))))), (28, (.slice A240 x163.Data.length c241))] ⟨rfl, rfl, rfl, rfl, rfl, rfl, rfl, trivial⟩, hG237, (St.pick [(.row kB g107 A108 c109 5 x106), (.box b169 60 (kTOpt.at_ x163))] [(.row kB g107 A108 c109 5 x106)] [0] H238 (by decide) rfl), hs242⟩
    intro hM236
    refine any_rn (i := 0) (m' := 1) rfl (rn_pure (.slice A108 x106.length c109) rfl) hPF hns ?_
    refine any_rn (i := 1) (m' := 3) rfl (rn_field fo60_0 rfl) hPF hns ?_
    refine any_rn (i := 3) (m' := 11) rfl (rn_field fo60_1 rfl) hPF hns ?_
    refine any_rn (i := 10) (m' := 1035) rfl (rn_field fo60_1 rfl) hPF hns ?_
    refine any_alls [2, 4, 11] ⟨?_, ?_, ?_, trivial⟩
    ·refine any_ops (m' := 1039) fun Q' hN => ?_
     refine wl_loadd H182 (i := 0) rfl lTOpt_Typ (dInt .u8) ty5 rfl ?_
     refine wl_nil (hN _ _ ?_)
     refine any_alls [4, 11] ⟨?_, ?_, trivial⟩
     ·refine any_ops (m' := 1055) fun Q' hN => ?_
      refine wl_load H182 (i := 0) rfl lTOpt_Data ty30 rfl ?_
      intro v363 hv364
      obtain ⟨A365, c366, rfl, hs367⟩ := slice_V hv364
      refine wl_nil (hN _ _ ?_)
      refine any_rn (i := 5) (m' := 1087) rfl (rn_len sl30 rfl) hPF hns ?_
      refine any_rn (i := 6) (m' := 1151) rfl (rn_pure (.int .i64 (IntKind.i64.wrap ((x163.Data.length : Int) + 2))) rfl) hPF hns ?_
      refine any_rn (i := 7) (m' := 1279) rfl (rn_convert un3 un5 rfl) hPF hns ?_
      exact hM253 _ _ ⟨_, _, frame_eq [(7, (.slice A0_ a0.length c0_)), (8, (.int .i64 (a0.length : Int))), (9, (.int .i64 x111)), (17, (.slice A108 x106.length c109)), (19, (.int .u8 x163.Typ)), (24, (.int .u8 (IntKind.u8.wrap ((IntKind.i64.wrap ((x163.Data.length : Int) + 2)))))), (27, (pu b169 1))] ⟨rfl, rfl, rfl, rfl, rfl, rfl, rfl, trivial⟩, GLe.refl _, (St.pick [(.box b169 60 (kTOpt.at_ x163)), (.row kB g107 A108 c109 5 x106)] [(.row kB g107 A108 c109 5 x106), (.box b169 60 (kTOpt.at_ x163))] [1, 0] H182 (by decide) rfl)⟩
     ·refine any_ops (m' := 3087) fun Q' hN => ?_
      refine wl_load H182 (i := 0) rfl lTOpt_Data ty30 rfl ?_
      intro v368 hv369
      obtain ⟨A370, c371, rfl, hs372⟩ := slice_V hv369
      refine wl_nil (hN _ _ ?_)
      exact hM236 _ _ ⟨_, _, A370, c371, frame_eq [(7, (.slice A0_ a0.length c0_)), (8, (.int .i64 (a0.length : Int))), (9, (.int .i64 x111)), (17, (.slice A108 x106.length c109)), (19, (.int .u8 x163.Typ)), (20, (pu b169 1)), (28, (.slice A370 x163.Data.length c371))] ⟨rfl, rfl, rfl, rfl, rfl, rfl, rfl, trivial⟩, GLe.refl _, (St.pick [(.box b169 60 (kTOpt.at_ x163)), (.row kB g107 A108 c109 5 x106)] [(.row kB g107 A108 c109 5 x106), (.box b169 60 (kTOpt.at_ x163))] [1, 0] H182 (by decide) rfl), hs372⟩
    ·refine any_ops (m' := 1051) fun Q' hN => ?_
     refine wl_load H182 (i := 0) rfl lTOpt_Data ty30 rfl ?_
     intro v373 hv374
     obtain ⟨A375, c376, rfl, hs377⟩ := slice_V hv374
     refine wl_nil (hN _ _ ?_)
     refine any_rn (i := 5) (m' := 1083) rfl (rn_len sl30 rfl) hPF hns ?_
     refine any_rn (i := 6) (m' := 1147) rfl (rn_pure (.int .i64 (IntKind.i64.wrap ((x163.Data.length : Int) + 2))) rfl) hPF hns ?_
     refine any_rn (i := 7) (m' := 1275) rfl (rn_convert un3 un5 rfl) hPF hns ?_
     refine any_alls [2, 11] ⟨?_, ?_, trivial⟩
     ·refine any_ops (m' := 1279) fun Q' hN => ?_
      refine wl_loadd H182 (i := 0) rfl lTOpt_Typ (dInt .u8) ty5 rfl ?_
      refine wl_nil (hN _ _ ?_)
      exact hM253 _ _ ⟨_, _, frame_eq [(7, (.slice A0_ a0.length c0_)), (8, (.int .i64 (a0.length : Int))), (9, (.int .i64 x111)), (17, (.slice A108 x106.length c109)), (19, (.int .u8 x163.Typ)), (24, (.int .u8 (IntKind.u8.wrap ((IntKind.i64.wrap ((x163.Data.length : Int) + 2)))))), (27, (pu b169 1))] ⟨rfl, rfl, rfl, rfl, rfl, rfl, rfl, trivial⟩, GLe.refl _, (St.pick [(.box b169 60 (kTOpt.at_ x163)), (.row kB g107 A108 c109 5 x106)] [(.row kB g107 A108 c109 5 x106), (.box b169 60 (kTOpt.at_ x163))] [1, 0] H182 (by decide) rfl)⟩
     ·refine any_ops (m' := 3323) fun Q' hN => ?_
      refine wl_load H182 (i := 0) rfl lTOpt_Data ty30 rfl ?_
      intro v378 hv379
      obtain ⟨A380, c381, rfl, hs382⟩ := slice_V hv379
      refine wl_nil (hN _ _ ?_)
      exact hM266 _ _ ⟨_, _, A380, c381, frame_eq [(7, (.slice A0_ a0.length c0_)), (8, (.int .i64 (a0.length : Int))), (9, (.int .i64 x111)), (17, (.slice A108 x106.length c109)), (18, (pt b169)), (24, (.int .u8 (IntKind.u8.wrap ((IntKind.i64.wrap ((x163.Data.length : Int) + 2)))))), (28, (.slice A380 x163.Data.length c381))] ⟨rfl, rfl, rfl, rfl, rfl, rfl, rfl, trivial⟩, GLe.refl _, (St.pick [(.box b169 60 (kTOpt.at_ x163)), (.row kB g107 A108 c109 5 x106)] [(.row kB g107 A108 c109 5 x106), (.box b169 60 (kTOpt.at_ x163))] [1, 0] H182 (by decide) rfl), hs382⟩
    ·refine any_ops (m' := 3083) fun Q' hN => ?_
     refine wl_load H182 (i := 0) rfl lTOpt_Data ty30 rfl ?_
     intro v383 hv384
     obtain ⟨A385, c386, rfl, hs387⟩ := slice_V hv384
     refine wl_nil (hN _ _ ?_)
     refine any_alls [2, 4] ⟨?_, ?_, trivial⟩
     ·refine any_ops (m' := 3087) fun Q' hN => ?_
      refine wl_loadd H182 (i := 0) rfl lTOpt_Typ (dInt .u8) ty5 rfl ?_
      refine wl_nil (hN _ _ ?_)
      exact hM236 _ _ ⟨_, _, A385, c386, frame_eq [(7, (.slice A0_ a0.length c0_)), (8, (.int .i64 (a0.length : Int))), (9, (.int .i64 x111)), (17, (.slice A108 x106.length c109)), (19, (.int .u8 x163.Typ)), (20, (pu b169 1)), (28, (.slice A385 x163.Data.length c386))] ⟨rfl, rfl, rfl, rfl, rfl, rfl, rfl, trivial⟩, GLe.refl _, (St.pick [(.box b169 60 (kTOpt.at_ x163)), (.row kB g107 A108 c109 5 x106)] [(.row kB g107 A108 c109 5 x106), (.box b169 60 (kTOpt.at_ x163))] [1, 0] H182 (by decide) rfl), hs387⟩
     ·refine any_ops (m' := 3099) fun Q' hN => ?_
      refine wl_load H182 (i := 0) rfl lTOpt_Data ty30 rfl ?_
      intro v388 hv389
      obtain ⟨A390, c391, rfl, hs392⟩ := slice_V hv389
      refine wl_nil (hN _ _ ?_)
      refine any_rn (i := 5) (m' := 3131) rfl (rn_len sl30 rfl) hPF hns ?_
      refine any_rn (i := 6) (m' := 3195) rfl (rn_pure (.int .i64 (IntKind.i64.wrap ((x163.Data.length : Int) + 2))) rfl) hPF hns ?_
      refine any_rn (i := 7) (m' := 3323) rfl (rn_convert un3 un5 rfl) hPF hns ?_
      exact hM266 _ _ ⟨_, _, A385, c386, frame_eq [(7, (.slice A0_ a0.length c0_)), (8, (.int .i64 (a0.length : Int))), (9, (.int .i64 x111)), (17, (.slice A108 x106.length c109)), (18, (pt b169)), (24, (.int .u8 (IntKind.u8.wrap ((IntKind.i64.wrap ((x163.Data.length : Int) + 2)))))), (28, (.slice A385 x163.Data.length c386))] ⟨rfl, rfl, rfl, rfl, rfl, rfl, rfl, trivial⟩, GLe.refl _, (St.pick [(.box b169 60 (kTOpt.at_ x163)), (.row kB g107 A108 c109 5 x106)] [(.row kB g107 A108 c109 5 x106), (.box b169 60 (kTOpt.at_ x163))] [1, 0] H182 (by decide) rfl), hs387⟩
  ·replace hF := ifF hF hb116
   refine wc_false (vb hb116) ?_
   refine wp_exit ?_
   iterate 2 refine then_e ?_
   replace hF := exitS hF hy1
   refine blk_e ?_
   refine then_n ?_
   refine wp_seq ?_
   refine wp_seq (wc_region ?_)
   refine wl_rn (rn_pure (.slice A108 x106.length c109) rfl) ?_
   refine wl_rn (rn_len sl30 rfl) ?_
   refine wl_rn (rn_pure (.bool (decide ((x106.length : Int) > 1496))) rfl) ?_
   refine wl_nil (then_n ?_)
   rcases bcases (decide ((x106.length : Int) > 1496)) with hb393 | hb393
   ·replace hF := ifT hF hb393
    refine wc_true (vb hb393) ?_
    refine wp_seq (wc_region ?_)
    refine wl_rn (rn_pure (.slice none 0 0) rfl) ?_
    refine wl_rn (rn_pure (.int .i64 1) rfl) ?_
    refine wl_nil (then_n ?_)
    refine wp_ret ?_
    refine then_r ?_
    have hF := Option.some.inj hF
    subst hF
    exact ret_mk rfl (RV.tmp rfl (RV.tmp rfl RV.nil)) ⟨_, none, 0, hG112, rfl, (St.pick [(.row kB g107 A108 c109 5 x106)] [] [] H113 (by decide) rfl), (SlR.nil _ _)⟩
   ·replace hF := ifF hF hb393
    refine wc_false (vb hb393) ?_
    refine wp_skip ?_
    refine then_n ?_
    refine wp_seq (wc_region ?_)
    iterate 2 refine wl_rn (rn_pure (.slice A108 x106.length c109) rfl) ?_
    refine wl_rn (rn_pure (.int .i64 0) rfl) ?_
    refine wl_nil (then_n ?_)
    refine wp_ret ?_
    obtain ⟨G394, hG395, H396, hs397⟩ := H113.stay (i := 0) rfl (H113.capA (i := 0) rfl)
    have hF := Option.some.inj hF
    subst hF
    exact ret_mk rfl (RV.tmp rfl (RV.tmp rfl RV.nil)) ⟨_, A108, c109, (hG112.trans hG395), rfl, H396, hs397⟩
end Go.Proofs.YtadlndnagfnlgaaDoor.W
