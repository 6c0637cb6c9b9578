/- Calls come to what the plain functions say: written by a program (gen.py). -/
import Derived.Test.YtadlndnagfnlgaaDoorG
set_option linter.unusedVariables false
set_option maxRecDepth 20000
namespace Go.Proofs.YtadlndnagfnlgaaDoor.W
open Go
set_option maxHeartbeats 4000000
attribute [local irreducible] wpList wpAny Code.wp wpListIn wpAnyIn Code.wpIn
theorem opts_Four_ok {c : World} (hc : Hc c) {G : Ghost} {w : World} {σ : List Ent} {a0 : Int}  (H : St c G w (σ)) {r : (List Int)} (hF : opts_Four a0 = some r) :
  Calls Tryd.prog 81 ([(.int .u32 a0)] : List Value).toArray w (Ends fun v w' => ∃ (G' : Ghost) (g1' : Option Nat) (A2' : Option Addr) (c3' : Nat), GLe G G' ∧ tup [(.slice A2' r.length c3')] = v ∧ St c G' w' ((.row kB g1' A2' c3' 5 r) :: σ)) := by
 unfold opts_Four at hF
 refine calls_mk Tryd.func81 rfl rfl rfl ?_
 refine wp_seq (wc_region ?_)
 refine wl_rn (rn_pure (.slice none 0 0) rfl) ?_
 refine wl_nil (then_n (wp_seq (wc_region ?_)))
 refine wl_rn (rn_pure (.int .u32 a0) rfl) ?_
 refine wl_rn (rn_pure (.int .u32 (sShr .u32 a0 24)) rfl) ?_
 refine wl_rn (rn_convert un24 un5 rfl) ?_
 refine wl_rn (rn_pure (.int .u32 a0) rfl) ?_
 refine wl_rn (rn_pure (.int .u32 (sShr .u32 a0 16)) rfl) ?_
 refine wl_rn (rn_convert un24 un5 rfl) ?_
 refine wl_rn (rn_pure (.int .u32 a0) rfl) ?_
 refine wl_rn (rn_pure (.int .u32 (sShr .u32 a0 8)) rfl) ?_
 refine wl_rn (rn_convert un24 un5 rfl) ?_
 refine wl_rn (rn_pure (.int .u32 a0) rfl) ?_
 refine wl_rn (rn_convert un24 un5 rfl) ?_
 refine wl_lit (K := kB) (vs := [(.int .u8 (IntKind.u8.wrap ((sShr .u32 a0 24)))), (.int .u8 (IntKind.u8.wrap ((sShr .u32 a0 16)))), (.int .u8 (IntKind.u8.wrap ((sShr .u32 a0 8)))), (.int .u8 (IntKind.u8.wrap (a0)))]) (xs := ([(IntKind.u8.wrap ((sShr .u32 a0 24))), (IntKind.u8.wrap ((sShr .u32 a0 16))), (IntKind.u8.wrap ((sShr .u32 a0 8))), (IntKind.u8.wrap (a0))] : (List Int))) H sl30 el5 rfl ⟨((dInt .u8).toV _ _), ((dInt .u8).toV _ _), ((dInt .u8).toV _ _), ((dInt .u8).toV _ _), trivial⟩ rfl (by decide) ?_
 intro g1 w3 H2
 refine wl_rn (rn_pure (.slice (some ⟨g1, 0, none⟩) ([(IntKind.u8.wrap ((sShr .u32 a0 24))), (IntKind.u8.wrap ((sShr .u32 a0 16))), (IntKind.u8.wrap ((sShr .u32 a0 8))), (IntKind.u8.wrap (a0))] : (List Int)).length 4) rfl) ?_
 refine wl_nil (then_n ?_)
 refine wp_ret ?_
 have hF := Option.some.inj hF
 subst hF
 exact ret_mk rfl (RV.tmp rfl RV.nil) ⟨_, (some g1), (some ⟨g1, 0, none⟩), 4, GLe.refl _, rfl, H2⟩

theorem rules_number_ok {c : World} (hc : Hc c) {G : Ghost} {w : World} {σ : List Ent} {a0 : Int} {a1 : Int} {a2 : Int}  (H : St c G w (σ)) {r : TOpt} (hF : rules_number a0 a1 a2 = some r) :
  Calls Tryd.prog 61 ([(.int .u8 a0), (.int .i64 a1), (.int .u32 a2)] : List Value).toArray w (Ends fun v w' => ∃ (G' : Ghost) (v1' : Value), GLe G G' ∧ tup [v1'] = v ∧ St c G' w' (σ) ∧ kTOpt.V G' v1' r) := by
 unfold rules_number at hF
 refine calls_mk Tryd.func61 rfl rfl rfl ?_
 refine wp_seq (wc_region ?_)
 refine wl_alloc H zr60 ?_
 intro b1 w4 H2
 refine wl_nil (then_n (wp_seq (wc_region ?_)))
 refine wl_rn (rn_pure (.int .u32 a2) rfl) ?_
 obtain ⟨r5, hr6, hF⟩ := bindS hF
 refine wl_call (vs := [(.int .u32 a2)]) en81 rfl (opts_Four_ok hc H2 hr6) ?_
 rintro v11 w10 ⟨G7, g12, A13, c14, hG8, rfl, H9⟩
 refine wl_rn (rn_pure (.slice A13 r5.length c14) rfl) ?_
 refine wl_nil (then_n (wp_seq (wc_region ?_)))
 refine wl_rn (rn_pure (.int .u8 a0) rfl) ?_
 iterate 2 refine wl_rn (rn_pure (.slice A13 r5.length c14) rfl) ?_
 refine wl_rn (rn_len sl30 rfl) ?_
 refine wl_rn (rn_pure (.int .i64 a1) rfl) ?_
 refine wl_rn (rn_pure (.int .i64 (IntKind.i64.wrap ((r5.length : Int) - a1))) rfl) ?_
 obtain ⟨G16, hG17, H18, hs19⟩ := H9.stay (i := 0) rfl (H9.capA (i := 0) rfl)
 obtain ⟨r20, hr21, hF⟩ := bindS hF
 refine wl_rnE (rn_cut (lo := (some (IntKind.i64.wrap ((r5.length : Int) - a1)))) (hi := none) hs19 sl30 ty5 rfl ⟨_, rfl⟩ trivial hr21) ?_
 intro z22 hs23
 refine wl_rnE (rn_build (G := G16) zr60 rfl bs60 rfl (Parts.cons fo60_0 lTOpt_Typ ((dInt .u8).toV _ _) (Parts.cons fo60_1 lTOpt_Data (slice_toV hs23) (Parts.nil _)))) ?_
 intro v24 hv25
 refine wl_store (z := (TOpt.mk a0 r20)) H18 (i := 0) rfl (Lens.id kTOpt) ty60 rfl rfl hv25 ?_
 intro w27 H26
 refine wl_nil (then_n ?_)
 refine wp_ret ?_
 obtain ⟨v28, hv29, hl30⟩ := H26.loadv (i := 0) rfl ty60
 have hF := Option.some.inj hF
 subst hF
 exact ret_mk rfl (RV.cell rfl hl30 RV.nil) ⟨_, v28, (hG8.trans hG17), rfl, (St.pk [] 1 H26 rfl (by decide)), hv29⟩

theorem rules_Ask_ok {c : World} (hc : Hc c) {G : Ghost} {w : World} {σ : List Ent} {a0 : TRule} {v0_ : Value} (h0_ : kTRule.V G v0_ a0) (H : St c G w (σ)) {r : (List TOpt)} (hF : rules_Ask a0 = some r) :
  Calls Tryd.prog 38 ([v0_] : List Value).toArray w (Ends fun v w' => ∃ (G' : Ghost) (A1' : Option Addr) (c2' : Nat), GLe G G' ∧ tup [(.slice A1' r.length c2')] = v ∧ St c G' w' (σ) ∧ SlR kTOpt G' A1' c2' r) := by
 unfold rules_Ask at hF
 refine calls_mk Tryd.func38 rfl rfl rfl ?_
 refine wp_seq (wc_region ?_)
 refine wl_box (K := kTRule) (x := a0) H rfl h0_ ?_
 intro b1 w4 H2
 refine wl_rn (rn_pure (.slice none 0 0) rfl) ?_
 refine wl_nil (then_n ?_)
 refine wp_seq ?_
 refine wp_seq (wc_region ?_)
 refine wl_rn (rn_field fo26_0 rfl) ?_
 refine wl_loadd H2 (i := 0) rfl lTRule_Ip dBool ty4 rfl ?_
 refine wl_nil (then_n ?_)
 rcases bcases a0.Ip with hb5 | hb5
 ·replace hF := ifT hF hb5
  refine wc_true (vb hb5) ?_
  refine wp_seq (wc_region ?_)
  refine wl_rn (rn_field fo26_4 rfl) ?_
  refine wl_loadd H2 (i := 0) rfl lTRule_Ours (dInt .u32) ty24 rfl ?_
  obtain ⟨r6, hr7, hF⟩ := bindS hF
  refine wl_call (vs := [(.int .u8 3), (.int .i64 4), (.int .u32 a0.Ours)]) en61 rfl (rules_number_ok hc H2 hr7) ?_
  rintro v12 w11 ⟨G8, v13, hG9, rfl, H10, hv14⟩
  refine wl_lit (K := kTOpt) (vs := [v13]) (xs := ([r6] : (List TOpt))) H10 sl27 el60 rfl ⟨hv14, trivial⟩ rfl (by decide) ?_
  intro g15 w17 H16
  refine wl_rn (rn_pure (.slice (some ⟨g15, 0, none⟩) ([r6] : (List TOpt)).length 1) rfl) ?_
  refine wl_nil (then_n ?_)
  refine wp_ret ?_
  refine then_r ?_
  obtain ⟨G19, hG20, H21, hs22⟩ := H16.stay (i := 0) rfl (H16.capA (i := 0) rfl)
  have hF := Option.some.inj hF
  subst hF
  exact ret_mk rfl (RV.tmp rfl RV.nil) ⟨_, (some ⟨g15, 0, none⟩), 1, (hG9.trans hG20), rfl, (St.pk [] 1 H21 rfl (by decide)), hs22⟩
 ·replace hF := ifF hF hb5
  refine wc_false (vb hb5) ?_
  refine wp_skip ?_
  refine then_n ?_
  refine wp_seq (wc_region ?_)
  refine wl_lit (K := kB) (vs := [(.int .u8 194), (.int .u8 35), (.int .u8 5)]) (xs := ([194, 35, 5] : (List Int))) H2 sl30 el5 rfl ⟨((dInt .u8).toV _ _), ((dInt .u8).toV _ _), ((dInt .u8).toV _ _), trivial⟩ rfl (by decide) ?_
  intro g23 w25 H24
  obtain ⟨G27, hG28, H29, hs30⟩ := H24.stay (i := 0) rfl (H24.capA (i := 0) rfl)
  refine wl_rnE (rn_build (G := G27) zr60 rfl bs60 rfl (Parts.cons fo60_0 lTOpt_Typ ((dInt .u8).toV _ _) (Parts.cons fo60_1 lTOpt_Data (slice_toV hs30) (Parts.nil _)))) ?_
  intro v31 hv32
  refine wl_rn (rn_field fo26_1 rfl) ?_
  refine wl_loadd H29 (i := 0) rfl lTRule_Magic (dInt .u32) ty24 rfl ?_
  obtain ⟨r33, hr34, hF⟩ := bindS hF
  refine wl_call (vs := [(.int .u8 5), (.int .i64 4), (.int .u32 a0.Magic)]) en61 rfl (rules_number_ok hc H29 hr34) ?_
  rintro v39 w38 ⟨G35, v40, hG36, rfl, H37, hv41⟩
  refine wl_lit (K := kTOpt) (vs := [v31, v40]) (xs := ([(TOpt.mk 3 ([194, 35, 5] : (List Int))), r33] : (List TOpt))) H37 sl27 el60 rfl ⟨(hv32.mono hG36), hv41, trivial⟩ rfl (by decide) ?_
  intro g42 w44 H43
  refine wl_rn (rn_pure (.slice (some ⟨g42, 0, none⟩) ([(TOpt.mk 3 ([194, 35, 5] : (List Int))), r33] : (List TOpt)).length 2) rfl) ?_
  refine wl_nil (then_n ?_)
  refine wp_ret ?_
  obtain ⟨G46, hG47, H48, hs49⟩ := H43.stay (i := 0) rfl (H43.capA (i := 0) rfl)
  have hF := Option.some.inj hF
  subst hF
  exact ret_mk rfl (RV.tmp rfl RV.nil) ⟨_, (some ⟨g42, 0, none⟩), 2, ((hG28.trans hG36).trans hG47), rfl, (St.pk [] 1 H48 rfl (by decide)), hs49⟩

theorem nego_New_ok {c : World} (hc : Hc c) {G : Ghost} {w : World} {σ : List Ent} {a0 : TRule} {v0_ : Value} (h0_ : kTRule.V G v0_ a0) (H : St c G w (σ)) {r : TNego} (hF : nego_New a0 = some r) :
  Calls Tryd.prog 18 ([v0_] : List Value).toArray w (Ends fun v w' => ∃ (G' : Ghost) (v1' : Value), GLe G G' ∧ tup [v1'] = v ∧ St c G' w' (σ) ∧ kTNego.V G' v1' r) := by
 unfold nego_New at hF
 refine calls_mk Tryd.func18 rfl rfl rfl ?_
 refine wp_seq (wc_region ?_)
 refine wl_box (K := kTRule) (x := a0) H rfl h0_ ?_
 intro b1 w4 H2
 refine wl_alloc H2 zr29 ?_
 intro b5 w8 H6
 refine wl_nil (then_n ?_)
 refine wp_seq ?_
 refine wc_anyS (f := 5) H6 mixed ?_
 intro w9 H10
 refine any_pf (by repeat (first | exact PF.base | apply PF.then_ | apply PF.blk)) ?_
 intro hPF hns
 obtain ⟨r15, hr16, hF⟩ := bindS hF
 refine any_memo (fuel := 2) (m := 7) (fun a w => ∃ (T0 : Fr) (G1 : Ghost) (v63 : Value) (A65 : Option Addr) (c66 : Nat), a = mk 7 (upds T0 [(2, (pt b5)), (3, v63), (5, (.slice A65 r15.length c66))]) ∧ GLe G G1 ∧ St c G1 w ((.box b5 29 (kTNego.at_ zTNego)) :: σ) ∧ kTRule.V G1 v63 a0 ∧ SlR kTOpt G1 A65 c66 r15) ?_ ?_
 ·rintro a w ⟨T0, G62, v63, A65, c66, rfl, hG60, H61, hv64, hs67⟩
  refine any_rnE (i := 3) (m' := 15) rfl (rn_build (G := G62) zr29 rfl bs29 rfl (Parts.cons fo29_1 lTNego_R hv64 (Parts.cons fo29_2 lTNego_Ours (slice_toV hs67) (Parts.nil _)))) hPF hns ?_
  intro v72 hv73
  refine any_alls [4] ⟨any_ops (m' := 31) fun Q' hN => ?_, trivial⟩
  refine wl_store (z := (TNego.mk zTNego.A a0 r15 zTNego.Naks zTNego.Peer)) H61 (i := 0) rfl (Lens.id kTNego) ty29 rfl rfl hv73 ?_
  intro w75 H74
  refine wl_nil (hN _ _ ?_)
  refine any_end ?_
  refine then_n ?_
  refine wp_ret ?_
  obtain ⟨v76, hv77, hl78⟩ := H74.loadv (i := 0) rfl ty29
  have hF := Option.some.inj hF
  subst hF
  exact ret_mk rfl (RV.cell rfl hl78 RV.nil) ⟨_, v76, hG60, rfl, (St.pk [] 1 H74 rfl (by decide)), hv77⟩
 intro hM59
 refine any_memo (fuel := 3) (m := 3) (fun a w => ∃ (T0 : Fr) (G1 : Ghost) (v47 : Value) (v49 : Value), a = mk 7 (upds T0 [(2, (pt b5)), (3, v47), (4, v49)]) ∧ GLe G G1 ∧ St c G1 w ((.box b5 29 (kTNego.at_ zTNego)) :: σ) ∧ kTRule.V G1 v47 a0 ∧ kTRule.V G1 v49 a0) ?_ ?_
 ·rintro a w ⟨T0, G46, v47, v49, rfl, hG44, H45, hv48, hv50⟩
  refine any_alls [2] ⟨any_ops (m' := 7) fun Q' hN => ?_, trivial⟩
  refine wl_call (vs := [v49]) en38 rfl (rules_Ask_ok hc hv50 H45 hr16) ?_
  rintro v83 w82 ⟨G79, A84, c85, hG80, rfl, H81, hs86⟩
  refine wl_nil (hN _ _ ?_)
  exact hM59 _ _ ⟨_, _, v47, A84, c85, frame_eq _ ⟨rfl, rfl, rfl, trivial⟩, (hG44.trans hG80), H81, (hv48.mono hG80), hs86⟩
 intro hM43
 refine any_alls [0, 1] ⟨?_, ?_, trivial⟩
 ·refine any_ops (m' := 1) fun Q' hN => ?_
  refine wl_load H10 (i := 1) rfl (Lens.id kTRule) ty26 rfl ?_
  intro v87 hv88
  refine wl_nil (hN _ _ ?_)
  refine any_alls [1] ⟨any_ops (m' := 3) fun Q' hN => ?_, trivial⟩
  refine wl_load H10 (i := 1) rfl (Lens.id kTRule) ty26 rfl ?_
  intro v89 hv90
  refine wl_nil (hN _ _ ?_)
  exact hM43 _ _ ⟨_, _, v87, v89, frame_eq _ ⟨rfl, rfl, rfl, trivial⟩, GLe.refl _, (St.pk [0] 2 H10 rfl (by decide)), hv88, hv90⟩
 ·refine any_ops (m' := 2) fun Q' hN => ?_
  refine wl_load H10 (i := 1) rfl (Lens.id kTRule) ty26 rfl ?_
  intro v91 hv92
  refine wl_nil (hN _ _ ?_)
  refine any_alls [0, 2] ⟨?_, ?_, trivial⟩
  ·refine any_ops (m' := 3) fun Q' hN => ?_
   refine wl_load H10 (i := 1) rfl (Lens.id kTRule) ty26 rfl ?_
   intro v93 hv94
   refine wl_nil (hN _ _ ?_)
   exact hM43 _ _ ⟨_, _, v93, v91, frame_eq _ ⟨rfl, rfl, rfl, trivial⟩, GLe.refl _, (St.pk [0] 2 H10 rfl (by decide)), hv94, hv92⟩
  ·refine any_ops (m' := 6) fun Q' hN => ?_
   refine wl_call (vs := [v91]) en38 rfl (rules_Ask_ok hc hv92 H10 hr16) ?_
   rintro v99 w98 ⟨G95, A100, c101, hG96, rfl, H97, hs102⟩
   refine wl_nil (hN _ _ ?_)
   refine any_alls [0] ⟨any_ops (m' := 7) fun Q' hN => ?_, trivial⟩
   refine wl_load H97 (i := 1) rfl (Lens.id kTRule) ty26 rfl ?_
   intro v103 hv104
   refine wl_nil (hN _ _ ?_)
   exact hM59 _ _ ⟨_, _, v103, A100, c101, frame_eq _ ⟨rfl, rfl, rfl, trivial⟩, hG96, (St.pk [0] 2 H97 rfl (by decide)), hv104, hs102⟩

theorem fsm_letters_ok {c : World} (hc : Hc c) {G : Ghost} {w : World} {σ : List Ent}   (H : St c G w (σ)) {r : Unit} (hF : fsm_letters = some r) :
  Calls Tryd.prog 83 ([] : List Value).toArray w (Ends fun v w' => ∃ (G' : Ghost) (r1' : Nat), GLe G G' ∧ tup [(.map (some r1'))] = v ∧ St c G' w' ((.mp r1' [⟨.int .i32 117, (.int .i64 1), 0⟩, ⟨.int .i32 100, (.int .i64 2), 1⟩, ⟨.int .i32 116, (.int .i64 3), 2⟩, ⟨.int .i32 102, (.int .i64 4), 3⟩, ⟨.int .i32 105, (.int .i64 5), 4⟩, ⟨.int .i32 122, (.int .i64 6), 5⟩, ⟨.int .i32 114, (.int .i64 7), 6⟩, ⟨.int .i32 97, (.int .i64 8), 7⟩, ⟨.int .i32 110, (.int .i64 9), 8⟩, ⟨.int .i32 115, (.int .i64 10), 9⟩, ⟨.int .i32 107, (.int .i64 11), 10⟩, ⟨.int .i32 106, (.int .i64 12), 11⟩, ⟨.int .i32 101, (.int .i64 13), 12⟩] 13) :: σ)) := by
 unfold fsm_letters at hF
 refine calls_mk Tryd.func83 rfl rfl rfl ?_
 refine wp_seq (wc_region ?_)
 refine wl_rn (rn_pure (.map none) rfl) ?_
 refine wl_nil (then_n (wp_seq (wc_region ?_)))
 refine wl_makeMap H ?_
 intro r1 w2 H3
 refine wl_insert (key := (.int .i32 117)) (val := (.int .i64 1)) H3 (i := 0) rfl mt119 un21 rfl rfl rfl (by simp [Go.MapKept.IsKey]) rfl ?_
 intro w5 H6
 have H7 : St c G w5 ((.mp r1 [⟨.int .i32 117, (.int .i64 1), 0⟩] 1) :: σ) := H6
 refine wl_insert (key := (.int .i32 100)) (val := (.int .i64 2)) H7 (i := 0) rfl mt119 un21 rfl rfl rfl (by simp [Go.MapKept.IsKey]) rfl ?_
 intro w8 H9
 have H10 : St c G w8 ((.mp r1 [⟨.int .i32 117, (.int .i64 1), 0⟩, ⟨.int .i32 100, (.int .i64 2), 1⟩] 2) :: σ) := H9
 refine wl_insert (key := (.int .i32 116)) (val := (.int .i64 3)) H10 (i := 0) rfl mt119 un21 rfl rfl rfl (by simp [Go.MapKept.IsKey]) rfl ?_
 intro w11 H12
 have H13 : St c G w11 ((.mp r1 [⟨.int .i32 117, (.int .i64 1), 0⟩, ⟨.int .i32 100, (.int .i64 2), 1⟩, ⟨.int .i32 116, (.int .i64 3), 2⟩] 3) :: σ) := H12
 refine wl_insert (key := (.int .i32 102)) (val := (.int .i64 4)) H13 (i := 0) rfl mt119 un21 rfl rfl rfl (by simp [Go.MapKept.IsKey]) rfl ?_
 intro w14 H15
 have H16 : St c G w14 ((.mp r1 [⟨.int .i32 117, (.int .i64 1), 0⟩, ⟨.int .i32 100, (.int .i64 2), 1⟩, ⟨.int .i32 116, (.int .i64 3), 2⟩, ⟨.int .i32 102, (.int .i64 4), 3⟩] 4) :: σ) := H15
 refine wl_insert (key := (.int .i32 105)) (val := (.int .i64 5)) H16 (i := 0) rfl mt119 un21 rfl rfl rfl (by simp [Go.MapKept.IsKey]) rfl ?_
 intro w17 H18
 have H19 : St c G w17 ((.mp r1 [⟨.int .i32 117, (.int .i64 1), 0⟩, ⟨.int .i32 100, (.int .i64 2), 1⟩, ⟨.int .i32 116, (.int .i64 3), 2⟩, ⟨.int .i32 102, (.int .i64 4), 3⟩, ⟨.int .i32 105, (.int .i64 5), 4⟩] 5) :: σ) := H18
 refine wl_insert (key := (.int .i32 122)) (val := (.int .i64 6)) H19 (i := 0) rfl mt119 un21 rfl rfl rfl (by simp [Go.MapKept.IsKey]) rfl ?_
 intro w20 H21
 have H22 : St c G w20 ((.mp r1 [⟨.int .i32 117, (.int .i64 1), 0⟩, ⟨.int .i32 100, (.int .i64 2), 1⟩, ⟨.int .i32 116, (.int .i64 3), 2⟩, ⟨.int .i32 102, (.int .i64 4), 3⟩, ⟨.int .i32 105, (.int .i64 5), 4⟩, ⟨.int .i32 122, (.int .i64 6), 5⟩] 6) :: σ) := H21
 refine wl_insert (key := (.int .i32 114)) (val := (.int .i64 7)) H22 (i := 0) rfl mt119 un21 rfl rfl rfl (by simp [Go.MapKept.IsKey]) rfl ?_
 intro w23 H24
 have H25 : St c G w23 ((.mp r1 [⟨.int .i32 117, (.int .i64 1), 0⟩, ⟨.int .i32 100, (.int .i64 2), 1⟩, ⟨.int .i32 116, (.int .i64 3), 2⟩, ⟨.int .i32 102, (.int .i64 4), 3⟩, ⟨.int .i32 105, (.int .i64 5), 4⟩, ⟨.int .i32 122, (.int .i64 6), 5⟩, ⟨.int .i32 114, (.int .i64 7), 6⟩] 7) :: σ) := H24
 refine wl_insert (key := (.int .i32 97)) (val := (.int .i64 8)) H25 (i := 0) rfl mt119 un21 rfl rfl rfl (by simp [Go.MapKept.IsKey]) rfl ?_
 intro w26 H27
 have H28 : St c G w26 ((.mp r1 [⟨.int .i32 117, (.int .i64 1), 0⟩, ⟨.int .i32 100, (.int .i64 2), 1⟩, ⟨.int .i32 116, (.int .i64 3), 2⟩, ⟨.int .i32 102, (.int .i64 4), 3⟩, ⟨.int .i32 105, (.int .i64 5), 4⟩, ⟨.int .i32 122, (.int .i64 6), 5⟩, ⟨.int .i32 114, (.int .i64 7), 6⟩, ⟨.int .i32 97, (.int .i64 8), 7⟩] 8) :: σ) := H27
 refine wl_insert (key := (.int .i32 110)) (val := (.int .i64 9)) H28 (i := 0) rfl mt119 un21 rfl rfl rfl (by simp [Go.MapKept.IsKey]) rfl ?_
 intro w29 H30
 have H31 : St c G w29 ((.mp r1 [⟨.int .i32 117, (.int .i64 1), 0⟩, ⟨.int .i32 100, (.int .i64 2), 1⟩, ⟨.int .i32 116, (.int .i64 3), 2⟩, ⟨.int .i32 102, (.int .i64 4), 3⟩, ⟨.int .i32 105, (.int .i64 5), 4⟩, ⟨.int .i32 122, (.int .i64 6), 5⟩, ⟨.int .i32 114, (.int .i64 7), 6⟩, ⟨.int .i32 97, (.int .i64 8), 7⟩, ⟨.int .i32 110, (.int .i64 9), 8⟩] 9) :: σ) := H30
 refine wl_insert (key := (.int .i32 115)) (val := (.int .i64 10)) H31 (i := 0) rfl mt119 un21 rfl rfl rfl (by simp [Go.MapKept.IsKey]) rfl ?_
 intro w32 H33
 have H34 : St c G w32 ((.mp r1 [⟨.int .i32 117, (.int .i64 1), 0⟩, ⟨.int .i32 100, (.int .i64 2), 1⟩, ⟨.int .i32 116, (.int .i64 3), 2⟩, ⟨.int .i32 102, (.int .i64 4), 3⟩, ⟨.int .i32 105, (.int .i64 5), 4⟩, ⟨.int .i32 122, (.int .i64 6), 5⟩, ⟨.int .i32 114, (.int .i64 7), 6⟩, ⟨.int .i32 97, (.int .i64 8), 7⟩, ⟨.int .i32 110, (.int .i64 9), 8⟩, ⟨.int .i32 115, (.int .i64 10), 9⟩] 10) :: σ) := H33
 refine wl_insert (key := (.int .i32 107)) (val := (.int .i64 11)) H34 (i := 0) rfl mt119 un21 rfl rfl rfl (by simp [Go.MapKept.IsKey]) rfl ?_
 intro w35 H36
 have H37 : St c G w35 ((.mp r1 [⟨.int .i32 117, (.int .i64 1), 0⟩, ⟨.int .i32 100, (.int .i64 2), 1⟩, ⟨.int .i32 116, (.int .i64 3), 2⟩, ⟨.int .i32 102, (.int .i64 4), 3⟩, ⟨.int .i32 105, (.int .i64 5), 4⟩, ⟨.int .i32 122, (.int .i64 6), 5⟩, ⟨.int .i32 114, (.int .i64 7), 6⟩, ⟨.int .i32 97, (.int .i64 8), 7⟩, ⟨.int .i32 110, (.int .i64 9), 8⟩, ⟨.int .i32 115, (.int .i64 10), 9⟩, ⟨.int .i32 107, (.int .i64 11), 10⟩] 11) :: σ) := H36
 refine wl_insert (key := (.int .i32 106)) (val := (.int .i64 12)) H37 (i := 0) rfl mt119 un21 rfl rfl rfl (by simp [Go.MapKept.IsKey]) rfl ?_
 intro w38 H39
 have H40 : St c G w38 ((.mp r1 [⟨.int .i32 117, (.int .i64 1), 0⟩, ⟨.int .i32 100, (.int .i64 2), 1⟩, ⟨.int .i32 116, (.int .i64 3), 2⟩, ⟨.int .i32 102, (.int .i64 4), 3⟩, ⟨.int .i32 105, (.int .i64 5), 4⟩, ⟨.int .i32 122, (.int .i64 6), 5⟩, ⟨.int .i32 114, (.int .i64 7), 6⟩, ⟨.int .i32 97, (.int .i64 8), 7⟩, ⟨.int .i32 110, (.int .i64 9), 8⟩, ⟨.int .i32 115, (.int .i64 10), 9⟩, ⟨.int .i32 107, (.int .i64 11), 10⟩, ⟨.int .i32 106, (.int .i64 12), 11⟩] 12) :: σ) := H39
 refine wl_insert (key := (.int .i32 101)) (val := (.int .i64 13)) H40 (i := 0) rfl mt119 un21 rfl rfl rfl (by simp [Go.MapKept.IsKey]) rfl ?_
 intro w41 H42
 have H43 : St c G w41 ((.mp r1 [⟨.int .i32 117, (.int .i64 1), 0⟩, ⟨.int .i32 100, (.int .i64 2), 1⟩, ⟨.int .i32 116, (.int .i64 3), 2⟩, ⟨.int .i32 102, (.int .i64 4), 3⟩, ⟨.int .i32 105, (.int .i64 5), 4⟩, ⟨.int .i32 122, (.int .i64 6), 5⟩, ⟨.int .i32 114, (.int .i64 7), 6⟩, ⟨.int .i32 97, (.int .i64 8), 7⟩, ⟨.int .i32 110, (.int .i64 9), 8⟩, ⟨.int .i32 115, (.int .i64 10), 9⟩, ⟨.int .i32 107, (.int .i64 11), 10⟩, ⟨.int .i32 106, (.int .i64 12), 11⟩, ⟨.int .i32 101, (.int .i64 13), 12⟩] 13) :: σ) := H42
 iterate 2 refine wl_rn (rn_pure (.map (some r1)) rfl) ?_
 refine wl_nil (then_n ?_)
 refine wp_ret ?_
 have hF := Option.some.inj hF
 subst hF
 exact ret_mk rfl (RV.tmp rfl RV.nil) ⟨_, r1, GLe.refl _, rfl, H43⟩

theorem fsm_table_ok {c : World} (hc : Hc c) {G : Ghost} {w : World} {σ : List Ent}   (H : St c G w (σ)) {r : (List ByteArray)} (hF : fsm_table = some r) :
  Calls Tryd.prog 85 ([] : List Value).toArray w (Ends fun v w' => ∃ (G' : Ghost) (v1' : Value), GLe G G' ∧ tup [v1'] = v ∧ St c G' w' (σ) ∧ (Kd.arr 16 Kd.str).V G' v1' r) := by
 unfold fsm_table at hF
 refine calls_mk Tryd.func85 rfl rfl rfl ?_
 refine wp_seq (wc_region ?_)
 refine wl_alloc H zr123 ?_
 intro b1 w4 H2
 refine wl_nil (then_n (wp_seq (wc_region ?_)))
 refine wl_rnE (rn_arr (G := G) (K := Kd.str) (vs := [(.string (⟨#[50, 32, 105, 114, 54, 32, 45, 32, 45, 32, 45, 32, 45, 32, 45, 32, 45, 32, 45, 32, 45]⟩ : ByteArray)), (.string (⟨#[45, 32, 45, 32, 48, 32, 116, 49, 32, 48, 32, 49, 32, 49, 32, 49, 32, 49, 32, 100, 49]⟩ : ByteArray)), (.string (⟨#[116, 49, 32, 49, 32, 105, 114, 54, 32, 51, 32, 53, 32, 53, 32, 54, 32, 55, 32, 56, 32, 57]⟩ : ByteArray)), (.string (⟨#[48, 32, 102, 48, 32, 50, 32, 50, 32, 52, 32, 52, 32, 105, 115, 52, 32, 105, 115, 52, 32, 105, 115, 52, 32, 100, 105, 115, 52]⟩ : ByteArray)), (.string (⟨#[45, 32, 45, 32, 45, 32, 45, 32, 115, 52, 32, 115, 53, 32, 114, 54, 32, 114, 54, 32, 114, 56, 32, 45]⟩ : ByteArray)), (.string (⟨#[45, 32, 45, 32, 45, 32, 45, 32, 102, 50, 32, 102, 51, 32, 102, 51, 32, 102, 51, 32, 102, 51, 32, 45]⟩ : ByteArray)), (.string (⟨#[45, 32, 45, 32, 107, 50, 32, 105, 114, 97, 56, 32, 52, 32, 53, 32, 97, 56, 32, 97, 117, 57, 32, 97, 56, 32, 100, 114, 97, 56]⟩ : ByteArray)), (.string (⟨#[45, 32, 45, 32, 107, 50, 32, 105, 114, 110, 54, 32, 52, 32, 53, 32, 110, 54, 32, 110, 55, 32, 110, 54, 32, 100, 114, 110, 54]⟩ : ByteArray)), (.string (⟨#[45, 32, 45, 32, 107, 50, 32, 107, 51, 32, 52, 32, 53, 32, 105, 55, 32, 114, 54, 32, 105, 117, 57, 32, 100, 114, 54]⟩ : ByteArray)), (.string (⟨#[45, 32, 45, 32, 107, 50, 32, 107, 51, 32, 52, 32, 53, 32, 105, 114, 54, 32, 114, 54, 32, 105, 114, 56, 32, 100, 114, 54]⟩ : ByteArray)), (.string (⟨#[45, 32, 45, 32, 107, 50, 32, 107, 51, 32, 107, 52, 32, 107, 53, 32, 107, 54, 32, 107, 54, 32, 107, 54, 32, 100, 122, 107, 53]⟩ : ByteArray)), (.string (⟨#[45, 32, 45, 32, 50, 32, 51, 32, 102, 50, 32, 102, 51, 32, 54, 32, 54, 32, 56, 32, 100, 114, 54]⟩ : ByteArray)), (.string (⟨#[45, 32, 45, 32, 106, 50, 32, 106, 51, 32, 106, 52, 32, 106, 53, 32, 106, 54, 32, 106, 55, 32, 106, 56, 32, 106, 57]⟩ : ByteArray)), (.string (⟨#[45, 32, 45, 32, 50, 32, 51, 32, 52, 32, 53, 32, 54, 32, 54, 32, 56, 32, 57]⟩ : ByteArray)), (.string (⟨#[45, 32, 45, 32, 102, 50, 32, 102, 51, 32, 102, 50, 32, 102, 51, 32, 102, 51, 32, 102, 51, 32, 102, 51, 32, 100, 105, 115, 53]⟩ : ByteArray)), (.string (⟨#[45, 32, 45, 32, 50, 32, 51, 32, 52, 32, 53, 32, 54, 32, 55, 32, 56, 32, 101, 57]⟩ : ByteArray))]) (xs := ([(⟨#[50, 32, 105, 114, 54, 32, 45, 32, 45, 32, 45, 32, 45, 32, 45, 32, 45, 32, 45, 32, 45]⟩ : ByteArray), (⟨#[45, 32, 45, 32, 48, 32, 116, 49, 32, 48, 32, 49, 32, 49, 32, 49, 32, 49, 32, 100, 49]⟩ : ByteArray), (⟨#[116, 49, 32, 49, 32, 105, 114, 54, 32, 51, 32, 53, 32, 53, 32, 54, 32, 55, 32, 56, 32, 57]⟩ : ByteArray), (⟨#[48, 32, 102, 48, 32, 50, 32, 50, 32, 52, 32, 52, 32, 105, 115, 52, 32, 105, 115, 52, 32, 105, 115, 52, 32, 100, 105, 115, 52]⟩ : ByteArray), (⟨#[45, 32, 45, 32, 45, 32, 45, 32, 115, 52, 32, 115, 53, 32, 114, 54, 32, 114, 54, 32, 114, 56, 32, 45]⟩ : ByteArray), (⟨#[45, 32, 45, 32, 45, 32, 45, 32, 102, 50, 32, 102, 51, 32, 102, 51, 32, 102, 51, 32, 102, 51, 32, 45]⟩ : ByteArray), (⟨#[45, 32, 45, 32, 107, 50, 32, 105, 114, 97, 56, 32, 52, 32, 53, 32, 97, 56, 32, 97, 117, 57, 32, 97, 56, 32, 100, 114, 97, 56]⟩ : ByteArray), (⟨#[45, 32, 45, 32, 107, 50, 32, 105, 114, 110, 54, 32, 52, 32, 53, 32, 110, 54, 32, 110, 55, 32, 110, 54, 32, 100, 114, 110, 54]⟩ : ByteArray), (⟨#[45, 32, 45, 32, 107, 50, 32, 107, 51, 32, 52, 32, 53, 32, 105, 55, 32, 114, 54, 32, 105, 117, 57, 32, 100, 114, 54]⟩ : ByteArray), (⟨#[45, 32, 45, 32, 107, 50, 32, 107, 51, 32, 52, 32, 53, 32, 105, 114, 54, 32, 114, 54, 32, 105, 114, 56, 32, 100, 114, 54]⟩ : ByteArray), (⟨#[45, 32, 45, 32, 107, 50, 32, 107, 51, 32, 107, 52, 32, 107, 53, 32, 107, 54, 32, 107, 54, 32, 107, 54, 32, 100, 122, 107, 53]⟩ : ByteArray), (⟨#[45, 32, 45, 32, 50, 32, 51, 32, 102, 50, 32, 102, 51, 32, 54, 32, 54, 32, 56, 32, 100, 114, 54]⟩ : ByteArray), (⟨#[45, 32, 45, 32, 106, 50, 32, 106, 51, 32, 106, 52, 32, 106, 53, 32, 106, 54, 32, 106, 55, 32, 106, 56, 32, 106, 57]⟩ : ByteArray), (⟨#[45, 32, 45, 32, 50, 32, 51, 32, 52, 32, 53, 32, 54, 32, 54, 32, 56, 32, 57]⟩ : ByteArray), (⟨#[45, 32, 45, 32, 102, 50, 32, 102, 51, 32, 102, 50, 32, 102, 51, 32, 102, 51, 32, 102, 51, 32, 102, 51, 32, 100, 105, 115, 53]⟩ : ByteArray), (⟨#[45, 32, 45, 32, 50, 32, 51, 32, 52, 32, 53, 32, 54, 32, 55, 32, 56, 32, 101, 57]⟩ : ByteArray)] : (List ByteArray))) zr123 ar123 ty9 rfl ⟨(dStr.toV _ _), (dStr.toV _ _), (dStr.toV _ _), (dStr.toV _ _), (dStr.toV _ _), (dStr.toV _ _), (dStr.toV _ _), (dStr.toV _ _), (dStr.toV _ _), (dStr.toV _ _), (dStr.toV _ _), (dStr.toV _ _), (dStr.toV _ _), (dStr.toV _ _), (dStr.toV _ _), (dStr.toV _ _), trivial⟩ rfl) ?_
 intro v5 hv6
 refine wl_store (z := ([(⟨#[50, 32, 105, 114, 54, 32, 45, 32, 45, 32, 45, 32, 45, 32, 45, 32, 45, 32, 45, 32, 45]⟩ : ByteArray), (⟨#[45, 32, 45, 32, 48, 32, 116, 49, 32, 48, 32, 49, 32, 49, 32, 49, 32, 49, 32, 100, 49]⟩ : ByteArray), (⟨#[116, 49, 32, 49, 32, 105, 114, 54, 32, 51, 32, 53, 32, 53, 32, 54, 32, 55, 32, 56, 32, 57]⟩ : ByteArray), (⟨#[48, 32, 102, 48, 32, 50, 32, 50, 32, 52, 32, 52, 32, 105, 115, 52, 32, 105, 115, 52, 32, 105, 115, 52, 32, 100, 105, 115, 52]⟩ : ByteArray), (⟨#[45, 32, 45, 32, 45, 32, 45, 32, 115, 52, 32, 115, 53, 32, 114, 54, 32, 114, 54, 32, 114, 56, 32, 45]⟩ : ByteArray), (⟨#[45, 32, 45, 32, 45, 32, 45, 32, 102, 50, 32, 102, 51, 32, 102, 51, 32, 102, 51, 32, 102, 51, 32, 45]⟩ : ByteArray), (⟨#[45, 32, 45, 32, 107, 50, 32, 105, 114, 97, 56, 32, 52, 32, 53, 32, 97, 56, 32, 97, 117, 57, 32, 97, 56, 32, 100, 114, 97, 56]⟩ : ByteArray), (⟨#[45, 32, 45, 32, 107, 50, 32, 105, 114, 110, 54, 32, 52, 32, 53, 32, 110, 54, 32, 110, 55, 32, 110, 54, 32, 100, 114, 110, 54]⟩ : ByteArray), (⟨#[45, 32, 45, 32, 107, 50, 32, 107, 51, 32, 52, 32, 53, 32, 105, 55, 32, 114, 54, 32, 105, 117, 57, 32, 100, 114, 54]⟩ : ByteArray), (⟨#[45, 32, 45, 32, 107, 50, 32, 107, 51, 32, 52, 32, 53, 32, 105, 114, 54, 32, 114, 54, 32, 105, 114, 56, 32, 100, 114, 54]⟩ : ByteArray), (⟨#[45, 32, 45, 32, 107, 50, 32, 107, 51, 32, 107, 52, 32, 107, 53, 32, 107, 54, 32, 107, 54, 32, 107, 54, 32, 100, 122, 107, 53]⟩ : ByteArray), (⟨#[45, 32, 45, 32, 50, 32, 51, 32, 102, 50, 32, 102, 51, 32, 54, 32, 54, 32, 56, 32, 100, 114, 54]⟩ : ByteArray), (⟨#[45, 32, 45, 32, 106, 50, 32, 106, 51, 32, 106, 52, 32, 106, 53, 32, 106, 54, 32, 106, 55, 32, 106, 56, 32, 106, 57]⟩ : ByteArray), (⟨#[45, 32, 45, 32, 50, 32, 51, 32, 52, 32, 53, 32, 54, 32, 54, 32, 56, 32, 57]⟩ : ByteArray), (⟨#[45, 32, 45, 32, 102, 50, 32, 102, 51, 32, 102, 50, 32, 102, 51, 32, 102, 51, 32, 102, 51, 32, 102, 51, 32, 100, 105, 115, 53]⟩ : ByteArray), (⟨#[45, 32, 45, 32, 50, 32, 51, 32, 52, 32, 53, 32, 54, 32, 55, 32, 56, 32, 101, 57]⟩ : ByteArray)] : (List ByteArray))) H2 (i := 0) rfl (Lens.id (Kd.arr 16 Kd.str)) ty123 rfl rfl hv6 ?_
 intro w8 H7
 refine wl_nil (then_n ?_)
 refine wp_ret ?_
 obtain ⟨v9, hv10, hl11⟩ := H7.loadv (i := 0) rfl ty123
 have hF := Option.some.inj hF
 subst hF
 exact ret_mk rfl (RV.cell rfl hl11 RV.nil) ⟨_, v9, GLe.refl _, rfl, (St.pk [] 1 H7 rfl (by decide)), hv10⟩

theorem fsm_Next_ok {c : World} (hc : Hc c) {G : Ghost} {w : World} {σ : List Ent} {a0 : Int} {a1 : Int}  (H : St c G w (σ)) {r : ((List Int) × Int × Bool)} (hF : fsm_Next a0 a1 = some r) :
  Calls Tryd.prog 69 ([(.int .i64 a0), (.int .i64 a1)] : List Value).toArray w (Ends fun v w' => ∃ (G' : Ghost) (A1' : Option Addr) (c2' : Nat), GLe G G' ∧ tup [(.slice A1' r.1.length c2'), (.int .i64 r.2.1), (.bool r.2.2)] = v ∧ St c G' w' (σ) ∧ SlR kI G' A1' c2' r.1) := by
 unfold fsm_Next at hF
 refine calls_mk Tryd.func69 rfl rfl rfl ?_
 refine wp_seq (wc_region ?_)
 refine wl_rn (rn_pure (.slice none 0 0) rfl) ?_
 refine wl_rn (rn_pure (.int .i64 0) rfl) ?_
 refine wl_rn (rn_pure (.bool false) rfl) ?_
 refine wl_nil (then_n ?_)
 refine wp_seq ?_
 refine wp_seq (join (fun a w => ∃ (T0 : Fr) (G1 : Ghost) (x4 : Bool), a = mk 60 (upds T0 [(0, (.int .i64 a0)), (1, (.int .i64 a1)), (24, (.bool x4))]) ∧ GLe G G1 ∧ St c G1 w (σ) ∧ fsm_Next_j1 a0 a1 x4 = some r) ?_ ?_)
 ·rintro a w ⟨T0, G7, x4, rfl, hG5, H6, hF⟩
  rcases bcases x4 with hb8 | hb8
  ·replace hF := ifT hF hb8
   refine wc_true (vb hb8) ?_
   refine wp_seq (wc_region ?_)
   refine wl_rn (rn_pure (.int .i64 a0) rfl) ?_
   refine wl_rn (rn_pure (.slice none 0 0) rfl) ?_
   refine wl_rn (rn_pure (.int .i64 a0) rfl) ?_
   refine wl_rn (rn_pure (.bool false) rfl) ?_
   refine wl_nil (then_n ?_)
   refine wp_ret ?_
   refine then_r ?_
   have hF := Option.some.inj hF
   subst hF
   exact ret_mk rfl (RV.tmp rfl (RV.tmp rfl (RV.tmp rfl RV.nil))) ⟨_, none, 0, hG5, rfl, H6, (SlR.nil _ _)⟩
  ·replace hF := ifF hF hb8
   refine wc_false (vb hb8) ?_
   refine wp_skip ?_
   refine then_n ?_
   refine wp_seq (wc_region ?_)
   refine wl_rn (rn_pure (.slice none 0 0) rfl) ?_
   refine wl_nil (then_n (wp_seq (wc_region ?_)))
   obtain ⟨r9, hr10, hF⟩ := bindS hF
   refine wl_call (vs := []) en83 rfl (fsm_letters_ok hc H6 hr10) ?_
   rintro v15 w14 ⟨G11, r16, hG12, rfl, H13⟩
   refine wl_rn (rn_pure (.map (some r16)) rfl) ?_
   refine wl_nil (then_n ?_)
   refine wp_seq ?_
   refine wp_seq (wc_region ?_)
   obtain ⟨r18, hr19, hF⟩ := bindS hF
   refine wl_call (vs := []) en85 rfl (fsm_table_ok hc H13 hr19) ?_
   rintro v24 w23 ⟨G20, v25, hG21, rfl, H22, hv26⟩
   refine wl_rn (rn_pure (.int .i64 a1) rfl) ?_
   obtain ⟨x27, hx28, hF⟩ := bindS hF
   refine wl_rnE (rn_indexV ar123 ty9 rfl hv26 rfl hx28) ?_
   intro v29 hv30
   obtain rfl := Det.V dStr hv30
   obtain ⟨r31, hr32, hF⟩ := bindS hF
   refine wl_call (vs := [(.string x27)]) en84 rfl (flds_ok hc H22 hr32) ?_
   rintro v37 w36 ⟨G33, A38, c39, hG34, rfl, H35, hs40⟩
   refine wl_rn (rn_pure (.int .i64 a0) rfl) ?_
   obtain ⟨x41, hx42, hF⟩ := bindS hF
   refine wl_rnE (rn_index hs40 sl121 ty9 rfl rfl hx42) ?_
   intro a43 hp44
   refine wl_loadpd H35 hp44 dStr ty9 rfl ?_
   refine wl_range H35 un9 rfl ?_
   intro r45 w46 H47
   refine wl_nil (then_n ?_)
   refine wp_block ?_
   have H157 := H47.nilrow kI none 3
   refine wp_loopX (fun (s : ((List Int) × Nat)) a w => ∃ (T0 : Fr) (G1 : Ghost) (g117 : Option Nat) (A118 : Option Addr) (c119 : Nat), a = mk 60 (upds T0 [(0, (.int .i64 a0)), (7, (.slice A118 s.1.length c119)), (8, (.map (some r16))), (34, (pt r45))]) ∧ GLe G33 G1 ∧ St c G1 w ((.row kI g117 A118 c119 3 s.1) :: (.it r45 x41 s.2) :: (.mp r16 [⟨.int .i32 117, (.int .i64 1), 0⟩, ⟨.int .i32 100, (.int .i64 2), 1⟩, ⟨.int .i32 116, (.int .i64 3), 2⟩, ⟨.int .i32 102, (.int .i64 4), 3⟩, ⟨.int .i32 105, (.int .i64 5), 4⟩, ⟨.int .i32 122, (.int .i64 6), 5⟩, ⟨.int .i32 114, (.int .i64 7), 6⟩, ⟨.int .i32 97, (.int .i64 8), 7⟩, ⟨.int .i32 110, (.int .i64 9), 8⟩, ⟨.int .i32 115, (.int .i64 10), 9⟩, ⟨.int .i32 107, (.int .i64 11), 10⟩, ⟨.int .i32 106, (.int .i64 12), 11⟩, ⟨.int .i32 101, (.int .i64 13), 12⟩] 13) :: σ)) hF ?_ ?_
   ·exact ⟨_, _, none, none, 0, frame_eq _ ⟨rfl, rfl, rfl, rfl, trivial⟩, GLe.refl _, H157⟩
   ·rintro ⟨x116, x121⟩ a w y124 ⟨T0, G125, g117, A118, c119, rfl, hG122, H123⟩ hF hy49
    refine wp_seq (wc_region ?_)
    rcases bcases (decide (x121 < x41.size)) with hb126 | hb126
    ·replace hF := ifT hF hb126
     refine wl_nextT H123 (i := 1) rfl rfl hb126 ?_
     intro w127 H128
     refine wl_rn (rn_pure (.bool true) rfl) ?_
     refine wl_nil (then_n ?_)
     refine wp_seq ?_
     refine wc_true rfl ?_
     refine wp_skip ?_
     refine then_n ?_
     refine wp_block ?_
     refine wp_seq (wc_region ?_)
     iterate 2 refine wl_rn (rn_pure (.int .i32 ((nxt x41 x121).1)) rfl) ?_
     refine wl_nil (then_n ?_)
     refine wp_seq ?_
     refine wp_block ?_
     refine wp_seq (join (fun a w => ∃ (T0 : Fr) (G1 : Ghost) (x130 : (List Int)) (x135 : Bool) (g131 : Option Nat) (A132 : Option Addr) (c133 : Nat), a = mk 60 (upds T0 [(0, (.int .i64 a0)), (7, (.slice A132 x130.length c133)), (8, (.map (some r16))), (10, (.int .i32 ((nxt x41 x121).1))), (34, (pt r45)), (38, (.bool x135))]) ∧ GLe G125 G1 ∧ St c G1 w ((.row kI g131 A132 c133 3 x130) :: (.it r45 x41 ((nxt x41 x121).2)) :: (.mp r16 [⟨.int .i32 117, (.int .i64 1), 0⟩, ⟨.int .i32 100, (.int .i64 2), 1⟩, ⟨.int .i32 116, (.int .i64 3), 2⟩, ⟨.int .i32 102, (.int .i64 4), 3⟩, ⟨.int .i32 105, (.int .i64 5), 4⟩, ⟨.int .i32 122, (.int .i64 6), 5⟩, ⟨.int .i32 114, (.int .i64 7), 6⟩, ⟨.int .i32 97, (.int .i64 8), 7⟩, ⟨.int .i32 110, (.int .i64 9), 8⟩, ⟨.int .i32 115, (.int .i64 10), 9⟩, ⟨.int .i32 107, (.int .i64 11), 10⟩, ⟨.int .i32 106, (.int .i64 12), 11⟩, ⟨.int .i32 101, (.int .i64 13), 12⟩] 13) :: σ) ∧ fsm_Next_j3 a0 x41 x121 x130 x135 = some y124) ?_ ?_)
     ·rintro a w ⟨T0, G138, x130, x135, g131, A132, c133, rfl, hG136, H137, hF⟩
      rcases bcases x135 with hb139 | hb139
      ·replace hF := ifT hF hb139
       refine wc_true (vb hb139) ?_
       refine wp_seq (wc_region ?_)
       refine wl_rn (rn_pure (.slice A132 x130.length c133) rfl) ?_
       refine wl_rn (rn_pure (.int .i32 ((nxt x41 x121).1)) rfl) ?_
       refine wl_rn (rn_pure (.int .i32 (IntKind.i32.wrap ((nxt x41 x121).1 - 48))) rfl) ?_
       refine wl_rn (rn_convert un21 un3 rfl) ?_
       refine wl_rn (rn_pure (.slice A132 x130.length c133) rfl) ?_
       refine wl_rn (rn_pure (.int .i64 (IntKind.i64.wrap ((IntKind.i32.wrap ((nxt x41 x121).1 - 48))))) rfl) ?_
       refine wl_rn (rn_pure (.bool true) rfl) ?_
       refine wl_nil (then_n ?_)
       refine wp_ret ?_
       refine blk_r ?_
       refine then_r ?_
       refine blk_r ?_
       refine then_r ?_
       replace hF := exitS hF hy49
       refine blk_r ?_
       refine then_r ?_
       obtain ⟨G140, hG141, H142, hs143⟩ := H137.stay (i := 0) rfl (H137.capA (i := 0) rfl)
       have hF := Option.some.inj hF
       subst hF
       exact ret_mk rfl (RV.tmp rfl (RV.tmp rfl (RV.tmp rfl RV.nil))) ⟨_, A132, c133, ((((((hG5.trans hG12).trans hG21).trans hG34).trans hG122).trans hG136).trans hG141), rfl, (St.pk [] 2 H142 rfl (by decide)), hs143⟩
      ·replace hF := ifF hF hb139
       refine wc_false (vb hb139) ?_
       refine wp_seq (wc_region ?_)
       refine wl_rn (rn_pure (.int .i32 ((nxt x41 x121).1)) rfl) ?_
       iterate 2 refine wl_rn (rn_pure (.bool ((nxt x41 x121).1 == 45)) rfl) ?_
       refine wl_nil (then_n ?_)
       rcases bcases ((nxt x41 x121).1 == 45) with hb144 | hb144
       ·replace hF := ifT hF hb144
        refine wc_true (vb hb144) ?_
        refine wp_seq (wc_region ?_)
        refine wl_rn (rn_pure (.int .i64 a0) rfl) ?_
        refine wl_rn (rn_pure (.slice none 0 0) rfl) ?_
        refine wl_rn (rn_pure (.int .i64 a0) rfl) ?_
        refine wl_rn (rn_pure (.bool false) rfl) ?_
        refine wl_nil (then_n ?_)
        refine wp_ret ?_
        refine blk_r ?_
        refine then_r ?_
        refine blk_r ?_
        refine then_r ?_
        replace hF := exitS hF hy49
        refine blk_r ?_
        refine then_r ?_
        have hF := Option.some.inj hF
        subst hF
        exact ret_mk rfl (RV.tmp rfl (RV.tmp rfl (RV.tmp rfl RV.nil))) ⟨_, none, 0, (((((hG5.trans hG12).trans hG21).trans hG34).trans hG122).trans hG136), rfl, (St.pk [] 3 H137 rfl (by decide)), (SlR.nil _ _)⟩
       ·replace hF := ifF hF hb144
        refine wc_false (vb hb144) ?_
        refine wp_skip ?_
        refine blk_n ?_
        refine then_n ?_
        refine wc_region ?_
        refine wl_rn (rn_pure (.slice A132 x130.length c133) rfl) ?_
        refine wl_rn (rn_pure (.map (some r16)) rfl) ?_
        refine wl_rn (rn_pure (.int .i32 ((nxt x41 x121).1)) rfl) ?_
        refine wl_lookupI (l := [(117, 1), (100, 2), (116, 3), (102, 4), (105, 5), (122, 6), (114, 7), (97, 8), (110, 9), (115, 10), (107, 11), (106, 12), (101, 13)]) (k' := .i64) H137 (i := 2) rfl mt119 un21 rfl rfl rfl mz3 ?_
        refine wl_lit (K := kI) (vs := [(.int .i64 ((lkI [(117, 1), (100, 2), (116, 3), (102, 4), (105, 5), (122, 6), (114, 7), (97, 8), (110, 9), (115, 10), (107, 11), (106, 12), (101, 13)] ((nxt x41 x121).1)).getD 0))]) (xs := ([((lkI [(117, 1), (100, 2), (116, 3), (102, 4), (105, 5), (122, 6), (114, 7), (97, 8), (110, 9), (115, 10), (107, 11), (106, 12), (101, 13)] ((nxt x41 x121).1)).getD 0)] : (List Int))) H137 sl36 el3 rfl ⟨((dInt .i64).toV _ _), trivial⟩ rfl (by decide) ?_
        intro g145 w147 H146
        obtain ⟨r149, hr150, hF⟩ := bindS hF
        refine wl_append H146 sl36 el3 (i := 1) rfl rfl rfl ((H146.okAt (i := 0) rfl).src) hr150 ?_
        intro g151 A152 c153 w154 H155
        refine wl_rn (rn_pure (.slice A152 r149.length c153) rfl) ?_
        refine wl_nil (blk_n ?_)
        refine then_n ?_
        exact ⟨_, (Option.some.inj hF).symm, _, _, g151, A152, c153, frame_eq _ ⟨rfl, rfl, rfl, rfl, trivial⟩, (hG122.trans hG136), (St.pk [1, 2, 3] 4 H155 rfl (by decide))⟩
     ·refine wc_region ?_
      refine wl_rn (rn_pure (.int .i32 ((nxt x41 x121).1)) rfl) ?_
      iterate 2 refine wl_rn (rn_pure (.bool (decide ((nxt x41 x121).1 ≥ 48))) rfl) ?_
      rcases bcases (decide ((nxt x41 x121).1 ≥ 48)) with hb156 | hb156
      ·replace hF := ifT hF hb156
       refine wl_yes rfl rfl rfl (vb hb156) ?_
       refine wl_rn (rn_pure (.int .i32 ((nxt x41 x121).1)) rfl) ?_
       refine wl_yes rfl rfl rfl (vb hb156) ?_
       refine wl_rn (rn_pure (.bool (decide ((nxt x41 x121).1 ≤ 57))) rfl) ?_
       refine wl_rn (rn_pickT (.bool (decide ((nxt x41 x121).1 ≤ 57))) (vb hb156) rfl) ?_
       refine wl_rn (rn_pure (.bool (decide ((nxt x41 x121).1 ≤ 57))) rfl) ?_
       refine wl_nil (then_n ?_)
       exact ⟨_, _, x116, (decide ((nxt x41 x121).1 ≤ 57)), g117, A118, c119, frame_eq _ ⟨rfl, rfl, rfl, rfl, rfl, rfl, trivial⟩, GLe.refl _, H128, hF⟩
      ·replace hF := ifF hF hb156
       iterate 2 refine wl_no rfl rfl rfl (vb hb156) ?_
       refine wl_rn (rn_pickF (.bool false) (vb hb156) rfl) ?_
       refine wl_rn (rn_pure (.bool false) rfl) ?_
       refine wl_nil (then_n ?_)
       exact ⟨_, _, x116, false, g117, A118, c119, frame_eq _ ⟨rfl, rfl, rfl, rfl, rfl, rfl, trivial⟩, GLe.refl _, H128, hF⟩
    ·replace hF := ifF hF hb126
     refine wl_nextF H123 (i := 1) rfl rfl hb126 ?_
     refine wl_rn (rn_pure (.bool false) rfl) ?_
     refine wl_nil (then_n ?_)
     refine wp_seq ?_
     refine wc_false rfl ?_
     refine wp_exit ?_
     iterate 2 refine then_e ?_
     replace hF := exitS hF hy49
     refine blk_e ?_
     refine then_n ?_
     refine wp_seq (wc_region ?_)
     refine wl_rn (rn_pure (.int .i64 a0) rfl) ?_
     refine wl_rn (rn_pure (.slice none 0 0) rfl) ?_
     refine wl_rn (rn_pure (.int .i64 a0) rfl) ?_
     refine wl_rn (rn_pure (.bool false) rfl) ?_
     refine wl_nil (then_n ?_)
     refine wp_ret ?_
     have hF := Option.some.inj hF
     subst hF
     exact ret_mk rfl (RV.tmp rfl (RV.tmp rfl (RV.tmp rfl RV.nil))) ⟨_, none, 0, ((((hG5.trans hG12).trans hG21).trans hG34).trans hG122), rfl, (St.pk [] 3 H123 rfl (by decide)), (SlR.nil _ _)⟩
 ·refine wc_region ?_
  refine wl_rn (rn_pure (.int .i64 a0) rfl) ?_
  iterate 2 refine wl_rn (rn_pure (.bool (decide (a0 < 0))) rfl) ?_
  rcases bcases (decide (a0 < 0)) with hb159 | hb159
  ·replace hF := ifT hF hb159
   iterate 2 refine wl_no rfl rfl rfl (vb hb159) ?_
   refine wl_rn (rn_pickT (.bool true) (vb hb159) rfl) ?_
   refine wl_rn (rn_pure (.bool true) rfl) ?_
   iterate 2 refine wl_no rfl rfl rfl rfl ?_
   refine wl_rn (rn_pickT (.bool true) rfl rfl) ?_
   refine wl_rn (rn_pure (.bool true) rfl) ?_
   iterate 2 refine wl_no rfl rfl rfl rfl ?_
   refine wl_rn (rn_pickT (.bool true) rfl rfl) ?_
   refine wl_nil (then_n ?_)
   exact ⟨_, _, true, frame_eq _ ⟨rfl, rfl, rfl, trivial⟩, GLe.refl _, H, hF⟩
  ·replace hF := ifF hF hb159
   refine wl_yes rfl rfl rfl (vb hb159) ?_
   refine wl_rn (rn_pure (.int .i64 a0) rfl) ?_
   refine wl_yes rfl rfl rfl (vb hb159) ?_
   refine wl_rn (rn_pure (.bool (decide (a0 ≥ 10))) rfl) ?_
   refine wl_rn (rn_pickF (.bool (decide (a0 ≥ 10))) (vb hb159) rfl) ?_
   refine wl_rn (rn_pure (.bool (decide (a0 ≥ 10))) rfl) ?_
   rcases bcases (decide (a0 ≥ 10)) with hb160 | hb160
   ·replace hF := ifT hF hb160
    iterate 2 refine wl_no rfl rfl rfl (vb hb160) ?_
    refine wl_rn (rn_pickT (.bool true) (vb hb160) rfl) ?_
    refine wl_rn (rn_pure (.bool true) rfl) ?_
    iterate 2 refine wl_no rfl rfl rfl rfl ?_
    refine wl_rn (rn_pickT (.bool true) rfl rfl) ?_
    refine wl_nil (then_n ?_)
    exact ⟨_, _, true, frame_eq _ ⟨rfl, rfl, rfl, trivial⟩, GLe.refl _, H, hF⟩
   ·replace hF := ifF hF hb160
    refine wl_yes rfl rfl rfl (vb hb160) ?_
    refine wl_rn (rn_pure (.int .i64 a1) rfl) ?_
    refine wl_yes rfl rfl rfl (vb hb160) ?_
    refine wl_rn (rn_pure (.bool (decide (a1 < 0))) rfl) ?_
    refine wl_rn (rn_pickF (.bool (decide (a1 < 0))) (vb hb160) rfl) ?_
    refine wl_rn (rn_pure (.bool (decide (a1 < 0))) rfl) ?_
    rcases bcases (decide (a1 < 0)) with hb161 | hb161
    ·replace hF := ifT hF hb161
     iterate 2 refine wl_no rfl rfl rfl (vb hb161) ?_
     refine wl_rn (rn_pickT (.bool true) (vb hb161) rfl) ?_
     refine wl_nil (then_n ?_)
     exact ⟨_, _, true, frame_eq _ ⟨rfl, rfl, rfl, trivial⟩, GLe.refl _, H, hF⟩
    ·replace hF := ifF hF hb161
     refine wl_yes rfl rfl rfl (vb hb161) ?_
     refine wl_rn (rn_pure (.int .i64 a1) rfl) ?_
     refine wl_yes rfl rfl rfl (vb hb161) ?_
     refine wl_rn (rn_pure (.bool (decide (a1 ≥ 16))) rfl) ?_
     refine wl_rn (rn_pickF (.bool (decide (a1 ≥ 16))) (vb hb161) rfl) ?_
     refine wl_nil (then_n ?_)
     exact ⟨_, _, (decide (a1 ≥ 16)), frame_eq _ ⟨rfl, rfl, rfl, trivial⟩, GLe.refl _, H, hF⟩

theorem slices_Index_int_ok {c : World} (hc : Hc c) {G : Ghost} {w : World} {σ : List Ent} {a0 : (List Int)} {A0_ : Option Addr} {c0_ : Nat} {a1 : Int} (h0_ : SlR kI G A0_ c0_ a0) (H : St c G w (σ)) {r : Int} (hF : slices_Index_int a0 a1 = some r) :
  Calls Tryd.prog 73 ([(.slice A0_ a0.length c0_), (.int .i64 a1)] : List Value).toArray w (Ends fun v w' => ∃ (G' : Ghost), GLe G G' ∧ tup [(.int .i64 r)] = v ∧ St c G' w' (σ)) := by
 unfold slices_Index_int at hF
 refine calls_mk Tryd.func73 rfl rfl rfl ?_
 refine wp_seq (wc_region ?_)
 refine wl_rn (rn_pure (.int .i64 0) rfl) ?_
 refine wl_nil (then_n ?_)
 refine wp_seq ?_
 refine wp_seq (wc_region ?_)
 refine wl_rn (rn_pure (.slice A0_ a0.length c0_) rfl) ?_
 refine wl_rn (rn_len sl36 rfl) ?_
 refine wl_rn (rn_pure (.int .i64 0) rfl) ?_
 refine wl_nil (then_n ?_)
 refine wp_block ?_
 refine wp_loopX (fun (s : Int) a w => ∃ (T0 : Fr) (G1 : Ghost), a = mk 19 (upds T0 [(0, (.slice A0_ a0.length c0_)), (1, (.int .i64 a1)), (7, (.int .i64 (a0.length : Int))), (8, (.int .i64 s))]) ∧ GLe G G1 ∧ St c G1 w (σ)) hF ?_ ?_
 ·exact ⟨_, _, frame_eq _ ⟨rfl, rfl, rfl, rfl, trivial⟩, GLe.refl _, H⟩
 ·rintro x9 a w y12 ⟨T0, G13, rfl, hG10, H11⟩ hF hy1
  refine wp_seq (wc_region ?_)
  refine wl_rn (rn_pure (.bool (decide (x9 < (a0.length : Int)))) rfl) ?_
  refine wl_nil (then_n ?_)
  refine wp_seq ?_
  rcases bcases (decide (x9 < (a0.length : Int))) with hb14 | hb14
  ·replace hF := ifT hF hb14
   refine wc_true (vb hb14) ?_
   refine wp_skip ?_
   refine then_n ?_
   refine wp_seq ?_
   refine wp_block ?_
   refine wp_seq (wc_region ?_)
   iterate 2 refine wl_rn (rn_pure (.int .i64 x9) rfl) ?_
   refine wl_nil (then_n (wp_seq (wc_region ?_)))
   refine wl_rn (rn_pure (.int .i64 a1) rfl) ?_
   refine wl_rn (rn_pure (.slice A0_ a0.length c0_) rfl) ?_
   refine wl_rn (rn_pure (.int .i64 x9) rfl) ?_
   obtain ⟨x15, hx16, hF⟩ := bindS hF
   refine wl_rnE (rn_index (h0_.mono hG10) sl36 ty3 rfl rfl hx16) ?_
   intro a17 hp18
   refine wl_loadpd H11 hp18 (dInt .i64) ty3 rfl ?_
   refine wl_rn (rn_pure (.bool (a1 == x15)) rfl) ?_
   refine wl_nil (then_n ?_)
   rcases bcases (a1 == x15) with hb19 | hb19
   ·replace hF := ifT hF hb19
    refine wc_true (vb hb19) ?_
    refine wp_seq (wc_region ?_)
    iterate 2 refine wl_rn (rn_pure (.int .i64 x9) rfl) ?_
    refine wl_nil (then_n ?_)
    refine wp_ret ?_
    refine blk_r ?_
    iterate 2 refine then_r ?_
    replace hF := exitS hF hy1
    refine blk_r ?_
    refine then_r ?_
    have hF := Option.some.inj hF
    subst hF
    exact ret_mk rfl (RV.tmp rfl RV.nil) ⟨_, hG10, rfl, H11⟩
   ·replace hF := ifF hF hb19
    refine wc_false (vb hb19) ?_
    refine wp_skip ?_
    refine blk_n ?_
    refine then_n ?_
    refine wc_region ?_
    iterate 2 refine wl_rn (rn_pure (.int .i64 (IntKind.i64.wrap (x9 + 1))) rfl) ?_
    refine wl_nil (then_n ?_)
    exact ⟨_, (Option.some.inj hF).symm, _, _, frame_eq _ ⟨rfl, rfl, rfl, rfl, trivial⟩, hG10, H11⟩
  ·replace hF := ifF hF hb14
   refine wc_false (vb hb14) ?_
   refine wp_exit ?_
   iterate 2 refine then_e ?_
   replace hF := exitS hF hy1
   refine blk_e ?_
   refine then_n ?_
   refine wp_seq (wc_region ?_)
   refine wl_rn (rn_pure (.int .i64 (-1)) rfl) ?_
   refine wl_nil (then_n ?_)
   refine wp_ret ?_
   have hF := Option.some.inj hF
   subst hF
   exact ret_mk rfl (RV.tmp rfl RV.nil) ⟨_, hG10, rfl, H11⟩

theorem slices_Contains_int_ok {c : World} (hc : Hc c) {G : Ghost} {w : World} {σ : List Ent} {a0 : (List Int)} {A0_ : Option Addr} {c0_ : Nat} {a1 : Int} (h0_ : SlR kI G A0_ c0_ a0) (H : St c G w (σ)) {r : Bool} (hF : slices_Contains_int a0 a1 = some r) :
  Calls Tryd.prog 48 ([(.slice A0_ a0.length c0_), (.int .i64 a1)] : List Value).toArray w (Ends fun v w' => ∃ (G' : Ghost), GLe G G' ∧ tup [(.bool r)] = v ∧ St c G' w' (σ)) := by
 unfold slices_Contains_int at hF
 refine calls_mk Tryd.func48 rfl rfl rfl ?_
 refine wp_seq (wc_region ?_)
 refine wl_rn (rn_pure (.bool false) rfl) ?_
 refine wl_nil (then_n (wp_seq (wc_region ?_)))
 refine wl_rn (rn_pure (.slice A0_ a0.length c0_) rfl) ?_
 refine wl_rn (rn_pure (.int .i64 a1) rfl) ?_
 obtain ⟨r1, hr2, hF⟩ := bindS hF
 refine wl_call (vs := [(.slice A0_ a0.length c0_), (.int .i64 a1)]) en73 rfl (slices_Index_int_ok hc h0_ H hr2) ?_
 rintro v7 w6 ⟨G3, hG4, rfl, H5⟩
 iterate 2 refine wl_rn (rn_pure (.bool (decide (r1 ≥ 0))) rfl) ?_
 refine wl_nil (then_n ?_)
 refine wp_ret ?_
 have hF := Option.some.inj hF
 subst hF
 exact ret_mk rfl (RV.tmp rfl RV.nil) ⟨_, hG4, rfl, H5⟩

theorem auto_work_begin_ok {c : World} (hc : Hc c) {G : Ghost} {w : World} {σ : List Ent} {b0 : Nat} {x2 : Tauto_work}  (H : St c G w ((.box b0 105 (kTauto_work.at_ x2)) :: σ)) {r : Tauto_work} (hF : auto_work_begin x2 = some r) :
  Calls Tryd.prog 70 ([(pt b0)] : List Value).toArray w (Ends fun v w' => ∃ (G' : Ghost), GLe G G' ∧ tup [] = v ∧ St c G' w' ((.box b0 105 (kTauto_work.at_ r)) :: σ)) := by
 unfold auto_work_begin at hF
 refine calls_mk Tryd.func70 rfl rfl rfl ?_
 refine wp_seq (wc_region ?_)
 refine wl_rn (rn_pure (pt b0) rfl) ?_
 refine wl_rn (rn_nilCheck rfl) ?_
 refine wl_rn (rn_field fo105_0 rfl) ?_
 refine wl_rn (rn_field fo23_1 rfl) ?_
 refine wl_store (z := 5) H (i := 0) rfl (Lens.then lTauto_work_Auto lTAuto_Count) ty3 rfl rfl ((dInt .i64).toV _ _) ?_
 intro w4 H3
 refine wl_nil (then_n (wp_seq (wc_region ?_)))
 refine wl_rn (rn_pure (pt b0) rfl) ?_
 refine wl_rn (rn_nilCheck rfl) ?_
 refine wl_rn (rn_field fo105_1 rfl) ?_
 refine wl_load H3 (i := 0) rfl lTauto_work_L ty36 rfl ?_
 intro v5 hv6
 obtain ⟨A7, c8, rfl, hs9⟩ := slice_V hv6
 obtain ⟨r10, hr11, hF⟩ := bindS hF
 refine wl_call (vs := [(.slice A7 x2.L.length c8), (.int .i64 10)]) en48 rfl (slices_Contains_int_ok hc hs9 H3 hr11) ?_
 rintro v16 w15 ⟨G12, hG13, rfl, H14⟩
 refine wl_nil (then_n ?_)
 rcases bcases r10 with hb17 | hb17
 ·replace hF := ifT hF hb17
  refine wc_true (vb hb17) ?_
  refine wc_region ?_
  refine wl_rn (rn_pure (pt b0) rfl) ?_
  refine wl_rn (rn_nilCheck rfl) ?_
  refine wl_rn (rn_field fo105_0 rfl) ?_
  refine wl_rn (rn_field fo23_1 rfl) ?_
  refine wl_store (z := 2) H14 (i := 0) rfl (Lens.then lTauto_work_Auto lTAuto_Count) ty3 rfl rfl ((dInt .i64).toV _ _) ?_
  intro w19 H18
  refine wl_nil ?_
  have hF := Option.some.inj hF
  subst hF
  exact end_mk rfl RV.nil ⟨_, hG13, rfl, H18⟩
 ·replace hF := ifF hF hb17
  refine wc_false (vb hb17) ?_
  refine wp_skip ?_
  have hF := Option.some.inj hF
  subst hF
  exact end_mk rfl RV.nil ⟨_, hG13, rfl, H14⟩

theorem auto_work_nought_ok {c : World} (hc : Hc c) {G : Ghost} {w : World} {σ : List Ent} {b0 : Nat} {x2 : Tauto_work}  (H : St c G w ((.box b0 105 (kTauto_work.at_ x2)) :: σ)) {r : Tauto_work} (hF : auto_work_nought x2 = some r) :
  Calls Tryd.prog 71 ([(pt b0)] : List Value).toArray w (Ends fun v w' => ∃ (G' : Ghost), GLe G G' ∧ tup [] = v ∧ St c G' w' ((.box b0 105 (kTauto_work.at_ r)) :: σ)) := by
 unfold auto_work_nought at hF
 refine calls_mk Tryd.func71 rfl rfl rfl ?_
 refine wc_region ?_
 iterate 2 refine wl_rn (rn_pure (pt b0) rfl) ?_
 refine wl_rn (rn_nilCheck rfl) ?_
 refine wl_rn (rn_field fo105_0 rfl) ?_
 refine wl_rn (rn_field fo23_1 rfl) ?_
 refine wl_store (z := 0) H (i := 0) rfl (Lens.then lTauto_work_Auto lTAuto_Count) ty3 rfl rfl ((dInt .i64).toV _ _) ?_
 intro w4 H3
 refine wl_rn (rn_nilCheck rfl) ?_
 refine wl_rn (rn_field fo105_0 rfl) ?_
 refine wl_rn (rn_field fo23_2 rfl) ?_
 refine wl_store (z := 3) H3 (i := 0) rfl (Lens.then lTauto_work_Auto lTAuto_Left) ty3 rfl rfl ((dInt .i64).toV _ _) ?_
 intro w6 H5
 refine wl_nil ?_
 have hF := Option.some.inj hF
 subst hF
 exact end_mk rfl RV.nil ⟨_, GLe.refl _, rfl, H5⟩

theorem auto_work_send_ok {c : World} (hc : Hc c) {G : Ghost} {w : World} {σ : List Ent} {b0 : Nat} {x2 : Tauto_work}  (H : St c G w ((.box b0 105 (kTauto_work.at_ x2)) :: σ)) {r : Tauto_work} (hF : auto_work_send x2 = some r) :
  Calls Tryd.prog 72 ([(pt b0)] : List Value).toArray w (Ends fun v w' => ∃ (G' : Ghost), GLe G G' ∧ tup [] = v ∧ St c G' w' ((.box b0 105 (kTauto_work.at_ r)) :: σ)) := by
 unfold auto_work_send at hF
 refine calls_mk Tryd.func72 rfl rfl rfl ?_
 refine wp_seq (wc_region ?_)
 iterate 3 refine wl_rn (rn_pure (pt b0) rfl) ?_
 refine wl_rn (rn_nilCheck rfl) ?_
 refine wl_rn (rn_field fo105_0 rfl) ?_
 refine wl_rn (rn_field fo23_1 rfl) ?_
 refine wl_loadd H (i := 0) rfl (Lens.then lTauto_work_Auto lTAuto_Count) (dInt .i64) ty3 rfl ?_
 refine wl_rn (rn_pure (.int .i64 (IntKind.i64.wrap (x2.Auto.Count - 1))) rfl) ?_
 refine wl_rn (rn_max rfl rfl) ?_
 refine wl_rn (rn_nilCheck rfl) ?_
 refine wl_rn (rn_field fo105_0 rfl) ?_
 refine wl_rn (rn_field fo23_1 rfl) ?_
 refine wl_store (z := (if (IntKind.i64.wrap (x2.Auto.Count - 1)) < 0 then 0 else (IntKind.i64.wrap (x2.Auto.Count - 1)))) H (i := 0) rfl (Lens.then lTauto_work_Auto lTAuto_Count) ty3 rfl rfl ((dInt .i64).toV _ _) ?_
 intro w4 H3
 refine wl_rn (rn_nilCheck rfl) ?_
 refine wl_rn (rn_field fo105_0 rfl) ?_
 refine wl_rn (rn_field fo23_2 rfl) ?_
 refine wl_store (z := 3) H3 (i := 0) rfl (Lens.then lTauto_work_Auto lTAuto_Left) ty3 rfl rfl ((dInt .i64).toV _ _) ?_
 intro w6 H5
 refine wl_nil (then_n ?_)
 refine wc_region ?_
 refine wl_rn (rn_pure (pt b0) rfl) ?_
 refine wl_rn (rn_nilCheck rfl) ?_
 refine wl_rn (rn_field fo105_0 rfl) ?_
 refine wl_rn (rn_field fo23_3 rfl) ?_
 refine wl_loadd H5 (i := 0) rfl (Lens.then lTauto_work_Auto lTAuto_Id) (dInt .u8) ty5 rfl ?_
 refine wl_rn (rn_pure (.int .u8 (IntKind.u8.wrap (x2.Auto.Id + 1))) rfl) ?_
 refine wl_rn (rn_nilCheck rfl) ?_
 refine wl_rn (rn_field fo105_0 rfl) ?_
 refine wl_rn (rn_field fo23_3 rfl) ?_
 refine wl_store (z := (IntKind.u8.wrap (x2.Auto.Id + 1))) H5 (i := 0) rfl (Lens.then lTauto_work_Auto lTAuto_Id) ty5 rfl rfl ((dInt .u8).toV _ _) ?_
 intro w8 H7
 refine wl_nil ?_
 have hF := Option.some.inj hF
 subst hF
 exact end_mk rfl RV.nil ⟨_, GLe.refl _, rfl, H7⟩

theorem fsm_Timed_ok {c : World} (hc : Hc c) {G : Ghost} {w : World} {σ : List Ent} {a0 : Int}  (H : St c G w (σ)) {r : Bool} (hF : fsm_Timed a0 = some r) :
  Calls Tryd.prog 64 ([(.int .i64 a0)] : List Value).toArray w (Ends fun v w' => ∃ (G' : Ghost), GLe G G' ∧ tup [(.bool r)] = v ∧ St c G' w' (σ)) := by
 unfold fsm_Timed at hF
 refine calls_mk Tryd.func64 rfl rfl rfl ?_
 refine wp_seq (wc_region ?_)
 refine wl_rn (rn_pure (.bool false) rfl) ?_
 refine wl_nil (then_n (wp_seq (wc_region ?_)))
 refine wl_rn (rn_pure (.int .i64 a0) rfl) ?_
 iterate 2 refine wl_rn (rn_pure (.bool (decide (a0 ≥ 4))) rfl) ?_
 rcases bcases (decide (a0 ≥ 4)) with hb1 | hb1
 ·replace hF := ifT hF hb1
  refine wl_yes rfl rfl rfl (vb hb1) ?_
  refine wl_rn (rn_pure (.int .i64 a0) rfl) ?_
  refine wl_yes rfl rfl rfl (vb hb1) ?_
  refine wl_rn (rn_pure (.bool (decide (a0 ≤ 8))) rfl) ?_
  refine wl_rn (rn_pickT (.bool (decide (a0 ≤ 8))) (vb hb1) rfl) ?_
  refine wl_rn (rn_pure (.bool (decide (a0 ≤ 8))) rfl) ?_
  refine wl_nil (then_n ?_)
  refine wp_ret ?_
  have hF := Option.some.inj hF
  subst hF
  exact ret_mk rfl (RV.tmp rfl RV.nil) ⟨_, GLe.refl _, rfl, H⟩
 ·replace hF := ifF hF hb1
  iterate 2 refine wl_no rfl rfl rfl (vb hb1) ?_
  refine wl_rn (rn_pickF (.bool false) (vb hb1) rfl) ?_
  refine wl_rn (rn_pure (.bool false) rfl) ?_
  refine wl_nil (then_n ?_)
  refine wp_ret ?_
  have hF := Option.some.inj hF
  subst hF
  exact ret_mk rfl (RV.tmp rfl RV.nil) ⟨_, GLe.refl _, rfl, H⟩

theorem auto_Do_ok {c : World} (hc : Hc c) {G : Ghost} {w : World} {σ : List Ent} {a0 : TAuto} {v0_ : Value} {a1 : Int} (h0_ : kTAuto.V G v0_ a0) (H : St c G w (σ)) {r : (TAuto × (List Int) × Int)} (hF : auto_Do a0 a1 = some r) :
  Calls Tryd.prog 47 ([v0_, (.int .i64 a1)] : List Value).toArray w (Ends fun v w' => ∃ (G' : Ghost) (v1' : Value) (A2' : Option Addr) (c3' : Nat), GLe G G' ∧ tup [v1', (.slice A2' r.2.1.length c3'), (.int .i64 r.2.2)] = v ∧ St c G' w' (σ) ∧ kTAuto.V G' v1' r.1 ∧ SlR kI G' A2' c3' r.2.1) := by
 unfold auto_Do at hF
 refine calls_mk Tryd.func47 rfl rfl rfl ?_
 refine wp_seq (wc_region ?_)
 refine wl_box (K := kTAuto) (x := a0) H rfl h0_ ?_
 intro b1 w4 H2
 refine wl_alloc H2 zr23 ?_
 intro b5 w8 H6
 refine wl_rn (rn_pure (.slice none 0 0) rfl) ?_
 refine wl_rn (rn_pure (.int .i64 0) rfl) ?_
 refine wl_nil (then_n (wp_seq (wc_region ?_)))
 refine wl_rn (rn_field fo23_0 rfl) ?_
 refine wl_loadd H6 (i := 1) rfl lTAuto_State (dInt .i64) ty3 rfl ?_
 refine wl_rn (rn_pure (.int .i64 a1) rfl) ?_
 obtain ⟨r9, hr10, hF⟩ := bindS hF
 refine wl_call (vs := [(.int .i64 a0.State), (.int .i64 a1)]) en69 rfl (fsm_Next_ok hc H6 hr10) ?_
 rintro v15 w14 ⟨G11, A16, c17, hG12, rfl, H13, hs18⟩
 refine wl_rn (rn_pure (.tuple #[(.slice A16 r9.1.length c17), (.int .i64 r9.2.1), (.bool r9.2.2)]) rfl) ?_
 refine wl_rn (rn_pure (.slice A16 r9.1.length c17) rfl) ?_
 refine wl_rn (rn_pure (.int .i64 r9.2.1) rfl) ?_
 refine wl_rn (rn_pure (.bool r9.2.2) rfl) ?_
 refine wl_rn (rn_pure (.slice A16 r9.1.length c17) rfl) ?_
 refine wl_rn (rn_pure (.int .i64 r9.2.1) rfl) ?_
 refine wl_rn (rn_pure (.bool r9.2.2) rfl) ?_
 refine wl_nil (then_n ?_)
 refine wp_seq ?_
 refine wp_seq (wc_region ?_)
 refine wl_rn (rn_pure (.bool r9.2.2) rfl) ?_
 refine wl_rn (rn_pure (.bool (!r9.2.2)) rfl) ?_
 refine wl_nil (then_n ?_)
 rcases bcases (!r9.2.2) with hb19 | hb19
 ·replace hF := ifT hF hb19
  refine wc_true (vb hb19) ?_
  refine wp_seq (wc_region ?_)
  refine wl_load H13 (i := 1) rfl (Lens.id kTAuto) ty23 rfl ?_
  intro v20 hv21
  refine wl_store (z := a0) H13 (i := 0) rfl (Lens.id kTAuto) ty23 rfl rfl hv21 ?_
  intro w23 H22
  refine wl_rn (rn_pure (.slice none 0 0) rfl) ?_
  refine wl_rn (rn_pure (.int .i64 1) rfl) ?_
  refine wl_nil (then_n ?_)
  refine wp_ret ?_
  refine then_r ?_
  obtain ⟨v24, hv25, hl26⟩ := H22.loadv (i := 0) rfl ty23
  have hF := Option.some.inj hF
  subst hF
  exact ret_mk rfl (RV.cell rfl hl26 (RV.tmp rfl (RV.tmp rfl RV.nil))) ⟨_, v24, none, 0, hG12, rfl, (St.pk [] 2 H22 rfl (by decide)), hv25, (SlR.nil _ _)⟩
 ·replace hF := ifF hF hb19
  refine wc_false (vb hb19) ?_
  refine wp_skip ?_
  refine then_n ?_
  refine wp_seq (wc_region ?_)
  refine wl_load H13 (i := 1) rfl (Lens.id kTAuto) ty23 rfl ?_
  intro v27 hv28
  refine wl_rn (rn_pure (.slice A16 r9.1.length c17) rfl) ?_
  refine wl_rnE (rn_build (G := G11) zr105 rfl bs105 rfl (Parts.cons fo105_0 lTauto_work_Auto hv28 (Parts.cons fo105_1 lTauto_work_L (slice_toV hs18) (Parts.nil _)))) ?_
  intro v29 hv30
  refine wl_box (K := kTauto_work) (x := (Tauto_work.mk a0 r9.1)) H13 rfl hv30 ?_
  intro b31 w34 H32
  refine wl_rn (rn_pure (pt b31) rfl) ?_
  refine wl_nil (then_n (wp_seq (wc_region ?_)))
  refine wl_makeMap H32 ?_
  intro r35 w36 H37
  refine wl_rn (rn_pure (pt b31) rfl) ?_
  refine wl_rn (rn_pure (.func (.func 70) #[(pt b31)] #[]) rfl) ?_
  refine wl_insert (key := (.int .i64 5)) (val := (.func (.func 70) #[(pt b31)] #[])) H37 (i := 0) rfl mt106 un3 rfl rfl rfl (by simp [Go.MapKept.IsKey]) rfl ?_
  intro w39 H40
  have H41 : St c G11 w39 ((.mp r35 [⟨.int .i64 5, (.func (.func 70) #[(pt b31)] #[]), 0⟩] 1) :: (.box b31 105 (kTauto_work.at_ (Tauto_work.mk a0 r9.1))) :: (.box b5 23 (kTAuto.at_ zTAuto)) :: (.box b1 23 (kTAuto.at_ a0)) :: σ) := H40
  refine wl_rn (rn_pure (pt b31) rfl) ?_
  refine wl_rn (rn_pure (.func (.func 71) #[(pt b31)] #[]) rfl) ?_
  refine wl_insert (key := (.int .i64 6)) (val := (.func (.func 71) #[(pt b31)] #[])) H41 (i := 0) rfl mt106 un3 rfl rfl rfl (by simp [Go.MapKept.IsKey]) rfl ?_
  intro w42 H43
  have H44 : St c G11 w42 ((.mp r35 [⟨.int .i64 5, (.func (.func 70) #[(pt b31)] #[]), 0⟩, ⟨.int .i64 6, (.func (.func 71) #[(pt b31)] #[]), 1⟩] 2) :: (.box b31 105 (kTauto_work.at_ (Tauto_work.mk a0 r9.1))) :: (.box b5 23 (kTAuto.at_ zTAuto)) :: (.box b1 23 (kTAuto.at_ a0)) :: σ) := H43
  refine wl_rn (rn_pure (pt b31) rfl) ?_
  refine wl_rn (rn_pure (.func (.func 72) #[(pt b31)] #[]) rfl) ?_
  refine wl_insert (key := (.int .i64 7)) (val := (.func (.func 72) #[(pt b31)] #[])) H44 (i := 0) rfl mt106 un3 rfl rfl rfl (by simp [Go.MapKept.IsKey]) rfl ?_
  intro w45 H46
  have H47 : St c G11 w45 ((.mp r35 [⟨.int .i64 5, (.func (.func 70) #[(pt b31)] #[]), 0⟩, ⟨.int .i64 6, (.func (.func 71) #[(pt b31)] #[]), 1⟩, ⟨.int .i64 7, (.func (.func 72) #[(pt b31)] #[]), 2⟩] 3) :: (.box b31 105 (kTauto_work.at_ (Tauto_work.mk a0 r9.1))) :: (.box b5 23 (kTAuto.at_ zTAuto)) :: (.box b1 23 (kTAuto.at_ a0)) :: σ) := H46
  refine wl_rn (rn_pure (pt b31) rfl) ?_
  refine wl_rn (rn_pure (.func (.func 72) #[(pt b31)] #[]) rfl) ?_
  refine wl_insert (key := (.int .i64 10)) (val := (.func (.func 72) #[(pt b31)] #[])) H47 (i := 0) rfl mt106 un3 rfl rfl rfl (by simp [Go.MapKept.IsKey]) rfl ?_
  intro w48 H49
  have H50 : St c G11 w48 ((.mp r35 [⟨.int .i64 5, (.func (.func 70) #[(pt b31)] #[]), 0⟩, ⟨.int .i64 6, (.func (.func 71) #[(pt b31)] #[]), 1⟩, ⟨.int .i64 7, (.func (.func 72) #[(pt b31)] #[]), 2⟩, ⟨.int .i64 10, (.func (.func 72) #[(pt b31)] #[]), 3⟩] 4) :: (.box b31 105 (kTauto_work.at_ (Tauto_work.mk a0 r9.1))) :: (.box b5 23 (kTAuto.at_ zTAuto)) :: (.box b1 23 (kTAuto.at_ a0)) :: σ) := H49
  iterate 2 refine wl_rn (rn_pure (.map (some r35)) rfl) ?_
  refine wl_nil (then_n ?_)
  refine wp_seq ?_
  refine wp_seq (wc_region ?_)
  refine wl_rn (rn_pure (.slice A16 r9.1.length c17) rfl) ?_
  refine wl_rn (rn_len sl36 rfl) ?_
  refine wl_rn (rn_pure (.int .i64 0) rfl) ?_
  refine wl_nil (then_n ?_)
  refine wp_block ?_
  refine wp_loopX (fun (s : (Int × Tauto_work)) a w => ∃ (T0 : Fr) (G1 : Ghost), a = mk 74 (upds T0 [(4, (pt b5)), (7, (.slice A16 r9.1.length c17)), (8, (.int .i64 r9.2.1)), (10, (pt b31)), (11, (.map (some r35))), (41, (.slice A16 r9.1.length c17)), (42, (.int .i64 (r9.1.length : Int))), (43, (.int .i64 s.1))]) ∧ GLe G11 G1 ∧ St c G1 w ((.mp r35 [⟨.int .i64 5, (.func (.func 70) #[(pt b31)] #[]), 0⟩, ⟨.int .i64 6, (.func (.func 71) #[(pt b31)] #[]), 1⟩, ⟨.int .i64 7, (.func (.func 72) #[(pt b31)] #[]), 2⟩, ⟨.int .i64 10, (.func (.func 72) #[(pt b31)] #[]), 3⟩] 4) :: (.box b31 105 (kTauto_work.at_ s.2)) :: (.box b5 23 (kTAuto.at_ zTAuto)) :: σ)) hF ?_ ?_
  ·exact ⟨_, _, frame_eq _ ⟨rfl, rfl, rfl, rfl, rfl, rfl, rfl, rfl, trivial⟩, GLe.refl _, (St.pk [0, 1, 2] 4 H50 rfl (by decide))⟩
  ·rintro ⟨x192, x193⟩ a w y196 ⟨T0, G197, rfl, hG194, H195⟩ hF hy51
   refine wp_seq (wc_region ?_)
   refine wl_rn (rn_pure (.bool (decide (x192 < (r9.1.length : Int)))) rfl) ?_
   refine wl_nil (then_n ?_)
   refine wp_seq ?_
   rcases bcases (decide (x192 < (r9.1.length : Int))) with hb198 | hb198
   ·replace hF := ifT hF hb198
    refine wc_true (vb hb198) ?_
    refine wp_skip ?_
    refine then_n ?_
    refine wp_seq (join (fun a w => ∃ (T0 : Fr) (G1 : Ghost) (x239 : Tauto_work), a = mk 74 (upds T0 [(4, (pt b5)), (7, (.slice A16 r9.1.length c17)), (8, (.int .i64 r9.2.1)), (10, (pt b31)), (11, (.map (some r35))), (41, (.slice A16 r9.1.length c17)), (42, (.int .i64 (r9.1.length : Int))), (43, (.int .i64 x192))]) ∧ GLe G197 G1 ∧ St c G1 w ((.mp r35 [⟨.int .i64 5, (.func (.func 70) #[(pt b31)] #[]), 0⟩, ⟨.int .i64 6, (.func (.func 71) #[(pt b31)] #[]), 1⟩, ⟨.int .i64 7, (.func (.func 72) #[(pt b31)] #[]), 2⟩, ⟨.int .i64 10, (.func (.func 72) #[(pt b31)] #[]), 3⟩] 4) :: (.box b31 105 (kTauto_work.at_ x239)) :: (.box b5 23 (kTAuto.at_ zTAuto)) :: σ) ∧ auto_Do_j2 x192 x239 = some y196) ?_ ?_)
    ·rintro a w ⟨T0, G242, x239, rfl, hG240, H241, hF⟩
     refine wc_region ?_
     iterate 2 refine wl_rn (rn_pure (.int .i64 (IntKind.i64.wrap (x192 + 1))) rfl) ?_
     refine wl_nil (then_n ?_)
     exact ⟨_, (Option.some.inj hF).symm, _, _, frame_eq _ ⟨rfl, rfl, rfl, rfl, rfl, rfl, rfl, rfl, trivial⟩, (hG194.trans hG240), H241⟩
    ·refine wp_block ?_
     refine wp_seq (wc_region ?_)
     obtain ⟨x243, hx244, hF⟩ := bindS hF
     refine wl_rnE (rn_index (hs18.mono hG194) sl36 ty3 rfl rfl hx244) ?_
     intro a245 hp246
     refine wl_loadpd H195 hp246 (dInt .i64) ty3 rfl ?_
     refine wl_rn (rn_pure (.int .i64 x243) rfl) ?_
     refine wl_nil (then_n (wp_seq (wc_region ?_)))
     refine wl_rn (rn_pure (.map (some r35)) rfl) ?_
     refine wl_rn (rn_pure (.int .i64 x243) rfl) ?_
     rcases bcases (x243 == 5) with hb251 | hb251
     ·replace hF := ifT hF hb251
      refine wl_lookup (key := (.int .i64 x243)) (val := (.func (.func 70) #[(pt b31)] #[])) (ok := true) H195 (i := 0) rfl mt106 un3 rfl rfl (by simp [Go.MapKept.IsKey]) ⟨_, (fnd_yes hb251), .inl ⟨_, rfl, rfl⟩⟩ ?_
      refine wl_rn (rn_pure (.tuple #[(.func (.func 70) #[(pt b31)] #[]), (.bool true)]) rfl) ?_
      refine wl_rn (rn_pure (.func (.func 70) #[(pt b31)] #[]) rfl) ?_
      refine wl_rn (rn_pure (.bool true) rfl) ?_
      refine wl_rn (rn_pure (.func (.func 70) #[(pt b31)] #[]) rfl) ?_
      refine wl_rn (rn_pure (.bool true) rfl) ?_
      refine wl_nil (then_n (wp_seq (wc_region ?_)))
      refine wl_rn (rn_pure (.bool true) rfl) ?_
      refine wl_nil (then_n ?_)
      refine wc_true rfl ?_
      refine wc_region ?_
      refine wl_rn (rn_pure (.func (.func 70) #[(pt b31)] #[]) rfl) ?_
      obtain ⟨r252, hr253, hF⟩ := bindS hF
      refine wl_callv (first := [(pt b31)]) (captured := []) (vs := [(pt b31)]) en70 rfl rfl (auto_work_begin_ok hc (St.pk [1, 0, 2] 3 H195 rfl (by decide)) hr253) ?_
      rintro v258 w257 ⟨G254, hG255, rfl, H256⟩
      refine wl_nil (blk_n ?_)
      refine then_n ?_
      exact ⟨_, _, r252, frame_eq _ ⟨rfl, rfl, rfl, rfl, rfl, rfl, rfl, rfl, trivial⟩, hG255, (St.pk [1, 0, 2] 3 H256 rfl (by decide)), hF⟩
     ·replace hF := ifF hF hb251
      rcases bcases (x243 == 6) with hb259 | hb259
      ·replace hF := ifT hF hb259
       refine wl_lookup (key := (.int .i64 x243)) (val := (.func (.func 71) #[(pt b31)] #[])) (ok := true) H195 (i := 0) rfl mt106 un3 rfl rfl (by simp [Go.MapKept.IsKey]) ⟨_, (fnd_no hb251 (fnd_yes hb259)), .inl ⟨_, rfl, rfl⟩⟩ ?_
       refine wl_rn (rn_pure (.tuple #[(.func (.func 71) #[(pt b31)] #[]), (.bool true)]) rfl) ?_
       refine wl_rn (rn_pure (.func (.func 71) #[(pt b31)] #[]) rfl) ?_
       refine wl_rn (rn_pure (.bool true) rfl) ?_
       refine wl_rn (rn_pure (.func (.func 71) #[(pt b31)] #[]) rfl) ?_
       refine wl_rn (rn_pure (.bool true) rfl) ?_
       refine wl_nil (then_n (wp_seq (wc_region ?_)))
       refine wl_rn (rn_pure (.bool true) rfl) ?_
       refine wl_nil (then_n ?_)
       refine wc_true rfl ?_
       refine wc_region ?_
       refine wl_rn (rn_pure (.func (.func 71) #[(pt b31)] #[]) rfl) ?_
       obtain ⟨r260, hr261, hF⟩ := bindS hF
       refine wl_callv (first := [(pt b31)]) (captured := []) (vs := [(pt b31)]) en71 rfl rfl (auto_work_nought_ok hc (St.pk [1, 0, 2] 3 H195 rfl (by decide)) hr261) ?_
       rintro v266 w265 ⟨G262, hG263, rfl, H264⟩
       refine wl_nil (blk_n ?_)
       refine then_n ?_
       exact ⟨_, _, r260, frame_eq _ ⟨rfl, rfl, rfl, rfl, rfl, rfl, rfl, rfl, trivial⟩, hG263, (St.pk [1, 0, 2] 3 H264 rfl (by decide)), hF⟩
      ·replace hF := ifF hF hb259
       rcases bcases (x243 == 7) with hb267 | hb267
       ·replace hF := ifT hF hb267
        refine wl_lookup (key := (.int .i64 x243)) (val := (.func (.func 72) #[(pt b31)] #[])) (ok := true) H195 (i := 0) rfl mt106 un3 rfl rfl (by simp [Go.MapKept.IsKey]) ⟨_, (fnd_no hb251 (fnd_no hb259 (fnd_yes hb267))), .inl ⟨_, rfl, rfl⟩⟩ ?_
        refine wl_rn (rn_pure (.tuple #[(.func (.func 72) #[(pt b31)] #[]), (.bool true)]) rfl) ?_
        refine wl_rn (rn_pure (.func (.func 72) #[(pt b31)] #[]) rfl) ?_
        refine wl_rn (rn_pure (.bool true) rfl) ?_
        refine wl_rn (rn_pure (.func (.func 72) #[(pt b31)] #[]) rfl) ?_
        refine wl_rn (rn_pure (.bool true) rfl) ?_
        refine wl_nil (then_n (wp_seq (wc_region ?_)))
        refine wl_rn (rn_pure (.bool true) rfl) ?_
        refine wl_nil (then_n ?_)
        refine wc_true rfl ?_
        refine wc_region ?_
        refine wl_rn (rn_pure (.func (.func 72) #[(pt b31)] #[]) rfl) ?_
        obtain ⟨r268, hr269, hF⟩ := bindS hF
        refine wl_callv (first := [(pt b31)]) (captured := []) (vs := [(pt b31)]) en72 rfl rfl (auto_work_send_ok hc (St.pk [1, 0, 2] 3 H195 rfl (by decide)) hr269) ?_
        rintro v274 w273 ⟨G270, hG271, rfl, H272⟩
        refine wl_nil (blk_n ?_)
        refine then_n ?_
        exact ⟨_, _, r268, frame_eq _ ⟨rfl, rfl, rfl, rfl, rfl, rfl, rfl, rfl, trivial⟩, hG271, (St.pk [1, 0, 2] 3 H272 rfl (by decide)), hF⟩
       ·replace hF := ifF hF hb267
        rcases bcases (x243 == 10) with hb275 | hb275
        ·replace hF := ifT hF hb275
         refine wl_lookup (key := (.int .i64 x243)) (val := (.func (.func 72) #[(pt b31)] #[])) (ok := true) H195 (i := 0) rfl mt106 un3 rfl rfl (by simp [Go.MapKept.IsKey]) ⟨_, (fnd_no hb251 (fnd_no hb259 (fnd_no hb267 (fnd_yes hb275)))), .inl ⟨_, rfl, rfl⟩⟩ ?_
         refine wl_rn (rn_pure (.tuple #[(.func (.func 72) #[(pt b31)] #[]), (.bool true)]) rfl) ?_
         refine wl_rn (rn_pure (.func (.func 72) #[(pt b31)] #[]) rfl) ?_
         refine wl_rn (rn_pure (.bool true) rfl) ?_
         refine wl_rn (rn_pure (.func (.func 72) #[(pt b31)] #[]) rfl) ?_
         refine wl_rn (rn_pure (.bool true) rfl) ?_
         refine wl_nil (then_n (wp_seq (wc_region ?_)))
         refine wl_rn (rn_pure (.bool true) rfl) ?_
         refine wl_nil (then_n ?_)
         refine wc_true rfl ?_
         refine wc_region ?_
         refine wl_rn (rn_pure (.func (.func 72) #[(pt b31)] #[]) rfl) ?_
         obtain ⟨r276, hr277, hF⟩ := bindS hF
         refine wl_callv (first := [(pt b31)]) (captured := []) (vs := [(pt b31)]) en72 rfl rfl (auto_work_send_ok hc (St.pk [1, 0, 2] 3 H195 rfl (by decide)) hr277) ?_
         rintro v282 w281 ⟨G278, hG279, rfl, H280⟩
         refine wl_nil (blk_n ?_)
         refine then_n ?_
         exact ⟨_, _, r276, frame_eq _ ⟨rfl, rfl, rfl, rfl, rfl, rfl, rfl, rfl, trivial⟩, hG279, (St.pk [1, 0, 2] 3 H280 rfl (by decide)), hF⟩
        ·replace hF := ifF hF hb275
         refine wl_lookup (key := (.int .i64 x243)) (val := (.nilFunc)) (ok := false) H195 (i := 0) rfl mt106 un3 rfl rfl (by simp [Go.MapKept.IsKey]) ⟨_, (fnd_no hb251 (fnd_no hb259 (fnd_no hb267 (fnd_no hb275 rfl)))), .inr ⟨rfl, rfl, mz1⟩⟩ ?_
         refine wl_rn (rn_pure (.tuple #[(.nilFunc), (.bool false)]) rfl) ?_
         refine wl_rn (rn_pure (.nilFunc) rfl) ?_
         refine wl_rn (rn_pure (.bool false) rfl) ?_
         refine wl_rn (rn_pure (.nilFunc) rfl) ?_
         refine wl_rn (rn_pure (.bool false) rfl) ?_
         refine wl_nil (then_n (wp_seq (wc_region ?_)))
         refine wl_rn (rn_pure (.bool false) rfl) ?_
         refine wl_nil (then_n ?_)
         refine wc_false rfl ?_
         refine wp_skip ?_
         refine blk_n ?_
         refine then_n ?_
         exact ⟨_, _, x193, frame_eq _ ⟨rfl, rfl, rfl, rfl, rfl, rfl, rfl, rfl, trivial⟩, GLe.refl _, H195, hF⟩
   ·replace hF := ifF hF hb198
    refine wc_false (vb hb198) ?_
    refine wp_exit ?_
    iterate 2 refine then_e ?_
    replace hF := exitS hF hy51
    refine blk_e ?_
    refine then_n ?_
    refine wp_seq (wc_region ?_)
    refine wl_rn (rn_pure (pt b31) rfl) ?_
    refine wl_rn (rn_pure (.int .i64 r9.2.1) rfl) ?_
    refine wl_rn (rn_nilCheck rfl) ?_
    refine wl_rn (rn_field fo105_0 rfl) ?_
    refine wl_rn (rn_field fo23_0 rfl) ?_
    refine wl_store (z := r9.2.1) H195 (i := 1) rfl (Lens.then lTauto_work_Auto lTAuto_State) ty3 rfl rfl ((dInt .i64).toV _ _) ?_
    intro w284 H283
    refine wl_nil (then_n ?_)
    refine wp_seq ?_
    refine wp_seq (wc_region ?_)
    refine wl_rn (rn_pure (.int .i64 r9.2.1) rfl) ?_
    obtain ⟨r285, hr286, hF⟩ := bindS hF
    refine wl_call (vs := [(.int .i64 r9.2.1)]) en64 rfl (fsm_Timed_ok hc H283 hr286) ?_
    rintro v291 w290 ⟨G287, hG288, rfl, H289⟩
    refine wl_rn (rn_pure (.bool (!r285)) rfl) ?_
    refine wl_nil (then_n ?_)
    rcases bcases (!r285) with hb292 | hb292
    ·replace hF := ifT hF hb292
     refine wc_true (vb hb292) ?_
     refine wc_region ?_
     refine wl_rn (rn_pure (pt b31) rfl) ?_
     refine wl_rn (rn_nilCheck rfl) ?_
     refine wl_rn (rn_field fo105_0 rfl) ?_
     refine wl_rn (rn_field fo23_2 rfl) ?_
     refine wl_store (z := 0) H289 (i := 1) rfl (Lens.then lTauto_work_Auto lTAuto_Left) ty3 rfl rfl ((dInt .i64).toV _ _) ?_
     intro w294 H293
     refine wl_nil (then_n (wp_seq (wc_region ?_)))
     refine wl_rn (rn_pure (pt b31) rfl) ?_
     refine wl_rn (rn_nilCheck rfl) ?_
     refine wl_rn (rn_field fo105_0 rfl) ?_
     refine wl_load H293 (i := 1) rfl lTauto_work_Auto ty23 rfl ?_
     intro v295 hv296
     refine wl_rn (rn_pure (.slice A16 r9.1.length c17) rfl) ?_
     refine wl_store (z := (TAuto.mk r9.2.1 x193.Auto.Count 0 x193.Auto.Id)) H293 (i := 2) rfl (Lens.id kTAuto) ty23 rfl rfl hv296 ?_
     intro w298 H297
     refine wl_rn (rn_pure (.slice A16 r9.1.length c17) rfl) ?_
     refine wl_rn (rn_pure (.int .i64 0) rfl) ?_
     refine wl_nil (then_n ?_)
     refine wp_ret ?_
     obtain ⟨v299, hv300, hl301⟩ := H297.loadv (i := 2) rfl ty23
     have hF := Option.some.inj hF
     subst hF
     exact ret_mk rfl (RV.cell rfl hl301 (RV.tmp rfl (RV.tmp rfl RV.nil))) ⟨_, v299, A16, c17, ((hG12.trans hG194).trans hG288), rfl, (St.pk [] 3 H297 rfl (by decide)), hv300, (hs18.mono (hG194.trans hG288))⟩
    ·replace hF := ifF hF hb292
     refine wc_false (vb hb292) ?_
     refine wp_skip ?_
     refine then_n ?_
     refine wp_seq (wc_region ?_)
     refine wl_rn (rn_pure (pt b31) rfl) ?_
     refine wl_rn (rn_nilCheck rfl) ?_
     refine wl_rn (rn_field fo105_0 rfl) ?_
     refine wl_load H289 (i := 1) rfl lTauto_work_Auto ty23 rfl ?_
     intro v302 hv303
     refine wl_rn (rn_pure (.slice A16 r9.1.length c17) rfl) ?_
     refine wl_store (z := (TAuto.mk r9.2.1 x193.Auto.Count x193.Auto.Left x193.Auto.Id)) H289 (i := 2) rfl (Lens.id kTAuto) ty23 rfl rfl hv303 ?_
     intro w305 H304
     refine wl_rn (rn_pure (.slice A16 r9.1.length c17) rfl) ?_
     refine wl_rn (rn_pure (.int .i64 0) rfl) ?_
     refine wl_nil (then_n ?_)
     refine wp_ret ?_
     obtain ⟨v306, hv307, hl308⟩ := H304.loadv (i := 2) rfl ty23
     have hF := Option.some.inj hF
     subst hF
     exact ret_mk rfl (RV.cell rfl hl308 (RV.tmp rfl (RV.tmp rfl RV.nil))) ⟨_, v306, A16, c17, ((hG12.trans hG194).trans hG288), rfl, (St.pk [] 3 H304 rfl (by decide)), hv307, (hs18.mono (hG194.trans hG288))⟩

theorem opts_Bytes_ok {c : World} (hc : Hc c) {G : Ghost} {w : World} {σ : List Ent} {a0 : (List TOpt)} {A0_ : Option Addr} {c0_ : Nat} (h0_ : SlR kTOpt G A0_ c0_ a0) (H : St c G w (σ)) {r : ((List Int) × Int)} (hF : opts_Bytes a0 = some r) :
  Calls Tryd.prog 41 ([(.slice A0_ a0.length c0_)] : List Value).toArray w (Ends fun v w' => ∃ (G' : Ghost) (A1' : Option Addr) (c2' : Nat), GLe G G' ∧ tup [(.slice A1' r.1.length c2'), (.int .i64 r.2)] = v ∧ St c G' w' (σ) ∧ SlR kB G' A1' c2' r.1) := by
 unfold opts_Bytes at hF
 refine calls_mk Tryd.func41 rfl rfl rfl ?_
 refine wp_seq (wc_region ?_)
 refine wl_rn (rn_pure (.slice none 0 0) rfl) ?_
 refine wl_rn (rn_pure (.int .i64 0) rfl) ?_
 refine wl_nil (then_n (wp_seq (wc_region ?_)))
 refine wl_rn (rn_pure (.slice none 0 0) rfl) ?_
 refine wl_nil (then_n ?_)
 refine wp_seq ?_
 refine wp_seq (wc_region ?_)
 refine wl_rn (rn_pure (.slice A0_ a0.length c0_) rfl) ?_
 refine wl_rn (rn_len sl27 rfl) ?_
 refine wl_rn (rn_pure (.int .i64 0) rfl) ?_
 refine wl_nil (then_n ?_)
 refine wp_block ?_
 have H398 := H.nilrow kB none 5
 refine wp_loopX (fun (s : ((List Int) × Int)) a w => ∃ (T0 : Fr) (G1 : Ghost) (g107 : Option Nat) (A108 : Option Addr) (c109 : Nat), a = mk 35 (upds T0 [(4, (.slice A108 s.1.length c109)), (7, (.slice A0_ a0.length c0_)), (8, (.int .i64 (a0.length : Int))), (9, (.int .i64 s.2))]) ∧ GLe G G1 ∧ St c G1 w ((.row kB g107 A108 c109 5 s.1) :: σ)) hF ?_ ?_
 ·exact ⟨_, _, none, none, 0, frame_eq _ ⟨rfl, rfl, rfl, rfl, trivial⟩, GLe.refl _, H398⟩
 ·rintro ⟨x106, x111⟩ a w y114 ⟨T0, G115, g107, A108, c109, rfl, hG112, H113⟩ hF hy1
  refine wp_seq (wc_region ?_)
  refine wl_rn (rn_pure (.bool (decide (x111 < (a0.length : Int)))) rfl) ?_
  refine wl_nil (then_n ?_)
  refine wp_seq ?_
  rcases bcases (decide (x111 < (a0.length : Int))) with hb116 | hb116
  ·replace hF := ifT hF hb116
   refine wc_true (vb hb116) ?_
   refine wp_skip ?_
   refine then_n ?_
   refine wp_seq ?_
   refine wp_block ?_
   refine wp_seq (wc_region ?_)
   obtain ⟨x163, hx164, hF⟩ := bindS hF
   refine wl_rnE (rn_index (h0_.mono hG112) sl27 ty60 rfl rfl hx164) ?_
   intro a165 hp166
   refine wl_loadp H113 hp166 ty60 rfl ?_
   intro v167 hv168
   refine wl_alloc H113 zr60 ?_
   intro b169 w172 H170
   refine wl_store (z := x163) H170 (i := 0) rfl (Lens.id kTOpt) ty60 rfl rfl hv168 ?_
   intro w174 H173
   refine wl_nil (then_n ?_)
   refine wp_seq ?_
   refine wp_seq (wc_region ?_)
   refine wl_rn (rn_field fo60_1 rfl) ?_
   refine wl_load H173 (i := 0) rfl lTOpt_Data ty30 rfl ?_
   intro v175 hv176
   obtain ⟨A177, c178, rfl, hs179⟩ := slice_V hv176
   refine wl_rn (rn_len sl30 rfl) ?_
   refine wl_rn (rn_pure (.bool (decide ((x163.Data.length : Int) > 253))) rfl) ?_
   refine wl_nil (then_n ?_)
   rcases bcases (decide ((x163.Data.length : Int) > 253)) with hb180 | hb180
   ·replace hF := ifT hF hb180
    refine wc_true (vb hb180) ?_
    refine wp_seq (wc_region ?_)
    refine wl_rn (rn_pure (.slice none 0 0) rfl) ?_
    refine wl_rn (rn_pure (.int .i64 1) rfl) ?_
    refine wl_nil (then_n ?_)
    refine wp_ret ?_
    refine then_r ?_
    refine blk_r ?_
    iterate 2 refine then_r ?_
    replace hF := exitS hF hy1
    refine blk_r ?_
    refine then_r ?_
    have hF := Option.some.inj hF
    subst hF
    exact ret_mk rfl (RV.tmp rfl (RV.tmp rfl RV.nil)) ⟨_, none, 0, hG112, rfl, (St.pk [] 2 H173 rfl (by decide)), (SlR.nil _ _)⟩
   ·replace hF := ifF hF hb180
    refine wc_false (vb hb180) ?_
    refine wp_skip ?_
    refine then_n ?_
    refine wc_anyS (f := 14) H173 mixed ?_
    intro w181 H182
    refine any_pf (by repeat (first | exact PF.base | apply PF.then_ | apply PF.blk)) ?_
    intro hPF hns
    obtain ⟨r192, hr193, hF⟩ := bindS hF
    obtain ⟨r204, hr205, hF⟩ := bindS hF
    refine any_memo (fuel := 2) (m := 4095) (fun a w => ∃ (T0 : Fr) (G1 : Ghost) (g309 : Option Nat) (A310 : Option Addr) (c311 : Nat) (A312 : Option Addr) (c313 : Nat), a = mk 35 (upds T0 [(7, (.slice A0_ a0.length c0_)), (8, (.int .i64 (a0.length : Int))), (9, (.int .i64 x111)), (26, (.slice A310 r192.length c311)), (28, (.slice A312 x163.Data.length c313))]) ∧ GLe G115 G1 ∧ St c G1 w ((.row kB g309 A310 c311 5 r192) :: σ) ∧ SlR kB G1 A312 c313 x163.Data) ?_ ?_
    ·rintro a w ⟨T0, G308, g309, A310, c311, A312, c313, rfl, hG306, H307, hs314⟩
     refine any_alls [12] ⟨any_ops (m' := 8191) fun Q' hN => ?_, trivial⟩
     refine wl_append H307 sl30 el5 (i := 0) rfl rfl rfl (hs314.src H307.ag) hr205 ?_
     intro g320 A321 c322 w323 H324
     refine wl_nil (hN _ _ ?_)
     refine any_rn (i := 13) (m' := 16383) rfl (rn_pure (.slice A321 r204.length c322) rfl) hPF hns ?_
     refine any_end ?_
     refine blk_n ?_
     refine then_n ?_
     refine wc_region ?_
     iterate 2 refine wl_rn (rn_pure (.int .i64 (IntKind.i64.wrap (x111 + 1))) rfl) ?_
     refine wl_nil (then_n ?_)
     exact ⟨_, (Option.some.inj hF).symm, _, _, g320, A321, c322, frame_eq _ ⟨rfl, rfl, rfl, rfl, trivial⟩, (hG112.trans hG306), H324⟩
    intro hM305
    refine any_memo (fuel := 3) (m := 3583) (fun a w => ∃ (T0 : Fr) (G1 : Ghost) (g299 : Option Nat) (A300 : Option Addr) (c301 : Nat) (A302 : Option Addr) (c303 : Nat), a = mk 35 (upds T0 [(7, (.slice A0_ a0.length c0_)), (8, (.int .i64 (a0.length : Int))), (9, (.int .i64 x111)), (17, (.slice A108 x106.length c109)), (25, (.slice A300 ([x163.Typ, (IntKind.u8.wrap ((IntKind.i64.wrap ((x163.Data.length : Int) + 2))))] : (List Int)).length c301)), (28, (.slice A302 x163.Data.length c303))]) ∧ GLe G115 G1 ∧ St c G1 w ((.row kB g107 A108 c109 5 x106) :: (.row kB g299 A300 c301 5 ([x163.Typ, (IntKind.u8.wrap ((IntKind.i64.wrap ((x163.Data.length : Int) + 2))))] : (List Int))) :: σ) ∧ SlR kB G1 A302 c303 x163.Data) ?_ ?_
    ·rintro a w ⟨T0, G298, g299, A300, c301, A302, c303, rfl, hG296, H297, hs304⟩
     refine any_alls [9] ⟨any_ops (m' := 4095) fun Q' hN => ?_, trivial⟩
     refine wl_append H297 sl30 el5 (i := 0) rfl rfl rfl ((H297.okAt (i := 1) rfl).src) hr193 ?_
     intro g325 A326 c327 w328 H329
     refine wl_nil (hN _ _ ?_)
     exact hM305 _ _ ⟨_, _, g325, A326, c327, A302, c303, frame_eq _ ⟨rfl, rfl, rfl, rfl, rfl, trivial⟩, hG296, (St.pk [0] 2 H329 rfl (by decide)), hs304⟩
    intro hM295
    refine any_memo (fuel := 4) (m := 3327) (fun a w => ∃ (T0 : Fr) (G1 : Ghost) (A287 : Option Addr) (c288 : Nat), a = mk 35 (upds T0 [(7, (.slice A0_ a0.length c0_)), (8, (.int .i64 (a0.length : Int))), (9, (.int .i64 x111)), (17, (.slice A108 x106.length c109)), (19, (.int .u8 x163.Typ)), (24, (.int .u8 (IntKind.u8.wrap ((IntKind.i64.wrap ((x163.Data.length : Int) + 2)))))), (28, (.slice A287 x163.Data.length c288))]) ∧ GLe G115 G1 ∧ St c G1 w ((.row kB g107 A108 c109 5 x106) :: σ) ∧ SlR kB G1 A287 c288 x163.Data) ?_ ?_
    ·rintro a w ⟨T0, G286, A287, c288, rfl, hG284, H285, hs289⟩
     refine any_alls [8] ⟨any_ops (m' := 3583) fun Q' hN => ?_, trivial⟩
     refine wl_lit (K := kB) (vs := [(.int .u8 x163.Typ), (.int .u8 (IntKind.u8.wrap ((IntKind.i64.wrap ((x163.Data.length : Int) + 2)))))]) (xs := ([x163.Typ, (IntKind.u8.wrap ((IntKind.i64.wrap ((x163.Data.length : Int) + 2))))] : (List Int))) H285 sl30 el5 rfl ⟨((dInt .u8).toV _ _), ((dInt .u8).toV _ _), trivial⟩ rfl (by decide) ?_
     intro g330 w332 H331
     refine wl_nil (hN _ _ ?_)
     exact hM295 _ _ ⟨_, _, (some g330), (some ⟨g330, 0, none⟩), 2, A287, c288, frame_eq _ ⟨rfl, rfl, rfl, rfl, rfl, rfl, trivial⟩, hG284, (St.pk [1, 0] 2 H331 rfl (by decide)), hs289⟩
    intro hM283
    refine any_memo (fuel := 5) (m := 3323) (fun a w => ∃ (T0 : Fr) (G1 : Ghost) (A270 : Option Addr) (c271 : Nat), a = mk 35 (upds T0 [(7, (.slice A0_ a0.length c0_)), (8, (.int .i64 (a0.length : Int))), (9, (.int .i64 x111)), (17, (.slice A108 x106.length c109)), (18, (pt b169)), (24, (.int .u8 (IntKind.u8.wrap ((IntKind.i64.wrap ((x163.Data.length : Int) + 2)))))), (28, (.slice A270 x163.Data.length c271))]) ∧ GLe G115 G1 ∧ St c G1 w ((.row kB g107 A108 c109 5 x106) :: (.box b169 60 (kTOpt.at_ x163)) :: σ) ∧ SlR kB G1 A270 c271 x163.Data) ?_ ?_
    ·rintro a w ⟨T0, G269, A270, c271, rfl, hG267, H268, hs272⟩
     refine any_alls [2] ⟨any_ops (m' := 3327) fun Q' hN => ?_, trivial⟩
     refine wl_loadd H268 (i := 1) rfl lTOpt_Typ (dInt .u8) ty5 rfl ?_
     refine wl_nil (hN _ _ ?_)
     exact hM283 _ _ ⟨_, _, A270, c271, frame_eq _ ⟨rfl, rfl, rfl, rfl, rfl, rfl, rfl, trivial⟩, hG267, (St.pk [0] 2 H268 rfl (by decide)), hs272⟩
    intro hM266
    refine any_memo (fuel := 5) (m := 1279) (fun a w => ∃ (T0 : Fr) (G1 : Ghost), a = mk 35 (upds T0 [(7, (.slice A0_ a0.length c0_)), (8, (.int .i64 (a0.length : Int))), (9, (.int .i64 x111)), (17, (.slice A108 x106.length c109)), (19, (.int .u8 x163.Typ)), (24, (.int .u8 (IntKind.u8.wrap ((IntKind.i64.wrap ((x163.Data.length : Int) + 2)))))), (27, (pu b169 1))]) ∧ GLe G115 G1 ∧ St c G1 w ((.row kB g107 A108 c109 5 x106) :: (.box b169 60 (kTOpt.at_ x163)) :: σ)) ?_ ?_
    ·rintro a w ⟨T0, G256, rfl, hG254, H255⟩
     refine any_alls [8, 11] ⟨?_, ?_, trivial⟩
     ·refine any_ops (m' := 1535) fun Q' hN => ?_
      refine wl_lit (K := kB) (vs := [(.int .u8 x163.Typ), (.int .u8 (IntKind.u8.wrap ((IntKind.i64.wrap ((x163.Data.length : Int) + 2)))))]) (xs := ([x163.Typ, (IntKind.u8.wrap ((IntKind.i64.wrap ((x163.Data.length : Int) + 2))))] : (List Int))) H255 sl30 el5 rfl ⟨((dInt .u8).toV _ _), ((dInt .u8).toV _ _), trivial⟩ rfl (by decide) ?_
      intro g334 w336 H335
      refine wl_nil (hN _ _ ?_)
      refine any_alls [9, 11] ⟨?_, ?_, trivial⟩
      ·refine any_ops (m' := 2047) fun Q' hN => ?_
       refine wl_append H335 sl30 el5 (i := 1) rfl rfl rfl ((H335.okAt (i := 0) rfl).src) hr193 ?_
       intro g338 A339 c340 w341 H342
       refine wl_nil (hN _ _ ?_)
       refine any_alls [11] ⟨any_ops (m' := 4095) fun Q' hN => ?_, trivial⟩
       refine wl_load H342 (i := 2) rfl lTOpt_Data ty30 rfl ?_
       intro v343 hv344
       obtain ⟨A345, c346, rfl, hs347⟩ := slice_V hv344
       refine wl_nil (hN _ _ ?_)
       exact hM305 _ _ ⟨_, _, g338, A339, c340, A345, c346, frame_eq _ ⟨rfl, rfl, rfl, rfl, rfl, trivial⟩, hG254, (St.pk [1] 3 H342 rfl (by decide)), hs347⟩
      ·refine any_ops (m' := 3583) fun Q' hN => ?_
       refine wl_load H335 (i := 2) rfl lTOpt_Data ty30 rfl ?_
       intro v348 hv349
       obtain ⟨A350, c351, rfl, hs352⟩ := slice_V hv349
       refine wl_nil (hN _ _ ?_)
       exact hM295 _ _ ⟨_, _, (some g334), (some ⟨g334, 0, none⟩), 2, A350, c351, frame_eq _ ⟨rfl, rfl, rfl, rfl, rfl, rfl, trivial⟩, hG254, (St.pk [1, 0] 3 H335 rfl (by decide)), hs352⟩
     ·refine any_ops (m' := 3327) fun Q' hN => ?_
      refine wl_load H255 (i := 1) rfl lTOpt_Data ty30 rfl ?_
      intro v353 hv354
      obtain ⟨A355, c356, rfl, hs357⟩ := slice_V hv354
      refine wl_nil (hN _ _ ?_)
      exact hM283 _ _ ⟨_, _, A355, c356, frame_eq _ ⟨rfl, rfl, rfl, rfl, rfl, rfl, rfl, trivial⟩, hG254, (St.pk [0] 2 H255 rfl (by decide)), hs357⟩
    intro hM253
    refine any_memo (fuel := 8) (m := 3087) (fun a w => ∃ (T0 : Fr) (G1 : Ghost) (A240 : Option Addr) (c241 : Nat), a = mk 35 (upds T0 [(7, (.slice A0_ a0.length c0_)), (8, (.int .i64 (a0.length : Int))), (9, (.int .i64 x111)), (17, (.slice A108 x106.length c109)), (19, (.int .u8 x163.Typ)), (20, (pu b169 1)), (28, (.slice A240 x163.Data.length c241))]) ∧ GLe G115 G1 ∧ St c G1 w ((.row kB g107 A108 c109 5 x106) :: (.box b169 60 (kTOpt.at_ x163)) :: σ) ∧ SlR kB G1 A240 c241 x163.Data) ?_ ?_
    ·rintro a w ⟨T0, G239, A240, c241, rfl, hG237, H238, hs242⟩
     refine any_alls [4] ⟨any_ops (m' := 3103) fun Q' hN => ?_, trivial⟩
     refine wl_load H238 (i := 1) rfl lTOpt_Data ty30 rfl ?_
     intro v358 hv359
     obtain ⟨A360, c361, rfl, hs362⟩ := slice_V hv359
     refine wl_nil (hN _ _ ?_)
     refine any_rn (i := 5) (m' := 3135) rfl (rn_len sl30 rfl) hPF hns ?_
     refine any_rn (i := 6) (m' := 3199) rfl (rn_pure (.int .i64 (IntKind.i64.wrap ((x163.Data.length : Int) + 2))) rfl) hPF hns ?_
     refine any_rn (i := 7) (m' := 3327) rfl (rn_convert un3 un5 rfl) hPF hns ?_
     exact hM283 _ _ ⟨_, _, A240, c241, frame_eq _ ⟨rfl, rfl, rfl, rfl, rfl, rfl, rfl, trivial⟩, hG237, (St.pk [0] 2 H238 rfl (by decide)), hs242⟩
    intro hM236
    refine any_rn (i := 0) (m' := 1) rfl (rn_pure (.slice A108 x106.length c109) rfl) hPF hns ?_
    refine any_rn (i := 1) (m' := 3) rfl (rn_field fo60_0 rfl) hPF hns ?_
    refine any_rn (i := 3) (m' := 11) rfl (rn_field fo60_1 rfl) hPF hns ?_
    refine any_rn (i := 10) (m' := 1035) rfl (rn_field fo60_1 rfl) hPF hns ?_
    refine any_alls [2, 4, 11] ⟨?_, ?_, ?_, trivial⟩
    ·refine any_ops (m' := 1039) fun Q' hN => ?_
     refine wl_loadd H182 (i := 0) rfl lTOpt_Typ (dInt .u8) ty5 rfl ?_
     refine wl_nil (hN _ _ ?_)
     refine any_alls [4, 11] ⟨?_, ?_, trivial⟩
     ·refine any_ops (m' := 1055) fun Q' hN => ?_
      refine wl_load H182 (i := 0) rfl lTOpt_Data ty30 rfl ?_
      intro v363 hv364
      obtain ⟨A365, c366, rfl, hs367⟩ := slice_V hv364
      refine wl_nil (hN _ _ ?_)
      refine any_rn (i := 5) (m' := 1087) rfl (rn_len sl30 rfl) hPF hns ?_
      refine any_rn (i := 6) (m' := 1151) rfl (rn_pure (.int .i64 (IntKind.i64.wrap ((x163.Data.length : Int) + 2))) rfl) hPF hns ?_
      refine any_rn (i := 7) (m' := 1279) rfl (rn_convert un3 un5 rfl) hPF hns ?_
      exact hM253 _ _ ⟨_, _, frame_eq _ ⟨rfl, rfl, rfl, rfl, rfl, rfl, rfl, trivial⟩, GLe.refl _, (St.pk [1, 0] 2 H182 rfl (by decide))⟩
     ·refine any_ops (m' := 3087) fun Q' hN => ?_
      refine wl_load H182 (i := 0) rfl lTOpt_Data ty30 rfl ?_
      intro v368 hv369
      obtain ⟨A370, c371, rfl, hs372⟩ := slice_V hv369
      refine wl_nil (hN _ _ ?_)
      exact hM236 _ _ ⟨_, _, A370, c371, frame_eq _ ⟨rfl, rfl, rfl, rfl, rfl, rfl, rfl, trivial⟩, GLe.refl _, (St.pk [1, 0] 2 H182 rfl (by decide)), hs372⟩
    ·refine any_ops (m' := 1051) fun Q' hN => ?_
     refine wl_load H182 (i := 0) rfl lTOpt_Data ty30 rfl ?_
     intro v373 hv374
     obtain ⟨A375, c376, rfl, hs377⟩ := slice_V hv374
     refine wl_nil (hN _ _ ?_)
     refine any_rn (i := 5) (m' := 1083) rfl (rn_len sl30 rfl) hPF hns ?_
     refine any_rn (i := 6) (m' := 1147) rfl (rn_pure (.int .i64 (IntKind.i64.wrap ((x163.Data.length : Int) + 2))) rfl) hPF hns ?_
     refine any_rn (i := 7) (m' := 1275) rfl (rn_convert un3 un5 rfl) hPF hns ?_
     refine any_alls [2, 11] ⟨?_, ?_, trivial⟩
     ·refine any_ops (m' := 1279) fun Q' hN => ?_
      refine wl_loadd H182 (i := 0) rfl lTOpt_Typ (dInt .u8) ty5 rfl ?_
      refine wl_nil (hN _ _ ?_)
      exact hM253 _ _ ⟨_, _, frame_eq _ ⟨rfl, rfl, rfl, rfl, rfl, rfl, rfl, trivial⟩, GLe.refl _, (St.pk [1, 0] 2 H182 rfl (by decide))⟩
     ·refine any_ops (m' := 3323) fun Q' hN => ?_
      refine wl_load H182 (i := 0) rfl lTOpt_Data ty30 rfl ?_
      intro v378 hv379
      obtain ⟨A380, c381, rfl, hs382⟩ := slice_V hv379
      refine wl_nil (hN _ _ ?_)
      exact hM266 _ _ ⟨_, _, A380, c381, frame_eq _ ⟨rfl, rfl, rfl, rfl, rfl, rfl, rfl, trivial⟩, GLe.refl _, (St.pk [1, 0] 2 H182 rfl (by decide)), hs382⟩
    ·refine any_ops (m' := 3083) fun Q' hN => ?_
     refine wl_load H182 (i := 0) rfl lTOpt_Data ty30 rfl ?_
     intro v383 hv384
     obtain ⟨A385, c386, rfl, hs387⟩ := slice_V hv384
     refine wl_nil (hN _ _ ?_)
     refine any_alls [2, 4] ⟨?_, ?_, trivial⟩
     ·refine any_ops (m' := 3087) fun Q' hN => ?_
      refine wl_loadd H182 (i := 0) rfl lTOpt_Typ (dInt .u8) ty5 rfl ?_
      refine wl_nil (hN _ _ ?_)
      exact hM236 _ _ ⟨_, _, A385, c386, frame_eq _ ⟨rfl, rfl, rfl, rfl, rfl, rfl, rfl, trivial⟩, GLe.refl _, (St.pk [1, 0] 2 H182 rfl (by decide)), hs387⟩
     ·refine any_ops (m' := 3099) fun Q' hN => ?_
      refine wl_load H182 (i := 0) rfl lTOpt_Data ty30 rfl ?_
      intro v388 hv389
      obtain ⟨A390, c391, rfl, hs392⟩ := slice_V hv389
      refine wl_nil (hN _ _ ?_)
      refine any_rn (i := 5) (m' := 3131) rfl (rn_len sl30 rfl) hPF hns ?_
      refine any_rn (i := 6) (m' := 3195) rfl (rn_pure (.int .i64 (IntKind.i64.wrap ((x163.Data.length : Int) + 2))) rfl) hPF hns ?_
      refine any_rn (i := 7) (m' := 3323) rfl (rn_convert un3 un5 rfl) hPF hns ?_
      exact hM266 _ _ ⟨_, _, A385, c386, frame_eq _ ⟨rfl, rfl, rfl, rfl, rfl, rfl, rfl, trivial⟩, GLe.refl _, (St.pk [1, 0] 2 H182 rfl (by decide)), hs387⟩
  ·replace hF := ifF hF hb116
   refine wc_false (vb hb116) ?_
   refine wp_exit ?_
   iterate 2 refine then_e ?_
   replace hF := exitS hF hy1
   refine blk_e ?_
   refine then_n ?_
   refine wp_seq ?_
   refine wp_seq (wc_region ?_)
   refine wl_rn (rn_pure (.slice A108 x106.length c109) rfl) ?_
   refine wl_rn (rn_len sl30 rfl) ?_
   refine wl_rn (rn_pure (.bool (decide ((x106.length : Int) > 1496))) rfl) ?_
   refine wl_nil (then_n ?_)
   rcases bcases (decide ((x106.length : Int) > 1496)) with hb393 | hb393
   ·replace hF := ifT hF hb393
    refine wc_true (vb hb393) ?_
    refine wp_seq (wc_region ?_)
    refine wl_rn (rn_pure (.slice none 0 0) rfl) ?_
    refine wl_rn (rn_pure (.int .i64 1) rfl) ?_
    refine wl_nil (then_n ?_)
    refine wp_ret ?_
    refine then_r ?_
    have hF := Option.some.inj hF
    subst hF
    exact ret_mk rfl (RV.tmp rfl (RV.tmp rfl RV.nil)) ⟨_, none, 0, hG112, rfl, (St.pk [] 1 H113 rfl (by decide)), (SlR.nil _ _)⟩
   ·replace hF := ifF hF hb393
    refine wc_false (vb hb393) ?_
    refine wp_skip ?_
    refine then_n ?_
    refine wp_seq (wc_region ?_)
    iterate 2 refine wl_rn (rn_pure (.slice A108 x106.length c109) rfl) ?_
    refine wl_rn (rn_pure (.int .i64 0) rfl) ?_
    refine wl_nil (then_n ?_)
    refine wp_ret ?_
    obtain ⟨G394, hG395, H396, hs397⟩ := H113.stay (i := 0) rfl (H113.capA (i := 0) rfl)
    have hF := Option.some.inj hF
    subst hF
    exact ret_mk rfl (RV.tmp rfl (RV.tmp rfl RV.nil)) ⟨_, A108, c109, (hG112.trans hG395), rfl, H396, hs397⟩

theorem nego_work_acts_ok {c : World} (hc : Hc c) {G : Ghost} {w : World} {σ : List Ent} {b0 : Nat} {x2 : TNego} {x3 : (List TPkt)} {x8 : (List Int)} {x13 : TPkt} {g4 : Option Nat} {A5 : Option Addr} {c6 : Nat} {g9 : Option Nat} {A10 : Option Addr} {c11 : Nat} {a1 : Int} {a2 : (List Int)} {A2_ : Option Addr} {c2_ : Nat} {a3 : TPkt} {v3_ : Value} (h2_ : SlR kI G A2_ c2_ a2) (h3_ : kTPkt.V G v3_ a3) (H : St c G w ((.box b0 63 (kTnego_workV.at_ (Tnego_workV.mk x2 (.slice A5 x3.length c6) (.slice A10 x8.length c11) x13))) :: (.row kTPkt g4 A5 c6 32 x3) :: (.row kI g9 A10 c11 3 x8) :: σ)) {r : (TNego × (List TPkt) × (List Int) × TPkt)} (hF : nego_work_acts x2 x3 x8 x13 a1 a2 a3 = some r) :
  Calls Tryd.prog 33 ([(pt b0), (.int .i64 a1), (.slice A2_ a2.length c2_), v3_] : List Value).toArray w (Ends fun v w' => ∃ (G' : Ghost) (g1' : Option Nat) (A2' : Option Addr) (c3' : Nat) (g4' : Option Nat) (A5' : Option Addr) (c6' : Nat), GLe G G' ∧ tup [] = v ∧ St c G' w' ((.box b0 63 (kTnego_workV.at_ (Tnego_workV.mk r.1 (.slice A2' r.2.1.length c3') (.slice A5' r.2.2.1.length c6') r.2.2.2))) :: (.row kTPkt g1' A2' c3' 32 r.2.1) :: (.row kI g4' A5' c6' 3 r.2.2.1) :: σ)) := by
 unfold nego_work_acts at hF
 refine calls_mk Tryd.func33 rfl rfl rfl ?_
 refine wp_seq (wc_region ?_)
 refine wl_box (K := kTPkt) (x := a3) H rfl h3_ ?_
 intro b14 w17 H15
 refine wl_nil (then_n ?_)
 refine wp_seq (join (fun a w => ∃ (T0 : Fr) (G1 : Ghost) (x66 : TNego) (x67 : (List TPkt)) (x72 : (List Int)) (x77 : TPkt) (g68 : Option Nat) (A69 : Option Addr) (c70 : Nat) (g73 : Option Nat) (A74 : Option Addr) (c75 : Nat), a = mk 141 (upds T0 [(0, (pt b0)), (2, (.slice A2_ a2.length c2_)), (7, (pt b14))]) ∧ GLe G G1 ∧ St c G1 w ((.box b14 32 (kTPkt.at_ a3)) :: (.box b0 63 (kTnego_workV.at_ (Tnego_workV.mk x66 (.slice A69 x67.length c70) (.slice A74 x72.length c75) x77))) :: (.row kTPkt g68 A69 c70 32 x67) :: (.row kI g73 A74 c75 3 x72) :: σ) ∧ nego_work_acts_j1 a2 a3 x66 x67 x72 x77 = some r) ?_ ?_)
 ·rintro a w ⟨T0, G80, x66, x67, x72, x77, g68, A69, c70, g73, A74, c75, rfl, hG78, H79, hF⟩
  refine wp_seq (wc_region ?_)
  refine wl_rn (rn_pure (.slice A2_ a2.length c2_) rfl) ?_
  refine wl_rn (rn_len sl36 rfl) ?_
  refine wl_rn (rn_pure (.int .i64 0) rfl) ?_
  refine wl_nil (then_n ?_)
  refine wp_block ?_
  refine wp_loopX (fun (s : (Int × TNego × (List TPkt) × (List Int) × TPkt)) a w => ∃ (T0 : Fr) (G1 : Ghost) (g416 : Option Nat) (A417 : Option Addr) (c418 : Nat) (g421 : Option Nat) (A422 : Option Addr) (c423 : Nat), a = mk 141 (upds T0 [(0, (pt b0)), (7, (pt b14)), (40, (.slice A2_ a2.length c2_)), (41, (.int .i64 (a2.length : Int))), (42, (.int .i64 s.1))]) ∧ GLe G80 G1 ∧ St c G1 w ((.box b14 32 (kTPkt.at_ a3)) :: (.box b0 63 (kTnego_workV.at_ (Tnego_workV.mk s.2.1 (.slice A417 s.2.2.1.length c418) (.slice A422 s.2.2.2.1.length c423) s.2.2.2.2))) :: (.row kTPkt g416 A417 c418 32 s.2.2.1) :: (.row kI g421 A422 c423 3 s.2.2.2.1) :: σ)) hF ?_ ?_
  ·exact ⟨_, _, g68, A69, c70, g73, A74, c75, frame_eq _ ⟨rfl, rfl, rfl, rfl, rfl, trivial⟩, GLe.refl _, H79⟩
  ·rintro ⟨x413, x414, x415, x420, x425⟩ a w y428 ⟨T0, G429, g416, A417, c418, g421, A422, c423, rfl, hG426, H427⟩ hF hy81
   refine wp_seq (wc_region ?_)
   refine wl_rn (rn_pure (.bool (decide (x413 < (a2.length : Int)))) rfl) ?_
   refine wl_nil (then_n ?_)
   refine wp_seq ?_
   rcases bcases (decide (x413 < (a2.length : Int))) with hb430 | hb430
   ·replace hF := ifT hF hb430
    refine wc_true (vb hb430) ?_
    refine wp_skip ?_
    refine then_n ?_
    refine wp_seq (join (fun a w => ∃ (T0 : Fr) (G1 : Ghost) (x570 : TNego) (x571 : (List TPkt)) (x576 : (List Int)) (x581 : TPkt) (g572 : Option Nat) (A573 : Option Addr) (c574 : Nat) (g577 : Option Nat) (A578 : Option Addr) (c579 : Nat), a = mk 141 (upds T0 [(0, (pt b0)), (7, (pt b14)), (40, (.slice A2_ a2.length c2_)), (41, (.int .i64 (a2.length : Int))), (42, (.int .i64 x413))]) ∧ GLe G429 G1 ∧ St c G1 w ((.box b14 32 (kTPkt.at_ a3)) :: (.box b0 63 (kTnego_workV.at_ (Tnego_workV.mk x570 (.slice A573 x571.length c574) (.slice A578 x576.length c579) x581))) :: (.row kTPkt g572 A573 c574 32 x571) :: (.row kI g577 A578 c579 3 x576) :: σ) ∧ nego_work_acts_j3 x413 x570 x571 x576 x581 = some y428) ?_ ?_)
    ·rintro a w ⟨T0, G584, x570, x571, x576, x581, g572, A573, c574, g577, A578, c579, rfl, hG582, H583, hF⟩
     refine wc_region ?_
     iterate 2 refine wl_rn (rn_pure (.int .i64 (IntKind.i64.wrap (x413 + 1))) rfl) ?_
     refine wl_nil (then_n ?_)
     exact ⟨_, (Option.some.inj hF).symm, _, _, g572, A573, c574, g577, A578, c579, frame_eq _ ⟨rfl, rfl, rfl, rfl, rfl, trivial⟩, (hG426.trans hG582), H583⟩
    ·refine wp_block ?_
     refine wp_seq (wc_region ?_)
     obtain ⟨x585, hx586, hF⟩ := bindS hF
     refine wl_rnE (rn_index (h2_.mono (hG78.trans hG426)) sl36 ty3 rfl rfl hx586) ?_
     intro a587 hp588
     refine wl_loadpd H427 hp588 (dInt .i64) ty3 rfl ?_
     refine wl_rn (rn_pure (.int .i64 x585) rfl) ?_
     refine wl_nil (then_n (wp_seq (wc_region ?_)))
     refine wl_rn (rn_pure (.int .i64 x585) rfl) ?_
     refine wl_nil (then_n ?_)
     refine wp_block ?_
     refine wp_seq (wc_region ?_)
     iterate 2 refine wl_rn (rn_pure (.bool (x585 == 7)) rfl) ?_
     refine wl_nil (then_n ?_)
     rcases bcases (x585 == 7) with hb589 | hb589
     ·replace hF := ifT hF hb589
      refine wc_true (vb hb589) ?_
      refine wp_seq (wc_region ?_)
      refine wl_rn (rn_pure (pt b0) rfl) ?_
      refine wl_rn (rn_nilCheck rfl) ?_
      refine wl_rn (rn_field fo63_0 rfl) ?_
      refine wl_rn (rn_field fo29_2 rfl) ?_
      refine wl_load H427 (i := 1) rfl (Lens.then lTnego_workV_Nego lTNego_Ours) ty27 rfl ?_
      intro v590 hv591
      obtain ⟨A592, c593, rfl, hs594⟩ := slice_V hv591
      obtain ⟨r595, hr596, hF⟩ := bindS hF
      refine wl_call (vs := [(.slice A592 x414.Ours.length c593)]) en41 rfl (opts_Bytes_ok hc hs594 H427 hr596) ?_
      rintro v601 w600 ⟨G597, A602, c603, hG598, rfl, H599, hs604⟩
      refine wl_rn (rn_pure (.tuple #[(.slice A602 r595.1.length c603), (.int .i64 r595.2)]) rfl) ?_
      refine wl_rn (rn_pure (.slice A602 r595.1.length c603) rfl) ?_
      refine wl_rn (rn_pure (.int .i64 r595.2) rfl) ?_
      refine wl_rn (rn_pure (.slice A602 r595.1.length c603) rfl) ?_
      refine wl_rn (rn_pure (.int .i64 r595.2) rfl) ?_
      refine wl_nil (then_n ?_)
      refine wc_anyS (f := 18) H599 mixed ?_
      intro w605 H606
      refine any_pf (by repeat (first | exact PF.base | apply PF.then_ | apply PF.blk)) ?_
      intro hPF hns
      obtain ⟨r615, hr616, hF⟩ := bindS hF
      refine any_memo (fuel := 4) (m := 16383) (fun a w => ∃ (T0 : Fr) (G1 : Ghost) (g648 : Option Nat) (A649 : Option Addr) (c650 : Nat), a = mk 141 (upds T0 [(0, (pt b0)), (7, (pt b14)), (40, (.slice A2_ a2.length c2_)), (41, (.int .i64 (a2.length : Int))), (42, (.int .i64 x413)), (58, (pt b0)), (62, (.slice A417 x415.length c418)), (71, (.slice A649 ([(TPkt.mk 1 x414.A.Id r595.1)] : (List TPkt)).length c650))]) ∧ GLe G597 G1 ∧ St c G1 w ((.box b0 63 (kTnego_workV.at_ (Tnego_workV.mk x414 (.slice A417 x415.length c418) (.slice A422 x420.length c423) x425))) :: (.row kTPkt g416 A417 c418 32 x415) :: (.row kI g421 A422 c423 3 x420) :: (.box b14 32 (kTPkt.at_ a3)) :: (.row kTPkt g648 A649 c650 32 ([(TPkt.mk 1 x414.A.Id r595.1)] : (List TPkt))) :: σ)) ?_ ?_
      ·rintro a w ⟨T0, G647, g648, A649, c650, rfl, hG645, H646⟩
       refine any_alls [14] ⟨any_ops (m' := 32767) fun Q' hN => ?_, trivial⟩
       refine wl_append H646 sl35 el32 (i := 1) rfl rfl rfl ((H646.okAt (i := 4) rfl).src) hr616 ?_
       intro g658 A659 c660 w661 H662
       refine wl_nil (hN _ _ ?_)
       refine any_rn (i := 15) (m' := 65535) rfl (rn_nilCheck rfl) hPF hns ?_
       refine any_rn (i := 16) (m' := 131071) rfl (rn_field fo63_1 rfl) hPF hns ?_
       refine any_alls [17] ⟨any_ops (m' := 262143) fun Q' hN => ?_, trivial⟩
       refine wl_store (z := (.slice A659 r615.length c660)) H662 (i := 0) rfl lTnego_workV_Out ty35 rfl rfl ⟨[_], rfl, rfl, rfl⟩ ?_
       intro w664 H663
       refine wl_nil (hN _ _ ?_)
       refine any_end ?_
       iterate 2 refine blk_n ?_
       refine then_n ?_
       exact ⟨_, _, x414, r615, x420, x425, g658, A659, c660, g421, A422, c423, frame_eq _ ⟨rfl, rfl, rfl, rfl, rfl, trivial⟩, (hG598.trans hG645), (St.pk [3, 0, 1, 2] 5 H663 rfl (by decide)), hF⟩
      intro hM644
      refine any_memo (fuel := 5) (m := 8191) (fun a w => ∃ (T0 : Fr) (G1 : Ghost) (v638 : Value), a = mk 141 (upds T0 [(0, (pt b0)), (7, (pt b14)), (40, (.slice A2_ a2.length c2_)), (41, (.int .i64 (a2.length : Int))), (42, (.int .i64 x413)), (58, (pt b0)), (62, (.slice A417 x415.length c418)), (70, v638)]) ∧ GLe G597 G1 ∧ St c G1 w ((.box b0 63 (kTnego_workV.at_ (Tnego_workV.mk x414 (.slice A417 x415.length c418) (.slice A422 x420.length c423) x425))) :: (.row kTPkt g416 A417 c418 32 x415) :: (.row kI g421 A422 c423 3 x420) :: (.box b14 32 (kTPkt.at_ a3)) :: σ) ∧ kTPkt.V G1 v638 (TPkt.mk 1 x414.A.Id r595.1)) ?_ ?_
      ·rintro a w ⟨T0, G637, v638, rfl, hG635, H636, hv639⟩
       refine any_alls [13] ⟨any_ops (m' := 16383) fun Q' hN => ?_, trivial⟩
       refine wl_lit (K := kTPkt) (vs := [v638]) (xs := ([(TPkt.mk 1 x414.A.Id r595.1)] : (List TPkt))) H636 sl35 el32 rfl ⟨hv639, trivial⟩ rfl (by decide) ?_
       intro g665 w667 H666
       refine wl_nil (hN _ _ ?_)
       exact hM644 _ _ ⟨_, _, (some g665), (some ⟨g665, 0, none⟩), 1, frame_eq _ ⟨rfl, rfl, rfl, rfl, rfl, rfl, rfl, rfl, trivial⟩, hG635, (St.pk [1, 2, 3, 4, 0] 5 H666 rfl (by decide))⟩
      intro hM634
      refine any_rn (i := 0) (m' := 1) rfl (rn_pure (pt b0) rfl) hPF hns ?_
      refine any_rn (i := 1) (m' := 3) rfl (rn_pure (pt b0) rfl) hPF hns ?_
      refine any_rn (i := 2) (m' := 7) rfl (rn_nilCheck rfl) hPF hns ?_
      refine any_rn (i := 3) (m' := 15) rfl (rn_field fo63_1 rfl) hPF hns ?_
      refine any_rn (i := 5) (m' := 47) rfl (rn_pure (pt b0) rfl) hPF hns ?_
      refine any_rn (i := 6) (m' := 111) rfl (rn_nilCheck rfl) hPF hns ?_
      refine any_rn (i := 7) (m' := 239) rfl (rn_field fo63_0 rfl) hPF hns ?_
      refine any_rn (i := 8) (m' := 495) rfl (rn_field fo29_0 rfl) hPF hns ?_
      refine any_rn (i := 9) (m' := 1007) rfl (rn_field fo23_3 rfl) hPF hns ?_
      refine any_rn (i := 11) (m' := 3055) rfl (rn_pure (.slice A602 r595.1.length c603) rfl) hPF hns ?_
      refine any_alls [4, 10] ⟨?_, ?_, trivial⟩
      ·refine any_ops (m' := 3071) fun Q' hN => ?_
       refine wl_load H606 (i := 1) rfl lTnego_workV_Out ty35 rfl ?_
       intro v669 hv670
       obtain rfl := val_V hv670
       refine wl_nil (hN _ _ ?_)
       refine any_alls [10] ⟨any_ops (m' := 4095) fun Q' hN => ?_, trivial⟩
       refine wl_loadd H606 (i := 1) rfl (Lens.then (Lens.then lTnego_workV_Nego lTNego_A) lTAuto_Id) (dInt .u8) ty5 rfl ?_
       refine wl_nil (hN _ _ ?_)
       refine any_rnE (i := 12) (m' := 8191) rfl (rn_build (G := G597) zr32 rfl bs32 rfl (Parts.cons fo32_0 lTPkt_Code ((dInt .u8).toV _ _) (Parts.cons fo32_1 lTPkt_Id ((dInt .u8).toV _ _) (Parts.cons fo32_2 lTPkt_Data (slice_toV hs604) (Parts.nil _))))) hPF hns ?_
       intro v671 hv672
       exact hM634 _ _ ⟨_, _, v671, frame_eq _ ⟨rfl, rfl, rfl, rfl, rfl, rfl, rfl, rfl, trivial⟩, GLe.refl _, (St.pk [1, 2, 3, 0] 4 H606 rfl (by decide)), hv672⟩
      ·refine any_ops (m' := 4079) fun Q' hN => ?_
       refine wl_loadd H606 (i := 1) rfl (Lens.then (Lens.then lTnego_workV_Nego lTNego_A) lTAuto_Id) (dInt .u8) ty5 rfl ?_
       refine wl_nil (hN _ _ ?_)
       refine any_rnE (i := 12) (m' := 8175) rfl (rn_build (G := G597) zr32 rfl bs32 rfl (Parts.cons fo32_0 lTPkt_Code ((dInt .u8).toV _ _) (Parts.cons fo32_1 lTPkt_Id ((dInt .u8).toV _ _) (Parts.cons fo32_2 lTPkt_Data (slice_toV hs604) (Parts.nil _))))) hPF hns ?_
       intro v673 hv674
       refine any_alls [4, 13] ⟨?_, ?_, trivial⟩
       ·refine any_ops (m' := 8191) fun Q' hN => ?_
        refine wl_load H606 (i := 1) rfl lTnego_workV_Out ty35 rfl ?_
        intro v675 hv676
        obtain rfl := val_V hv676
        refine wl_nil (hN _ _ ?_)
        exact hM634 _ _ ⟨_, _, v673, frame_eq _ ⟨rfl, rfl, rfl, rfl, rfl, rfl, rfl, rfl, trivial⟩, GLe.refl _, (St.pk [1, 2, 3, 0] 4 H606 rfl (by decide)), hv674⟩
       ·refine any_ops (m' := 16367) fun Q' hN => ?_
        refine wl_lit (K := kTPkt) (vs := [v673]) (xs := ([(TPkt.mk 1 x414.A.Id r595.1)] : (List TPkt))) H606 sl35 el32 rfl ⟨hv674, trivial⟩ rfl (by decide) ?_
        intro g677 w679 H678
        refine wl_nil (hN _ _ ?_)
        refine any_alls [4] ⟨any_ops (m' := 16383) fun Q' hN => ?_, trivial⟩
        refine wl_load H678 (i := 2) rfl lTnego_workV_Out ty35 rfl ?_
        intro v681 hv682
        obtain rfl := val_V hv682
        refine wl_nil (hN _ _ ?_)
        exact hM644 _ _ ⟨_, _, (some g677), (some ⟨g677, 0, none⟩), 1, frame_eq _ ⟨rfl, rfl, rfl, rfl, rfl, rfl, rfl, rfl, trivial⟩, GLe.refl _, (St.pk [2, 3, 4, 1, 0] 5 H678 rfl (by decide))⟩
     ·replace hF := ifF hF hb589
      refine wc_false (vb hb589) ?_
      refine wp_seq (wc_region ?_)
      iterate 2 refine wl_rn (rn_pure (.bool (x585 == 10)) rfl) ?_
      refine wl_nil (then_n ?_)
      rcases bcases (x585 == 10) with hb683 | hb683
      ·replace hF := ifT hF hb683
       refine wc_true (vb hb683) ?_
       refine wc_anyS (f := 17) H427 mixed ?_
       intro w684 H685
       refine any_pf (by repeat (first | exact PF.base | apply PF.then_ | apply PF.blk)) ?_
       intro hPF hns
       obtain ⟨r694, hr695, hF⟩ := bindS hF
       refine any_memo (fuel := 4) (m := 8191) (fun a w => ∃ (T0 : Fr) (G1 : Ghost) (g727 : Option Nat) (A728 : Option Addr) (c729 : Nat), a = mk 141 (upds T0 [(0, (pt b0)), (7, (pt b14)), (40, (.slice A2_ a2.length c2_)), (41, (.int .i64 (a2.length : Int))), (42, (.int .i64 x413)), (77, (pt b0)), (81, (.slice A417 x415.length c418)), (89, (.slice A728 ([(TPkt.mk 5 x414.A.Id zTPkt.Data)] : (List TPkt)).length c729))]) ∧ GLe G429 G1 ∧ St c G1 w ((.box b0 63 (kTnego_workV.at_ (Tnego_workV.mk x414 (.slice A417 x415.length c418) (.slice A422 x420.length c423) x425))) :: (.row kTPkt g416 A417 c418 32 x415) :: (.row kI g421 A422 c423 3 x420) :: (.box b14 32 (kTPkt.at_ a3)) :: (.row kTPkt g727 A728 c729 32 ([(TPkt.mk 5 x414.A.Id zTPkt.Data)] : (List TPkt))) :: σ)) ?_ ?_
       ·rintro a w ⟨T0, G726, g727, A728, c729, rfl, hG724, H725⟩
        refine any_alls [13] ⟨any_ops (m' := 16383) fun Q' hN => ?_, trivial⟩
        refine wl_append H725 sl35 el32 (i := 1) rfl rfl rfl ((H725.okAt (i := 4) rfl).src) hr695 ?_
        intro g737 A738 c739 w740 H741
        refine wl_nil (hN _ _ ?_)
        refine any_rn (i := 14) (m' := 32767) rfl (rn_nilCheck rfl) hPF hns ?_
        refine any_rn (i := 15) (m' := 65535) rfl (rn_field fo63_1 rfl) hPF hns ?_
        refine any_alls [16] ⟨any_ops (m' := 131071) fun Q' hN => ?_, trivial⟩
        refine wl_store (z := (.slice A738 r694.length c739)) H741 (i := 0) rfl lTnego_workV_Out ty35 rfl rfl ⟨[_], rfl, rfl, rfl⟩ ?_
        intro w743 H742
        refine wl_nil (hN _ _ ?_)
        refine any_end ?_
        iterate 2 refine blk_n ?_
        refine then_n ?_
        exact ⟨_, _, x414, r694, x420, x425, g737, A738, c739, g421, A422, c423, frame_eq _ ⟨rfl, rfl, rfl, rfl, rfl, trivial⟩, hG724, (St.pk [3, 0, 1, 2] 5 H742 rfl (by decide)), hF⟩
       intro hM723
       refine any_memo (fuel := 5) (m := 4095) (fun a w => ∃ (T0 : Fr) (G1 : Ghost) (v717 : Value), a = mk 141 (upds T0 [(0, (pt b0)), (7, (pt b14)), (40, (.slice A2_ a2.length c2_)), (41, (.int .i64 (a2.length : Int))), (42, (.int .i64 x413)), (77, (pt b0)), (81, (.slice A417 x415.length c418)), (88, v717)]) ∧ GLe G429 G1 ∧ St c G1 w ((.box b0 63 (kTnego_workV.at_ (Tnego_workV.mk x414 (.slice A417 x415.length c418) (.slice A422 x420.length c423) x425))) :: (.row kTPkt g416 A417 c418 32 x415) :: (.row kI g421 A422 c423 3 x420) :: (.box b14 32 (kTPkt.at_ a3)) :: σ) ∧ kTPkt.V G1 v717 (TPkt.mk 5 x414.A.Id zTPkt.Data)) ?_ ?_
       ·rintro a w ⟨T0, G716, v717, rfl, hG714, H715, hv718⟩
        refine any_alls [12] ⟨any_ops (m' := 8191) fun Q' hN => ?_, trivial⟩
        refine wl_lit (K := kTPkt) (vs := [v717]) (xs := ([(TPkt.mk 5 x414.A.Id zTPkt.Data)] : (List TPkt))) H715 sl35 el32 rfl ⟨hv718, trivial⟩ rfl (by decide) ?_
        intro g744 w746 H745
        refine wl_nil (hN _ _ ?_)
        exact hM723 _ _ ⟨_, _, (some g744), (some ⟨g744, 0, none⟩), 1, frame_eq _ ⟨rfl, rfl, rfl, rfl, rfl, rfl, rfl, rfl, trivial⟩, hG714, (St.pk [1, 2, 3, 4, 0] 5 H745 rfl (by decide))⟩
       intro hM713
       refine any_rn (i := 0) (m' := 1) rfl (rn_pure (pt b0) rfl) hPF hns ?_
       refine any_rn (i := 1) (m' := 3) rfl (rn_pure (pt b0) rfl) hPF hns ?_
       refine any_rn (i := 2) (m' := 7) rfl (rn_nilCheck rfl) hPF hns ?_
       refine any_rn (i := 3) (m' := 15) rfl (rn_field fo63_1 rfl) hPF hns ?_
       refine any_rn (i := 5) (m' := 47) rfl (rn_pure (pt b0) rfl) hPF hns ?_
       refine any_rn (i := 6) (m' := 111) rfl (rn_nilCheck rfl) hPF hns ?_
       refine any_rn (i := 7) (m' := 239) rfl (rn_field fo63_0 rfl) hPF hns ?_
       refine any_rn (i := 8) (m' := 495) rfl (rn_field fo29_0 rfl) hPF hns ?_
       refine any_rn (i := 9) (m' := 1007) rfl (rn_field fo23_3 rfl) hPF hns ?_
       refine any_alls [4, 10] ⟨?_, ?_, trivial⟩
       ·refine any_ops (m' := 1023) fun Q' hN => ?_
        refine wl_load H685 (i := 1) rfl lTnego_workV_Out ty35 rfl ?_
        intro v748 hv749
        obtain rfl := val_V hv749
        refine wl_nil (hN _ _ ?_)
        refine any_alls [10] ⟨any_ops (m' := 2047) fun Q' hN => ?_, trivial⟩
        refine wl_loadd H685 (i := 1) rfl (Lens.then (Lens.then lTnego_workV_Nego lTNego_A) lTAuto_Id) (dInt .u8) ty5 rfl ?_
        refine wl_nil (hN _ _ ?_)
        refine any_rnE (i := 11) (m' := 4095) rfl (rn_build (G := G429) zr32 rfl bs32 rfl (Parts.cons fo32_0 lTPkt_Code ((dInt .u8).toV _ _) (Parts.cons fo32_1 lTPkt_Id ((dInt .u8).toV _ _) (Parts.nil _)))) hPF hns ?_
        intro v750 hv751
        exact hM713 _ _ ⟨_, _, v750, frame_eq _ ⟨rfl, rfl, rfl, rfl, rfl, rfl, rfl, rfl, trivial⟩, GLe.refl _, (St.pk [1, 2, 3, 0] 4 H685 rfl (by decide)), hv751⟩
       ·refine any_ops (m' := 2031) fun Q' hN => ?_
        refine wl_loadd H685 (i := 1) rfl (Lens.then (Lens.then lTnego_workV_Nego lTNego_A) lTAuto_Id) (dInt .u8) ty5 rfl ?_
        refine wl_nil (hN _ _ ?_)
        refine any_rnE (i := 11) (m' := 4079) rfl (rn_build (G := G429) zr32 rfl bs32 rfl (Parts.cons fo32_0 lTPkt_Code ((dInt .u8).toV _ _) (Parts.cons fo32_1 lTPkt_Id ((dInt .u8).toV _ _) (Parts.nil _)))) hPF hns ?_
        intro v752 hv753
        refine any_alls [4, 12] ⟨?_, ?_, trivial⟩
        ·refine any_ops (m' := 4095) fun Q' hN => ?_
         refine wl_load H685 (i := 1) rfl lTnego_workV_Out ty35 rfl ?_
         intro v754 hv755
         obtain rfl := val_V hv755
         refine wl_nil (hN _ _ ?_)
         exact hM713 _ _ ⟨_, _, v752, frame_eq _ ⟨rfl, rfl, rfl, rfl, rfl, rfl, rfl, rfl, trivial⟩, GLe.refl _, (St.pk [1, 2, 3, 0] 4 H685 rfl (by decide)), hv753⟩
        ·refine any_ops (m' := 8175) fun Q' hN => ?_
         refine wl_lit (K := kTPkt) (vs := [v752]) (xs := ([(TPkt.mk 5 x414.A.Id zTPkt.Data)] : (List TPkt))) H685 sl35 el32 rfl ⟨hv753, trivial⟩ rfl (by decide) ?_
         intro g756 w758 H757
         refine wl_nil (hN _ _ ?_)
         refine any_alls [4] ⟨any_ops (m' := 8191) fun Q' hN => ?_, trivial⟩
         refine wl_load H757 (i := 2) rfl lTnego_workV_Out ty35 rfl ?_
         intro v760 hv761
         obtain rfl := val_V hv761
         refine wl_nil (hN _ _ ?_)
         exact hM723 _ _ ⟨_, _, (some g756), (some ⟨g756, 0, none⟩), 1, frame_eq _ ⟨rfl, rfl, rfl, rfl, rfl, rfl, rfl, rfl, trivial⟩, GLe.refl _, (St.pk [2, 3, 4, 1, 0] 5 H757 rfl (by decide))⟩
      ·replace hF := ifF hF hb683
       refine wc_false (vb hb683) ?_
       refine wp_seq (wc_region ?_)
       iterate 2 refine wl_rn (rn_pure (.bool (x585 == 11)) rfl) ?_
       refine wl_nil (then_n ?_)
       rcases bcases (x585 == 11) with hb762 | hb762
       ·replace hF := ifT hF hb762
        refine wc_true (vb hb762) ?_
        refine wc_anyS (f := 16) H427 mixed ?_
        intro w763 H764
        refine any_pf (by repeat (first | exact PF.base | apply PF.then_ | apply PF.blk)) ?_
        intro hPF hns
        obtain ⟨r773, hr774, hF⟩ := bindS hF
        refine any_memo (fuel := 4) (m := 4095) (fun a w => ∃ (T0 : Fr) (G1 : Ghost) (g806 : Option Nat) (A807 : Option Addr) (c808 : Nat), a = mk 141 (upds T0 [(0, (pt b0)), (7, (pt b14)), (40, (.slice A2_ a2.length c2_)), (41, (.int .i64 (a2.length : Int))), (42, (.int .i64 x413)), (95, (pt b0)), (99, (.slice A417 x415.length c418)), (106, (.slice A807 ([(TPkt.mk 6 x425.Id zTPkt.Data)] : (List TPkt)).length c808))]) ∧ GLe G429 G1 ∧ St c G1 w ((.box b0 63 (kTnego_workV.at_ (Tnego_workV.mk x414 (.slice A417 x415.length c418) (.slice A422 x420.length c423) x425))) :: (.row kTPkt g416 A417 c418 32 x415) :: (.row kI g421 A422 c423 3 x420) :: (.box b14 32 (kTPkt.at_ a3)) :: (.row kTPkt g806 A807 c808 32 ([(TPkt.mk 6 x425.Id zTPkt.Data)] : (List TPkt))) :: σ)) ?_ ?_
        ·rintro a w ⟨T0, G805, g806, A807, c808, rfl, hG803, H804⟩
         refine any_alls [12] ⟨any_ops (m' := 8191) fun Q' hN => ?_, trivial⟩
         refine wl_append H804 sl35 el32 (i := 1) rfl rfl rfl ((H804.okAt (i := 4) rfl).src) hr774 ?_
         intro g816 A817 c818 w819 H820
         refine wl_nil (hN _ _ ?_)
         refine any_rn (i := 13) (m' := 16383) rfl (rn_nilCheck rfl) hPF hns ?_
         refine any_rn (i := 14) (m' := 32767) rfl (rn_field fo63_1 rfl) hPF hns ?_
         refine any_alls [15] ⟨any_ops (m' := 65535) fun Q' hN => ?_, trivial⟩
         refine wl_store (z := (.slice A817 r773.length c818)) H820 (i := 0) rfl lTnego_workV_Out ty35 rfl rfl ⟨[_], rfl, rfl, rfl⟩ ?_
         intro w822 H821
         refine wl_nil (hN _ _ ?_)
         refine any_end ?_
         iterate 2 refine blk_n ?_
         refine then_n ?_
         exact ⟨_, _, x414, r773, x420, x425, g816, A817, c818, g421, A422, c423, frame_eq _ ⟨rfl, rfl, rfl, rfl, rfl, trivial⟩, hG803, (St.pk [3, 0, 1, 2] 5 H821 rfl (by decide)), hF⟩
        intro hM802
        refine any_memo (fuel := 5) (m := 2047) (fun a w => ∃ (T0 : Fr) (G1 : Ghost) (v796 : Value), a = mk 141 (upds T0 [(0, (pt b0)), (7, (pt b14)), (40, (.slice A2_ a2.length c2_)), (41, (.int .i64 (a2.length : Int))), (42, (.int .i64 x413)), (95, (pt b0)), (99, (.slice A417 x415.length c418)), (105, v796)]) ∧ GLe G429 G1 ∧ St c G1 w ((.box b0 63 (kTnego_workV.at_ (Tnego_workV.mk x414 (.slice A417 x415.length c418) (.slice A422 x420.length c423) x425))) :: (.row kTPkt g416 A417 c418 32 x415) :: (.row kI g421 A422 c423 3 x420) :: (.box b14 32 (kTPkt.at_ a3)) :: σ) ∧ kTPkt.V G1 v796 (TPkt.mk 6 x425.Id zTPkt.Data)) ?_ ?_
        ·rintro a w ⟨T0, G795, v796, rfl, hG793, H794, hv797⟩
         refine any_alls [11] ⟨any_ops (m' := 4095) fun Q' hN => ?_, trivial⟩
         refine wl_lit (K := kTPkt) (vs := [v796]) (xs := ([(TPkt.mk 6 x425.Id zTPkt.Data)] : (List TPkt))) H794 sl35 el32 rfl ⟨hv797, trivial⟩ rfl (by decide) ?_
         intro g823 w825 H824
         refine wl_nil (hN _ _ ?_)
         exact hM802 _ _ ⟨_, _, (some g823), (some ⟨g823, 0, none⟩), 1, frame_eq _ ⟨rfl, rfl, rfl, rfl, rfl, rfl, rfl, rfl, trivial⟩, hG793, (St.pk [1, 2, 3, 4, 0] 5 H824 rfl (by decide))⟩
        intro hM792
        refine any_rn (i := 0) (m' := 1) rfl (rn_pure (pt b0) rfl) hPF hns ?_
        refine any_rn (i := 1) (m' := 3) rfl (rn_pure (pt b0) rfl) hPF hns ?_
        refine any_rn (i := 2) (m' := 7) rfl (rn_nilCheck rfl) hPF hns ?_
        refine any_rn (i := 3) (m' := 15) rfl (rn_field fo63_1 rfl) hPF hns ?_
        refine any_rn (i := 5) (m' := 47) rfl (rn_pure (pt b0) rfl) hPF hns ?_
        refine any_rn (i := 6) (m' := 111) rfl (rn_nilCheck rfl) hPF hns ?_
        refine any_rn (i := 7) (m' := 239) rfl (rn_field fo63_3 rfl) hPF hns ?_
        refine any_rn (i := 8) (m' := 495) rfl (rn_field fo32_1 rfl) hPF hns ?_
        refine any_alls [4, 9] ⟨?_, ?_, trivial⟩
        ·refine any_ops (m' := 511) fun Q' hN => ?_
         refine wl_load H764 (i := 1) rfl lTnego_workV_Out ty35 rfl ?_
         intro v827 hv828
         obtain rfl := val_V hv828
         refine wl_nil (hN _ _ ?_)
         refine any_alls [9] ⟨any_ops (m' := 1023) fun Q' hN => ?_, trivial⟩
         refine wl_loadd H764 (i := 1) rfl (Lens.then lTnego_workV_P lTPkt_Id) (dInt .u8) ty5 rfl ?_
         refine wl_nil (hN _ _ ?_)
         refine any_rnE (i := 10) (m' := 2047) rfl (rn_build (G := G429) zr32 rfl bs32 rfl (Parts.cons fo32_0 lTPkt_Code ((dInt .u8).toV _ _) (Parts.cons fo32_1 lTPkt_Id ((dInt .u8).toV _ _) (Parts.nil _)))) hPF hns ?_
         intro v829 hv830
         exact hM792 _ _ ⟨_, _, v829, frame_eq _ ⟨rfl, rfl, rfl, rfl, rfl, rfl, rfl, rfl, trivial⟩, GLe.refl _, (St.pk [1, 2, 3, 0] 4 H764 rfl (by decide)), hv830⟩
        ·refine any_ops (m' := 1007) fun Q' hN => ?_
         refine wl_loadd H764 (i := 1) rfl (Lens.then lTnego_workV_P lTPkt_Id) (dInt .u8) ty5 rfl ?_
         refine wl_nil (hN _ _ ?_)
         refine any_rnE (i := 10) (m' := 2031) rfl (rn_build (G := G429) zr32 rfl bs32 rfl (Parts.cons fo32_0 lTPkt_Code ((dInt .u8).toV _ _) (Parts.cons fo32_1 lTPkt_Id ((dInt .u8).toV _ _) (Parts.nil _)))) hPF hns ?_
         intro v831 hv832
         refine any_alls [4, 11] ⟨?_, ?_, trivial⟩
         ·refine any_ops (m' := 2047) fun Q' hN => ?_
          refine wl_load H764 (i := 1) rfl lTnego_workV_Out ty35 rfl ?_
          intro v833 hv834
          obtain rfl := val_V hv834
          refine wl_nil (hN _ _ ?_)
          exact hM792 _ _ ⟨_, _, v831, frame_eq _ ⟨rfl, rfl, rfl, rfl, rfl, rfl, rfl, rfl, trivial⟩, GLe.refl _, (St.pk [1, 2, 3, 0] 4 H764 rfl (by decide)), hv832⟩
         ·refine any_ops (m' := 4079) fun Q' hN => ?_
          refine wl_lit (K := kTPkt) (vs := [v831]) (xs := ([(TPkt.mk 6 x425.Id zTPkt.Data)] : (List TPkt))) H764 sl35 el32 rfl ⟨hv832, trivial⟩ rfl (by decide) ?_
          intro g835 w837 H836
          refine wl_nil (hN _ _ ?_)
          refine any_alls [4] ⟨any_ops (m' := 4095) fun Q' hN => ?_, trivial⟩
          refine wl_load H836 (i := 2) rfl lTnego_workV_Out ty35 rfl ?_
          intro v839 hv840
          obtain rfl := val_V hv840
          refine wl_nil (hN _ _ ?_)
          exact hM802 _ _ ⟨_, _, (some g835), (some ⟨g835, 0, none⟩), 1, frame_eq _ ⟨rfl, rfl, rfl, rfl, rfl, rfl, rfl, rfl, trivial⟩, GLe.refl _, (St.pk [2, 3, 4, 1, 0] 5 H836 rfl (by decide))⟩
       ·replace hF := ifF hF hb762
        refine wc_false (vb hb762) ?_
        refine wp_seq (join (fun a w => ∃ (T0 : Fr) (G1 : Ghost) (x844 : Bool) (x845 : TNego) (x846 : (List TPkt)) (x851 : (List Int)) (x856 : TPkt) (g847 : Option Nat) (A848 : Option Addr) (c849 : Nat) (g852 : Option Nat) (A853 : Option Addr) (c854 : Nat), a = mk 141 (upds T0 [(0, (pt b0)), (7, (pt b14)), (9, (.int .i64 x585)), (40, (.slice A2_ a2.length c2_)), (41, (.int .i64 (a2.length : Int))), (42, (.int .i64 x413)), (46, (.int .i64 x585)), (110, (.bool x844))]) ∧ GLe G429 G1 ∧ St c G1 w ((.box b14 32 (kTPkt.at_ a3)) :: (.box b0 63 (kTnego_workV.at_ (Tnego_workV.mk x845 (.slice A848 x846.length c849) (.slice A853 x851.length c854) x856))) :: (.row kTPkt g847 A848 c849 32 x846) :: (.row kI g852 A853 c854 3 x851) :: σ) ∧ nego_work_acts_j4 a3 x413 x585 x844 x845 x846 x851 x856 = some y428) ?_ ?_)
        ·rintro a w ⟨T0, G859, x844, x845, x846, x851, x856, g847, A848, c849, g852, A853, c854, rfl, hG857, H858, hF⟩
         rcases bcases x844 with hb860 | hb860
         ·replace hF := ifT hF hb860
          refine wc_true (vb hb860) ?_
          refine wc_anyS (f := 11) H858 mixed ?_
          intro w861 H862
          refine any_pf (by repeat (first | exact PF.base | apply PF.then_ | apply PF.blk)) ?_
          intro hPF hns
          obtain ⟨r871, hr872, hF⟩ := bindS hF
          refine any_memo (fuel := 4) (m := 127) (fun a w => ∃ (T0 : Fr) (G1 : Ghost) (g904 : Option Nat) (A905 : Option Addr) (c906 : Nat), a = mk 141 (upds T0 [(0, (pt b0)), (7, (pt b14)), (40, (.slice A2_ a2.length c2_)), (41, (.int .i64 (a2.length : Int))), (42, (.int .i64 x413)), (115, (pt b0)), (119, (.slice A848 x846.length c849)), (121, (.slice A905 ([a3] : (List TPkt)).length c906))]) ∧ GLe G859 G1 ∧ St c G1 w ((.box b0 63 (kTnego_workV.at_ (Tnego_workV.mk x845 (.slice A848 x846.length c849) (.slice A853 x851.length c854) x856))) :: (.row kTPkt g847 A848 c849 32 x846) :: (.row kI g852 A853 c854 3 x851) :: (.box b14 32 (kTPkt.at_ a3)) :: (.row kTPkt g904 A905 c906 32 ([a3] : (List TPkt))) :: σ)) ?_ ?_
          ·rintro a w ⟨T0, G903, g904, A905, c906, rfl, hG901, H902⟩
           refine any_alls [7] ⟨any_ops (m' := 255) fun Q' hN => ?_, trivial⟩
           refine wl_append H902 sl35 el32 (i := 1) rfl rfl rfl ((H902.okAt (i := 4) rfl).src) hr872 ?_
           intro g914 A915 c916 w917 H918
           refine wl_nil (hN _ _ ?_)
           refine any_rn (i := 8) (m' := 511) rfl (rn_nilCheck rfl) hPF hns ?_
           refine any_rn (i := 9) (m' := 1023) rfl (rn_field fo63_1 rfl) hPF hns ?_
           refine any_alls [10] ⟨any_ops (m' := 2047) fun Q' hN => ?_, trivial⟩
           refine wl_store (z := (.slice A915 r871.length c916)) H918 (i := 0) rfl lTnego_workV_Out ty35 rfl rfl ⟨[_], rfl, rfl, rfl⟩ ?_
           intro w920 H919
           refine wl_nil (hN _ _ ?_)
           refine any_end ?_
           iterate 2 refine blk_n ?_
           refine then_n ?_
           exact ⟨_, _, x845, r871, x851, x856, g914, A915, c916, g852, A853, c854, frame_eq _ ⟨rfl, rfl, rfl, rfl, rfl, trivial⟩, (hG857.trans hG901), (St.pk [3, 0, 1, 2] 5 H919 rfl (by decide)), hF⟩
          intro hM900
          refine any_memo (fuel := 5) (m := 63) (fun a w => ∃ (T0 : Fr) (G1 : Ghost) (v894 : Value), a = mk 141 (upds T0 [(0, (pt b0)), (7, (pt b14)), (40, (.slice A2_ a2.length c2_)), (41, (.int .i64 (a2.length : Int))), (42, (.int .i64 x413)), (115, (pt b0)), (119, (.slice A848 x846.length c849)), (120, v894)]) ∧ GLe G859 G1 ∧ St c G1 w ((.box b0 63 (kTnego_workV.at_ (Tnego_workV.mk x845 (.slice A848 x846.length c849) (.slice A853 x851.length c854) x856))) :: (.row kTPkt g847 A848 c849 32 x846) :: (.row kI g852 A853 c854 3 x851) :: (.box b14 32 (kTPkt.at_ a3)) :: σ) ∧ kTPkt.V G1 v894 a3) ?_ ?_
          ·rintro a w ⟨T0, G893, v894, rfl, hG891, H892, hv895⟩
           refine any_alls [6] ⟨any_ops (m' := 127) fun Q' hN => ?_, trivial⟩
           refine wl_lit (K := kTPkt) (vs := [v894]) (xs := ([a3] : (List TPkt))) H892 sl35 el32 rfl ⟨hv895, trivial⟩ rfl (by decide) ?_
           intro g921 w923 H922
           refine wl_nil (hN _ _ ?_)
           exact hM900 _ _ ⟨_, _, (some g921), (some ⟨g921, 0, none⟩), 1, frame_eq _ ⟨rfl, rfl, rfl, rfl, rfl, rfl, rfl, rfl, trivial⟩, hG891, (St.pk [1, 2, 3, 4, 0] 5 H922 rfl (by decide))⟩
          intro hM890
          refine any_rn (i := 0) (m' := 1) rfl (rn_pure (pt b0) rfl) hPF hns ?_
          refine any_rn (i := 1) (m' := 3) rfl (rn_pure (pt b0) rfl) hPF hns ?_
          refine any_rn (i := 2) (m' := 7) rfl (rn_nilCheck rfl) hPF hns ?_
          refine any_rn (i := 3) (m' := 15) rfl (rn_field fo63_1 rfl) hPF hns ?_
          refine any_alls [4, 5] ⟨?_, ?_, trivial⟩
          ·refine any_ops (m' := 31) fun Q' hN => ?_
           refine wl_load H862 (i := 1) rfl lTnego_workV_Out ty35 rfl ?_
           intro v925 hv926
           obtain rfl := val_V hv926
           refine wl_nil (hN _ _ ?_)
           refine any_alls [5] ⟨any_ops (m' := 63) fun Q' hN => ?_, trivial⟩
           refine wl_load H862 (i := 0) rfl (Lens.id kTPkt) ty32 rfl ?_
           intro v927 hv928
           refine wl_nil (hN _ _ ?_)
           exact hM890 _ _ ⟨_, _, v927, frame_eq _ ⟨rfl, rfl, rfl, rfl, rfl, rfl, rfl, rfl, trivial⟩, GLe.refl _, (St.pk [1, 2, 3, 0] 4 H862 rfl (by decide)), hv928⟩
          ·refine any_ops (m' := 47) fun Q' hN => ?_
           refine wl_load H862 (i := 0) rfl (Lens.id kTPkt) ty32 rfl ?_
           intro v929 hv930
           refine wl_nil (hN _ _ ?_)
           refine any_alls [4, 6] ⟨?_, ?_, trivial⟩
           ·refine any_ops (m' := 63) fun Q' hN => ?_
            refine wl_load H862 (i := 1) rfl lTnego_workV_Out ty35 rfl ?_
            intro v931 hv932
            obtain rfl := val_V hv932
            refine wl_nil (hN _ _ ?_)
            exact hM890 _ _ ⟨_, _, v929, frame_eq _ ⟨rfl, rfl, rfl, rfl, rfl, rfl, rfl, rfl, trivial⟩, GLe.refl _, (St.pk [1, 2, 3, 0] 4 H862 rfl (by decide)), hv930⟩
           ·refine any_ops (m' := 111) fun Q' hN => ?_
            refine wl_lit (K := kTPkt) (vs := [v929]) (xs := ([a3] : (List TPkt))) H862 sl35 el32 rfl ⟨hv930, trivial⟩ rfl (by decide) ?_
            intro g933 w935 H934
            refine wl_nil (hN _ _ ?_)
            refine any_alls [4] ⟨any_ops (m' := 127) fun Q' hN => ?_, trivial⟩
            refine wl_load H934 (i := 2) rfl lTnego_workV_Out ty35 rfl ?_
            intro v937 hv938
            obtain rfl := val_V hv938
            refine wl_nil (hN _ _ ?_)
            exact hM900 _ _ ⟨_, _, (some g933), (some ⟨g933, 0, none⟩), 1, frame_eq _ ⟨rfl, rfl, rfl, rfl, rfl, rfl, rfl, rfl, trivial⟩, GLe.refl _, (St.pk [2, 3, 4, 1, 0] 5 H934 rfl (by decide))⟩
         ·replace hF := ifF hF hb860
          refine wc_false (vb hb860) ?_
          refine wp_seq (join (fun a w => ∃ (T0 : Fr) (G1 : Ghost) (x942 : Bool) (x943 : TNego) (x944 : (List TPkt)) (x949 : (List Int)) (x954 : TPkt) (g945 : Option Nat) (A946 : Option Addr) (c947 : Nat) (g950 : Option Nat) (A951 : Option Addr) (c952 : Nat), a = mk 141 (upds T0 [(0, (pt b0)), (7, (pt b14)), (9, (.int .i64 x585)), (40, (.slice A2_ a2.length c2_)), (41, (.int .i64 (a2.length : Int))), (42, (.int .i64 x413)), (125, (.bool x942))]) ∧ GLe G859 G1 ∧ St c G1 w ((.box b14 32 (kTPkt.at_ a3)) :: (.box b0 63 (kTnego_workV.at_ (Tnego_workV.mk x943 (.slice A946 x944.length c947) (.slice A951 x949.length c952) x954))) :: (.row kTPkt g945 A946 c947 32 x944) :: (.row kI g950 A951 c952 3 x949) :: σ) ∧ nego_work_acts_j5 x413 x585 x942 x943 x944 x949 x954 = some y428) ?_ ?_)
          ·rintro a w ⟨T0, G957, x942, x943, x944, x949, x954, g945, A946, c947, g950, A951, c952, rfl, hG955, H956, hF⟩
           rcases bcases x942 with hb958 | hb958
           ·replace hF := ifT hF hb958
            refine wc_true (vb hb958) ?_
            refine wc_region ?_
            iterate 2 refine wl_rn (rn_pure (pt b0) rfl) ?_
            refine wl_rn (rn_nilCheck rfl) ?_
            refine wl_rn (rn_field fo63_2 rfl) ?_
            refine wl_load H956 (i := 1) rfl lTnego_workV_Tell ty36 rfl ?_
            intro v959 hv960
            obtain rfl := val_V hv960
            refine wl_rn (rn_pure (.int .i64 x585) rfl) ?_
            refine wl_lit (K := kI) (vs := [(.int .i64 x585)]) (xs := ([x585] : (List Int))) H956 sl36 el3 rfl ⟨((dInt .i64).toV _ _), trivial⟩ rfl (by decide) ?_
            intro g961 w963 H962
            obtain ⟨r965, hr966, hF⟩ := bindS hF
            refine wl_append H962 sl36 el3 (i := 4) rfl rfl rfl ((H962.okAt (i := 0) rfl).src) hr966 ?_
            intro g967 A968 c969 w970 H971
            refine wl_rn (rn_nilCheck rfl) ?_
            refine wl_rn (rn_field fo63_2 rfl) ?_
            refine wl_store (z := (.slice A968 r965.length c969)) H971 (i := 2) rfl lTnego_workV_Tell ty36 rfl rfl ⟨[_], rfl, rfl, rfl⟩ ?_
            intro w973 H972
            refine wl_nil (blk_n ?_)
            refine blk_n ?_
            refine then_n ?_
            exact ⟨_, _, x943, x944, r965, x954, g945, A946, c947, g967, A968, c969, frame_eq _ ⟨rfl, rfl, rfl, rfl, rfl, trivial⟩, (hG857.trans hG955), (St.pk [1, 2, 3, 4] 5 H972 rfl (by decide)), hF⟩
           ·replace hF := ifF hF hb958
            refine wc_false (vb hb958) ?_
            refine wp_skip ?_
            iterate 2 refine blk_n ?_
            refine then_n ?_
            exact ⟨_, _, x943, x944, x949, x954, g945, A946, c947, g950, A951, c952, frame_eq _ ⟨rfl, rfl, rfl, rfl, rfl, trivial⟩, (hG857.trans hG955), H956, hF⟩
          ·refine wp_seq (wc_region ?_)
           iterate 2 refine wl_rn (rn_pure (.bool (x585 == 1)) rfl) ?_
           refine wl_nil (then_n ?_)
           rcases bcases (x585 == 1) with hb974 | hb974
           ·replace hF := ifT hF hb974
            refine wc_true (vb hb974) ?_
            refine wp_skip ?_
            refine then_n ?_
            exact ⟨_, _, (x585 == 1), x845, x846, x851, x856, g847, A848, c849, g852, A853, c854, frame_eq _ ⟨rfl, rfl, rfl, rfl, rfl, rfl, rfl, trivial⟩, GLe.refl _, H858, hF⟩
           ·replace hF := ifF hF hb974
            refine wc_false (vb hb974) ?_
            refine wp_seq (wc_region ?_)
            iterate 2 refine wl_rn (rn_pure (.bool (x585 == 2)) rfl) ?_
            refine wl_nil (then_n ?_)
            rcases bcases (x585 == 2) with hb975 | hb975
            ·replace hF := ifT hF hb975
             refine wc_true (vb hb975) ?_
             refine wp_skip ?_
             refine then_n ?_
             exact ⟨_, _, (x585 == 2), x845, x846, x851, x856, g847, A848, c849, g852, A853, c854, frame_eq _ ⟨rfl, rfl, rfl, rfl, rfl, rfl, rfl, trivial⟩, GLe.refl _, H858, hF⟩
            ·replace hF := ifF hF hb975
             refine wc_false (vb hb975) ?_
             refine wp_seq (wc_region ?_)
             iterate 2 refine wl_rn (rn_pure (.bool (x585 == 3)) rfl) ?_
             refine wl_nil (then_n ?_)
             rcases bcases (x585 == 3) with hb976 | hb976
             ·replace hF := ifT hF hb976
              refine wc_true (vb hb976) ?_
              refine wp_skip ?_
              refine then_n ?_
              exact ⟨_, _, (x585 == 3), x845, x846, x851, x856, g847, A848, c849, g852, A853, c854, frame_eq _ ⟨rfl, rfl, rfl, rfl, rfl, rfl, rfl, trivial⟩, GLe.refl _, H858, hF⟩
             ·replace hF := ifF hF hb976
              refine wc_false (vb hb976) ?_
              refine wc_region ?_
              iterate 2 refine wl_rn (rn_pure (.bool (x585 == 4)) rfl) ?_
              refine wl_nil (then_n ?_)
              exact ⟨_, _, (x585 == 4), x845, x846, x851, x856, g847, A848, c849, g852, A853, c854, frame_eq _ ⟨rfl, rfl, rfl, rfl, rfl, rfl, rfl, trivial⟩, GLe.refl _, H858, hF⟩
        ·refine wp_seq (wc_region ?_)
         iterate 2 refine wl_rn (rn_pure (.bool (x585 == 8)) rfl) ?_
         refine wl_nil (then_n ?_)
         rcases bcases (x585 == 8) with hb977 | hb977
         ·replace hF := ifT hF hb977
          refine wc_true (vb hb977) ?_
          refine wp_skip ?_
          refine then_n ?_
          exact ⟨_, _, (x585 == 8), x414, x415, x420, x425, g416, A417, c418, g421, A422, c423, frame_eq _ ⟨rfl, rfl, rfl, rfl, rfl, rfl, rfl, rfl, trivial⟩, GLe.refl _, H427, hF⟩
         ·replace hF := ifF hF hb977
          refine wc_false (vb hb977) ?_
          refine wp_seq (wc_region ?_)
          iterate 2 refine wl_rn (rn_pure (.bool (x585 == 9)) rfl) ?_
          refine wl_nil (then_n ?_)
          rcases bcases (x585 == 9) with hb978 | hb978
          ·replace hF := ifT hF hb978
           refine wc_true (vb hb978) ?_
           refine wp_skip ?_
           refine then_n ?_
           exact ⟨_, _, (x585 == 9), x414, x415, x420, x425, g416, A417, c418, g421, A422, c423, frame_eq _ ⟨rfl, rfl, rfl, rfl, rfl, rfl, rfl, rfl, trivial⟩, GLe.refl _, H427, hF⟩
          ·replace hF := ifF hF hb978
           refine wc_false (vb hb978) ?_
           refine wp_seq (wc_region ?_)
           iterate 2 refine wl_rn (rn_pure (.bool (x585 == 12)) rfl) ?_
           refine wl_nil (then_n ?_)
           rcases bcases (x585 == 12) with hb979 | hb979
           ·replace hF := ifT hF hb979
            refine wc_true (vb hb979) ?_
            refine wp_skip ?_
            refine then_n ?_
            exact ⟨_, _, (x585 == 12), x414, x415, x420, x425, g416, A417, c418, g421, A422, c423, frame_eq _ ⟨rfl, rfl, rfl, rfl, rfl, rfl, rfl, rfl, trivial⟩, GLe.refl _, H427, hF⟩
           ·replace hF := ifF hF hb979
            refine wc_false (vb hb979) ?_
            refine wc_region ?_
            iterate 2 refine wl_rn (rn_pure (.bool (x585 == 13)) rfl) ?_
            refine wl_nil (then_n ?_)
            exact ⟨_, _, (x585 == 13), x414, x415, x420, x425, g416, A417, c418, g421, A422, c423, frame_eq _ ⟨rfl, rfl, rfl, rfl, rfl, rfl, rfl, rfl, trivial⟩, GLe.refl _, H427, hF⟩
   ·replace hF := ifF hF hb430
    refine wc_false (vb hb430) ?_
    refine wp_exit ?_
    iterate 2 refine then_e ?_
    replace hF := exitS hF hy81
    refine blk_e ?_
    have hF := Option.some.inj hF
    subst hF
    exact end_mk rfl RV.nil ⟨_, g416, A417, c418, g421, A422, c423, (hG78.trans hG426), rfl, (St.pk [1, 2, 3] 4 H427 rfl (by decide))⟩
 ·refine wp_seq (join (fun a w => ∃ (T0 : Fr) (G1 : Ghost) (x996 : Bool) (x997 : TNego) (x998 : (List TPkt)) (x1003 : (List Int)) (x1008 : TPkt) (g999 : Option Nat) (A1000 : Option Addr) (c1001 : Nat) (g1004 : Option Nat) (A1005 : Option Addr) (c1006 : Nat), a = mk 141 (upds T0 [(0, (pt b0)), (2, (.slice A2_ a2.length c2_)), (7, (pt b14)), (21, (.bool x996))]) ∧ GLe G G1 ∧ St c G1 w ((.box b14 32 (kTPkt.at_ a3)) :: (.box b0 63 (kTnego_workV.at_ (Tnego_workV.mk x997 (.slice A1000 x998.length c1001) (.slice A1005 x1003.length c1006) x1008))) :: (.row kTPkt g999 A1000 c1001 32 x998) :: (.row kI g1004 A1005 c1006 3 x1003) :: σ) ∧ nego_work_acts_j6 a2 a3 x996 x997 x998 x1003 x1008 = some r) ?_ ?_)
  ·rintro a w ⟨T0, G1011, x996, x997, x998, x1003, x1008, g999, A1000, c1001, g1004, A1005, c1006, rfl, hG1009, H1010, hF⟩
   rcases bcases x996 with hb1012 | hb1012
   ·replace hF := ifT hF hb1012
    refine wc_true (vb hb1012) ?_
    refine wc_region ?_
    iterate 4 refine wl_rn (rn_pure (pt b0) rfl) ?_
    refine wl_rn (rn_nilCheck rfl) ?_
    refine wl_rn (rn_field fo63_0 rfl) ?_
    refine wl_rn (rn_field fo29_1 rfl) ?_
    refine wl_load H1010 (i := 1) rfl (Lens.then lTnego_workV_Nego lTNego_R) ty26 rfl ?_
    intro v1013 hv1014
    obtain ⟨r1015, hr1016, hF⟩ := bindS hF
    refine wl_call (vs := [v1013]) en38 rfl (rules_Ask_ok hc hv1014 H1010 hr1016) ?_
    rintro v1021 w1020 ⟨G1017, A1022, c1023, hG1018, rfl, H1019, hs1024⟩
    refine wl_rn (rn_nilCheck rfl) ?_
    refine wl_rn (rn_field fo63_0 rfl) ?_
    refine wl_rn (rn_field fo29_2 rfl) ?_
    refine wl_store (z := r1015) H1019 (i := 1) rfl (Lens.then lTnego_workV_Nego lTNego_Ours) ty27 rfl rfl (slice_toV hs1024) ?_
    intro w1026 H1025
    refine wl_rn (rn_nilCheck rfl) ?_
    refine wl_rn (rn_field fo63_0 rfl) ?_
    refine wl_rn (rn_field fo29_3 rfl) ?_
    refine wl_store (z := 0) H1025 (i := 1) rfl (Lens.then lTnego_workV_Nego lTNego_Naks) ty3 rfl rfl ((dInt .i64).toV _ _) ?_
    intro w1028 H1027
    refine wl_rn (rn_nilCheck rfl) ?_
    refine wl_rn (rn_field fo63_0 rfl) ?_
    refine wl_rn (rn_field fo29_4 rfl) ?_
    refine wl_store (z := []) H1027 (i := 1) rfl (Lens.then lTnego_workV_Nego lTNego_Peer) ty27 rfl rfl (slice_toV (SlR.nil _ _)) ?_
    intro w1030 H1029
    refine wl_nil (then_n ?_)
    exact ⟨_, _, (TNego.mk x997.A x997.R r1015 0 []), x998, x1003, x1008, g999, A1000, c1001, g1004, A1005, c1006, frame_eq _ ⟨rfl, rfl, rfl, trivial⟩, (hG1009.trans hG1018), H1029, hF⟩
   ·replace hF := ifF hF hb1012
    refine wc_false (vb hb1012) ?_
    refine wp_skip ?_
    refine then_n ?_
    exact ⟨_, _, x997, x998, x1003, x1008, g999, A1000, c1001, g1004, A1005, c1006, frame_eq _ ⟨rfl, rfl, rfl, trivial⟩, hG1009, H1010, hF⟩
  ·refine wc_region ?_
   refine wl_rn (rn_pure (.int .i64 a1) rfl) ?_
   iterate 2 refine wl_rn (rn_pure (.bool (decide (a1 ≤ 3))) rfl) ?_
   rcases bcases (decide (a1 ≤ 3)) with hb1031 | hb1031
   ·replace hF := ifT hF hb1031
    refine wl_yes rfl rfl rfl (vb hb1031) ?_
    refine wl_rn (rn_pure (.slice A2_ a2.length c2_) rfl) ?_
    refine wl_yes rfl rfl rfl (vb hb1031) ?_
    obtain ⟨r1032, hr1033, hF⟩ := bindS hF
    refine wl_call (vs := [(.slice A2_ a2.length c2_), (.int .i64 5)]) en48 rfl (slices_Contains_int_ok hc h2_ H15 hr1033) ?_
    rintro v1038 w1037 ⟨G1034, hG1035, rfl, H1036⟩
    refine wl_rn (rn_pickT (.bool r1032) (vb hb1031) rfl) ?_
    refine wl_rn (rn_pure (.bool r1032) rfl) ?_
    rcases bcases r1032 with hb1039 | hb1039
    ·replace hF := ifT hF hb1039
     refine wl_yes rfl rfl rfl (vb hb1039) ?_
     refine wl_rn (rn_pure (.slice A2_ a2.length c2_) rfl) ?_
     refine wl_yes rfl rfl rfl (vb hb1039) ?_
     obtain ⟨r1040, hr1041, hF⟩ := bindS hF
     refine wl_call (vs := [(.slice A2_ a2.length c2_), (.int .i64 7)]) en48 rfl (slices_Contains_int_ok hc (h2_.mono hG1035) H1036 hr1041) ?_
     rintro v1046 w1045 ⟨G1042, hG1043, rfl, H1044⟩
     refine wl_rn (rn_pickT (.bool r1040) (vb hb1039) rfl) ?_
     refine wl_nil (then_n ?_)
     exact ⟨_, _, r1040, x2, x3, x8, x13, g4, A5, c6, g9, A10, c11, frame_eq _ ⟨rfl, rfl, rfl, rfl, trivial⟩, (hG1035.trans hG1043), H1044, hF⟩
    ·replace hF := ifF hF hb1039
     iterate 2 refine wl_no rfl rfl rfl (vb hb1039) ?_
     refine wl_rn (rn_pickF (.bool false) (vb hb1039) rfl) ?_
     refine wl_nil (then_n ?_)
     exact ⟨_, _, false, x2, x3, x8, x13, g4, A5, c6, g9, A10, c11, frame_eq _ ⟨rfl, rfl, rfl, rfl, trivial⟩, hG1035, H1036, hF⟩
   ·replace hF := ifF hF hb1031
    iterate 2 refine wl_no rfl rfl rfl (vb hb1031) ?_
    refine wl_rn (rn_pickF (.bool false) (vb hb1031) rfl) ?_
    refine wl_rn (rn_pure (.bool false) rfl) ?_
    iterate 2 refine wl_no rfl rfl rfl rfl ?_
    refine wl_rn (rn_pickF (.bool false) rfl rfl) ?_
    refine wl_nil (then_n ?_)
    exact ⟨_, _, false, x2, x3, x8, x13, g4, A5, c6, g9, A10, c11, frame_eq _ ⟨rfl, rfl, rfl, rfl, trivial⟩, GLe.refl _, H15, hF⟩

theorem nego_work_event_ok {c : World} (hc : Hc c) {G : Ghost} {w : World} {σ : List Ent} {b0 : Nat} {x2 : TNego} {x3 : (List TPkt)} {x8 : (List Int)} {x13 : TPkt} {g4 : Option Nat} {A5 : Option Addr} {c6 : Nat} {g9 : Option Nat} {A10 : Option Addr} {c11 : Nat} {a1 : Int} {a2 : TPkt} {v2_ : Value} (h2_ : kTPkt.V G v2_ a2) (H : St c G w ((.box b0 63 (kTnego_workV.at_ (Tnego_workV.mk x2 (.slice A5 x3.length c6) (.slice A10 x8.length c11) x13))) :: (.row kTPkt g4 A5 c6 32 x3) :: (.row kI g9 A10 c11 3 x8) :: σ)) {r : ((List Int) × TNego × (List TPkt) × (List Int) × TPkt)} (hF : nego_work_event x2 x3 x8 x13 a1 a2 = some r) :
  Calls Tryd.prog 30 ([(pt b0), (.int .i64 a1), v2_] : List Value).toArray w (Ends fun v w' => ∃ (G' : Ghost) (A1' : Option Addr) (c2' : Nat) (g3' : Option Nat) (A4' : Option Addr) (c5' : Nat) (g6' : Option Nat) (A7' : Option Addr) (c8' : Nat), GLe G G' ∧ tup [(.slice A1' r.1.length c2')] = v ∧ St c G' w' ((.box b0 63 (kTnego_workV.at_ (Tnego_workV.mk r.2.1 (.slice A4' r.2.2.1.length c5') (.slice A7' r.2.2.2.1.length c8') r.2.2.2.2))) :: (.row kTPkt g3' A4' c5' 32 r.2.2.1) :: (.row kI g6' A7' c8' 3 r.2.2.2.1) :: σ) ∧ SlR kI G' A1' c2' r.1) := by
 unfold nego_work_event at hF
 refine calls_mk Tryd.func30 rfl rfl rfl ?_
 refine wp_seq (wc_region ?_)
 refine wl_box (K := kTPkt) (x := a2) H rfl h2_ ?_
 intro b14 w17 H15
 refine wl_rn (rn_pure (.slice none 0 0) rfl) ?_
 refine wl_nil (then_n (wp_seq (wc_region ?_)))
 refine wl_rn (rn_pure (pt b0) rfl) ?_
 refine wl_rn (rn_nilCheck rfl) ?_
 refine wl_rn (rn_field fo63_0 rfl) ?_
 refine wl_rn (rn_field fo29_0 rfl) ?_
 refine wl_rn (rn_field fo23_0 rfl) ?_
 refine wl_loadd H15 (i := 1) rfl (Lens.then (Lens.then lTnego_workV_Nego lTNego_A) lTAuto_State) (dInt .i64) ty3 rfl ?_
 refine wl_rn (rn_pure (.int .i64 x2.A.State) rfl) ?_
 refine wl_nil (then_n (wp_seq (wc_region ?_)))
 refine wl_rn (rn_pure (pt b0) rfl) ?_
 refine wl_rn (rn_nilCheck rfl) ?_
 refine wl_rn (rn_field fo63_0 rfl) ?_
 refine wl_rn (rn_field fo29_0 rfl) ?_
 refine wl_load H15 (i := 1) rfl (Lens.then lTnego_workV_Nego lTNego_A) ty23 rfl ?_
 intro v18 hv19
 refine wl_rn (rn_pure (.int .i64 a1) rfl) ?_
 obtain ⟨r20, hr21, hF⟩ := bindS hF
 refine wl_call (vs := [v18, (.int .i64 a1)]) en47 rfl (auto_Do_ok hc hv19 H15 hr21) ?_
 rintro v26 w25 ⟨G22, v27, A29, c30, hG23, rfl, H24, hv28, hs31⟩
 refine wl_rn (rn_pure (.tuple #[v27, (.slice A29 r20.2.1.length c30), (.int .i64 r20.2.2)]) rfl) ?_
 refine wl_rn (rn_pure v27 rfl) ?_
 refine wl_rn (rn_pure (.slice A29 r20.2.1.length c30) rfl) ?_
 refine wl_rn (rn_pure (.int .i64 r20.2.2) rfl) ?_
 refine wl_alloc H24 zr23 ?_
 intro b32 w35 H33
 refine wl_store (z := r20.1) H33 (i := 0) rfl (Lens.id kTAuto) ty23 rfl rfl hv28 ?_
 intro w37 H36
 refine wl_rn (rn_pure (.slice A29 r20.2.1.length c30) rfl) ?_
 refine wl_rn (rn_pure (.int .i64 r20.2.2) rfl) ?_
 refine wl_nil (then_n ?_)
 refine wp_seq ?_
 refine wp_seq (wc_region ?_)
 refine wl_rn (rn_pure (.int .i64 r20.2.2) rfl) ?_
 refine wl_rn (rn_pure (.bool (r20.2.2 != 0)) rfl) ?_
 refine wl_nil (then_n ?_)
 rcases bcases (r20.2.2 != 0) with hb38 | hb38
 ·replace hF := ifT hF hb38
  refine wc_true (vb hb38) ?_
  refine wp_seq (wc_region ?_)
  refine wl_rn (rn_pure (.slice none 0 0) rfl) ?_
  refine wl_nil (then_n ?_)
  refine wp_ret ?_
  refine then_r ?_
  have hF := Option.some.inj hF
  subst hF
  exact ret_mk rfl (RV.tmp rfl RV.nil) ⟨_, none, 0, g4, A5, c6, g9, A10, c11, hG23, rfl, (St.pk [2, 3, 4] 5 H36 rfl (by decide)), (SlR.nil _ _)⟩
 ·replace hF := ifF hF hb38
  refine wc_false (vb hb38) ?_
  refine wp_skip ?_
  refine then_n ?_
  refine wp_seq (wc_region ?_)
  refine wl_rn (rn_pure (pt b0) rfl) ?_
  refine wl_load H36 (i := 0) rfl (Lens.id kTAuto) ty23 rfl ?_
  intro v39 hv40
  refine wl_rn (rn_nilCheck rfl) ?_
  refine wl_rn (rn_field fo63_0 rfl) ?_
  refine wl_rn (rn_field fo29_0 rfl) ?_
  refine wl_store (z := r20.1) H36 (i := 2) rfl (Lens.then lTnego_workV_Nego lTNego_A) ty23 rfl rfl hv40 ?_
  intro w42 H41
  refine wl_nil (then_n (wp_seq (wc_region ?_)))
  refine wl_rn (rn_pure (pt b0) rfl) ?_
  refine wl_rn (rn_pure (.int .i64 x2.A.State) rfl) ?_
  refine wl_rn (rn_pure (.slice A29 r20.2.1.length c30) rfl) ?_
  refine wl_load H41 (i := 1) rfl (Lens.id kTPkt) ty32 rfl ?_
  intro v43 hv44
  obtain ⟨r45, hr46, hF⟩ := bindS hF
  refine wl_call (vs := [(pt b0), (.int .i64 x2.A.State), (.slice A29 r20.2.1.length c30), v43]) en33 rfl (nego_work_acts_ok hc hs31 hv44 (St.pk [2, 3, 4, 0, 1] 5 H41 rfl (by decide)) hr46) ?_
  rintro v51 w50 ⟨G47, g52, A53, c54, g55, A56, c57, hG48, rfl, H49⟩
  refine wl_nil (then_n (wp_seq (wc_region ?_)))
  iterate 2 refine wl_rn (rn_pure (.slice A29 r20.2.1.length c30) rfl) ?_
  refine wl_nil (then_n ?_)
  refine wp_ret ?_
  have hF := Option.some.inj hF
  subst hF
  exact ret_mk rfl (RV.tmp rfl RV.nil) ⟨_, A29, c30, g52, A53, c54, g55, A56, c57, (hG23.trans hG48), rfl, (St.pk [0, 1, 2] 5 H49 rfl (by decide)), (hs31.mono hG48)⟩
end Go.Proofs.YtadlndnagfnlgaaDoor.W
