/- Calls come to what the plain functions say: written by a program (gen.py). -/
import Derived.Test.YtadlndnagfnlgaaDoorG
import Derived.Test.YtadlndnagfnlgaaDoorF4
import Derived.Test.YtadlndnagfnlgaaDoorF5
set_option linter.unusedVariables false
set_option maxRecDepth 20000
namespace Go.Proofs.YtadlndnagfnlgaaDoor.W
open Go
set_option maxHeartbeats 4000000
attribute [local irreducible] wpList wpAny Code.wp wpListIn wpAnyIn Code.wpIn
theorem portreevelaw14_NegoCodes_ok {c : World} (hc : Hc c) {G : Ghost} {w : World} {σ : List Ent} {a0 : TNego} {v0_ : Value} {a1 : TPkt} {v1_ : Value} (h0_ : kTNego.V G v0_ a0) (h1_ : kTPkt.V G v1_ a1) (H : St c G w (σ)) {r : Bool} (hF : portreevelaw14_NegoCodes a0 a1 = some r) :
  Calls Tryd.prog 6 ([v0_, v1_] : List Value).toArray w (Ends fun v w' => ∃ (G' : Ghost), GLe G G' ∧ tup [(.bool r)] = v ∧ St c G' w' (σ)) := by
 unfold portreevelaw14_NegoCodes at hF
 refine calls_mk Tryd.func6 rfl rfl rfl ?_
 refine wp_seq (wc_region ?_)
 refine wl_box (K := kTNego) (x := a0) H rfl h0_ ?_
 intro b1 w4 H2
 refine wl_box (K := kTPkt) (x := a1) H2 rfl h1_ ?_
 intro b5 w8 H6
 refine wl_rn (rn_pure (.bool false) rfl) ?_
 refine wl_nil (then_n (wp_seq (wc_region ?_)))
 obtain ⟨r9, hr10, hF⟩ := bindS hF
 refine wl_call (vs := []) en8 rfl (portreevelaw14_shown_ok hc H6 hr10) ?_
 rintro v15 w14 ⟨G11, hG12, rfl, H13⟩
 refine wl_rn (rn_pure (.bool r9) rfl) ?_
 refine wl_nil (then_n ?_)
 refine wp_seq ?_
 refine wp_seq (join (fun a w => ∃ (T0 : Fr) (G1 : Ghost) (x43 : Bool), a = mk 107 (upds T0 [(2, (pt b1)), (3, (pt b5)), (5, (.bool r9)), (33, (.bool x43))]) ∧ GLe G11 G1 ∧ St c G1 w ((.box b5 32 (kTPkt.at_ a1)) :: (.box b1 29 (kTNego.at_ a0)) :: σ) ∧ portreevelaw14_NegoCodes_j1 a0 a1 r9 x43 = some r) ?_ ?_)
 ·rintro a w ⟨T0, G46, x43, rfl, hG44, H45, hF⟩
  rcases bcases x43 with hb47 | hb47
  ·replace hF := ifT hF hb47
   refine wc_true (vb hb47) ?_
   refine wp_seq (wc_region ?_)
   iterate 2 refine wl_rn (rn_pure (.bool r9) rfl) ?_
   refine wl_nil (then_n ?_)
   refine wp_ret ?_
   refine then_r ?_
   have hF := Option.some.inj hF
   subst hF
   exact ret_mk rfl (RV.tmp rfl RV.nil) ⟨_, (hG12.trans hG44), rfl, (St.pick [(.box b5 32 (kTPkt.at_ a1)), (.box b1 29 (kTNego.at_ a0))] [] [] H45 (by decide) rfl)⟩
  ·replace hF := ifF hF hb47
   refine wc_false (vb hb47) ?_
   refine wp_skip ?_
   refine then_n ?_
   refine wp_seq (wc_region ?_)
   refine wl_load H45 (i := 1) rfl (Lens.id kTNego) ty29 rfl ?_
   intro v48 hv49
   refine wl_load H45 (i := 0) rfl (Lens.id kTPkt) ty32 rfl ?_
   intro v50 hv51
   obtain ⟨r52, hr53, hF⟩ := bindS hF
   refine wl_call (vs := [v48, v50]) en13 rfl (nego_Take_ok hc hv49 hv51 H45 hr53) ?_
   rintro v58 w57 ⟨G54, v59, A61, c62, A64, c65, hG55, rfl, H56, hv60, hs63, hs66⟩
   refine wl_rn (rn_pure (.tuple #[v59, (.slice A61 r52.2.1.length c62), (.slice A64 r52.2.2.length c65)]) rfl) ?_
   refine wl_rn (rn_pure v59 rfl) ?_
   refine wl_rn (rn_pure (.slice A61 r52.2.1.length c62) rfl) ?_
   refine wl_rn (rn_pure (.slice A64 r52.2.2.length c65) rfl) ?_
   refine wl_alloc H56 zr29 ?_
   intro b67 w70 H68
   refine wl_store (z := r52.1) H68 (i := 0) rfl (Lens.id kTNego) ty29 rfl rfl hv60 ?_
   intro w72 H71
   refine wl_rn (rn_pure (.slice A61 r52.2.1.length c62) rfl) ?_
   refine wl_rn (rn_pure (.slice A64 r52.2.2.length c65) rfl) ?_
   refine wl_nil (then_n ?_)
   refine wp_seq ?_
   refine wp_seq (wc_region ?_)
   refine wl_rn (rn_field fo29_0 rfl) ?_
   refine wl_rn (rn_field fo23_0 rfl) ?_
   refine wl_loadd H71 (i := 2) rfl (Lens.then lTNego_A lTAuto_State) (dInt .i64) ty3 rfl ?_
   refine wl_rn (rn_pure (.bool (decide (a0.A.State < 2))) rfl) ?_
   refine wl_nil (then_n ?_)
   rcases bcases (decide (a0.A.State < 2)) with hb73 | hb73
   ·replace hF := ifT hF hb73
    refine wc_true (vb hb73) ?_
    refine wp_seq (wc_region ?_)
    iterate 2 refine wl_rn (rn_pure (.bool r9) rfl) ?_
    rcases bcases r9 with hb74 | hb74
    ·replace hF := ifT hF hb74
     refine wl_yes rfl rfl rfl (vb hb74) ?_
     refine wl_load H71 (i := 0) rfl (Lens.id kTNego) ty29 rfl ?_
     intro v75 hv76
     refine wl_yes rfl rfl rfl (vb hb74) ?_
     refine wl_load H71 (i := 2) rfl (Lens.id kTNego) ty29 rfl ?_
     intro v77 hv78
     refine wl_yes rfl rfl rfl (vb hb74) ?_
     obtain ⟨r79, hr80, hF⟩ := bindS hF
     refine wl_call (vs := [v75, v77]) en22 rfl (portreeveref14_Same_ok hc hv76 hv78 H71 hr80) ?_
     rintro v85 w84 ⟨G81, hG82, rfl, H83⟩
     refine wl_rn (rn_pickT (.bool r79) (vb hb74) rfl) ?_
     refine wl_rn (rn_pure (.bool r79) rfl) ?_
     rcases bcases r79 with hb86 | hb86
     ·replace hF := ifT hF hb86
      refine wl_yes rfl rfl rfl (vb hb86) ?_
      refine wl_rn (rn_pure (.slice A61 r52.2.1.length c62) rfl) ?_
      refine wl_yes rfl rfl rfl (vb hb86) ?_
      refine wl_rn (rn_len sl35 rfl) ?_
      refine wl_yes rfl rfl rfl (vb hb86) ?_
      refine wl_rn (rn_pure (.bool ((r52.2.1.length : Int) == 0)) rfl) ?_
      refine wl_rn (rn_pickT (.bool ((r52.2.1.length : Int) == 0)) (vb hb86) rfl) ?_
      refine wl_rn (rn_pure (.bool ((r52.2.1.length : Int) == 0)) rfl) ?_
      refine wl_nil (then_n ?_)
      refine wp_ret ?_
      refine then_r ?_
      have hF := Option.some.inj hF
      subst hF
      exact ret_mk rfl (RV.tmp rfl RV.nil) ⟨_, (((hG12.trans hG44).trans hG55).trans hG82), rfl, (St.pick [(.box b67 29 (kTNego.at_ r52.1)), (.box b5 32 (kTPkt.at_ a1)), (.box b1 29 (kTNego.at_ a0))] [] [] H83 (by decide) rfl)⟩
     ·replace hF := ifF hF hb86
      iterate 3 refine wl_no rfl rfl rfl (vb hb86) ?_
      refine wl_rn (rn_pickF (.bool false) (vb hb86) rfl) ?_
      refine wl_rn (rn_pure (.bool false) rfl) ?_
      refine wl_nil (then_n ?_)
      refine wp_ret ?_
      refine then_r ?_
      have hF := Option.some.inj hF
      subst hF
      exact ret_mk rfl (RV.tmp rfl RV.nil) ⟨_, (((hG12.trans hG44).trans hG55).trans hG82), rfl, (St.pick [(.box b67 29 (kTNego.at_ r52.1)), (.box b5 32 (kTPkt.at_ a1)), (.box b1 29 (kTNego.at_ a0))] [] [] H83 (by decide) rfl)⟩
    ·replace hF := ifF hF hb74
     iterate 3 refine wl_no rfl rfl rfl (vb hb74) ?_
     refine wl_rn (rn_pickF (.bool false) (vb hb74) rfl) ?_
     refine wl_rn (rn_pure (.bool false) rfl) ?_
     iterate 3 refine wl_no rfl rfl rfl rfl ?_
     refine wl_rn (rn_pickF (.bool false) rfl rfl) ?_
     refine wl_rn (rn_pure (.bool false) rfl) ?_
     refine wl_nil (then_n ?_)
     refine wp_ret ?_
     refine then_r ?_
     have hF := Option.some.inj hF
     subst hF
     exact ret_mk rfl (RV.tmp rfl RV.nil) ⟨_, ((hG12.trans hG44).trans hG55), rfl, (St.pick [(.box b67 29 (kTNego.at_ r52.1)), (.box b5 32 (kTPkt.at_ a1)), (.box b1 29 (kTNego.at_ a0))] [] [] H71 (by decide) rfl)⟩
   ·replace hF := ifF hF hb73
    refine wc_false (vb hb73) ?_
    refine wp_skip ?_
    refine then_n ?_
    refine wp_seq ?_
    refine wc_anyS (f := 51) H71 mixed ?_
    intro w87 H88
    refine any_pf (by repeat (first | exact PF.base | apply PF.then_ | apply PF.blk)) ?_
    intro hPF hns
    rcases bcases r9 with hb89 | hb89
    ·replace hF := ifT hF hb89
     rcases bcases (r52.1.A.State == a0.A.State) with hb90 | hb90
     ·replace hF := ifT hF hb90
      rcases bcases ((r52.2.1.length : Int) == 1) with hb91 | hb91
      ·replace hF := ifT hF hb91
       obtain ⟨x92, hx93, hF⟩ := bindS hF
       rcases bcases (x92.Code == 7) with hb96 | hb96
       ·replace hF := ifT hF hb96
        obtain ⟨x97, hx98, hF⟩ := bindS hF
        rcases bcases ((x97.Data.length : Int) == (IntKind.i64.wrap (4 + (a1.Data.length : Int)))) with hb111 | hb111
        ·replace hF := ifT hF hb111
         obtain ⟨x112, hx113, hF⟩ := bindS hF
         obtain ⟨x121, hx122, hF⟩ := bindS hF
         rcases bcases (x121 == a1.Code) with hb125 | hb125
         ·replace hF := ifT hF hb125
          refine any_memo (fuel := 8) (m := 8796093022207) (fun a w => ∃ (T0 : Fr) (G1 : Ghost), a = mk 107 (upds T0 [(8, (.slice A64 r52.2.2.length c65)), (91, (.bool ((x97.Data.length : Int) == (IntKind.i64.wrap (4 + (a1.Data.length : Int)))))), (97, (.int .u8 x121)), (99, (.int .u8 a1.Code))]) ∧ GLe G54 G1 ∧ St c G1 w (σ)) ?_ ?_
          ·rintro a w ⟨T0, G181, rfl, hG179, H180⟩
           refine any_rnG 91 true (i := 43) (m' := 17592186044415) rfl (rn_pure (.bool (x121 == a1.Code)) rfl) (vb hb111) hPF hns ?_
           refine any_rn (i := 44) (m' := 35184372088831) rfl (rn_pickT (.bool (x121 == a1.Code)) (vb hb111) rfl) hPF hns ?_
           refine any_rn (i := 45) (m' := 70368744177663) rfl (rn_pure (.bool (x121 == a1.Code)) rfl) hPF hns ?_
           refine any_rnG 102 true (i := 46) (m' := 140737488355327) rfl (rn_pure (.slice A64 r52.2.2.length c65) rfl) (vb hb125) hPF hns ?_
           refine any_rnG 102 true (i := 47) (m' := 281474976710655) rfl (rn_len sl36 rfl) (vb hb125) hPF hns ?_
           refine any_rnG 102 true (i := 48) (m' := 562949953421311) rfl (rn_pure (.bool ((r52.2.2.length : Int) == 0)) rfl) (vb hb125) hPF hns ?_
           refine any_rn (i := 49) (m' := 1125899906842623) rfl (rn_pickT (.bool ((r52.2.2.length : Int) == 0)) (vb hb125) rfl) hPF hns ?_
           refine any_rn (i := 50) (m' := 2251799813685247) rfl (rn_pure (.bool ((r52.2.2.length : Int) == 0)) rfl) hPF hns ?_
           refine any_end ?_
           refine then_n ?_
           refine wp_ret ?_
           have hF := Option.some.inj hF
           subst hF
           exact ret_mk rfl (RV.tmp rfl RV.nil) ⟨_, (((hG12.trans hG44).trans hG55).trans hG179), rfl, H180⟩
          intro hM178
          refine any_memo (fuel := 9) (m := 7696581394431) (fun a w => ∃ (T0 : Fr) (G1 : Ghost) (a176 : Addr), a = mk 107 (upds T0 [(8, (.slice A64 r52.2.2.length c65)), (91, (.bool ((x97.Data.length : Int) == (IntKind.i64.wrap (4 + (a1.Data.length : Int)))))), (96, (.pointer (some a176))), (99, (.int .u8 a1.Code))]) ∧ GLe G54 G1 ∧ St c G1 w (σ) ∧ PtR kB G1 a176 x121) ?_ ?_
          ·rintro a w ⟨T0, G175, a176, rfl, hG173, H174, hp177⟩
           refine any_alls [40] ⟨any_ops (m' := 8796093022207) fun Q' hN => ?_, trivial⟩
           refine wl_yes rfl rfl rfl (vb hb111) ?_
           refine wl_loadpd H174 hp177 (dInt .u8) ty5 rfl ?_
           refine wl_nil (hN _ _ ?_)
           exact hM178 _ _ ⟨_, _, frame_eq [(8, (.slice A64 r52.2.2.length c65)), (91, (.bool ((x97.Data.length : Int) == (IntKind.i64.wrap (4 + (a1.Data.length : Int)))))), (97, (.int .u8 x121)), (99, (.int .u8 a1.Code))] ⟨rfl, rfl, rfl, rfl, trivial⟩, hG173, H174⟩
          intro hM172
          refine any_memo (fuel := 19) (m := 4294967295) (fun a w => ∃ (T0 : Fr) (G1 : Ghost), a = mk 107 (upds T0 [(3, (pt b5)), (7, (.slice A61 r52.2.1.length c62)), (8, (.slice A64 r52.2.2.length c65)), (79, (.bool (x92.Code == 7))), (84, (.int .i64 (x97.Data.length : Int))), (88, (.int .i64 (IntKind.i64.wrap (4 + (a1.Data.length : Int)))))]) ∧ GLe G54 G1 ∧ St c G1 w ((.box b5 32 (kTPkt.at_ a1)) :: σ)) ?_ ?_
          ·rintro a w ⟨T0, G157, rfl, hG155, H156⟩
           refine any_rnG 79 true (i := 32) (m' := 8589934591) rfl (rn_pure (.bool ((x97.Data.length : Int) == (IntKind.i64.wrap (4 + (a1.Data.length : Int))))) rfl) (vb hb96) hPF hns ?_
           refine any_rn (i := 33) (m' := 17179869183) rfl (rn_pickT (.bool ((x97.Data.length : Int) == (IntKind.i64.wrap (4 + (a1.Data.length : Int))))) (vb hb96) rfl) hPF hns ?_
           refine any_rn (i := 34) (m' := 34359738367) rfl (rn_pure (.bool ((x97.Data.length : Int) == (IntKind.i64.wrap (4 + (a1.Data.length : Int))))) rfl) hPF hns ?_
           refine any_rnG 91 true (i := 35) (m' := 68719476735) rfl (rn_pure (.slice A61 r52.2.1.length c62) rfl) (vb hb111) hPF hns ?_
           refine any_rnEG 91 true (i := 36) (m' := 137438953471) rfl (rn_index (hs63.mono hG155) sl35 ty32 rfl rfl hx113) (vb hb111) hPF hns ?_
           intro a182 hp183
           refine any_rnG 91 true (i := 37) (m' := 274877906943) rfl (rn_fieldp fo32_2 rfl) (vb hb111) hPF hns ?_
           refine any_rnG 91 true (i := 41) (m' := 2473901162495) rfl (rn_field fo32_0 rfl) (vb hb111) hPF hns ?_
           refine any_alls [38, 42] ⟨?_, ?_, trivial⟩
           ·refine any_ops (m' := 2748779069439) fun Q' hN => ?_
            refine wl_yes rfl rfl rfl (vb hb111) ?_
            refine wl_loadp H156 (hp183.lens lTPkt_Data) ty30 rfl ?_
            intro v184 hv185
            obtain ⟨A186, c187, rfl, hs188⟩ := slice_V hv185
            refine wl_nil (hN _ _ ?_)
            refine any_rnEG 91 true (i := 39) (m' := 3298534883327) rfl (rn_index hs188 sl30 ty5 rfl rfl hx122) (vb hb111) hPF hns ?_
            intro a189 hp190
            refine any_alls [40, 42] ⟨?_, ?_, trivial⟩
            ·refine any_ops (m' := 4398046511103) fun Q' hN => ?_
             refine wl_yes rfl rfl rfl (vb hb111) ?_
             refine wl_loadpd H156 hp190 (dInt .u8) ty5 rfl ?_
             refine wl_nil (hN _ _ ?_)
             refine any_alls [42] ⟨any_ops (m' := 8796093022207) fun Q' hN => ?_, trivial⟩
             refine wl_yes rfl rfl rfl (vb hb111) ?_
             refine wl_loadd H156 (i := 0) rfl lTPkt_Code (dInt .u8) ty5 rfl ?_
             refine wl_nil (hN _ _ ?_)
             exact hM178 _ _ ⟨_, _, frame_eq [(8, (.slice A64 r52.2.2.length c65)), (91, (.bool ((x97.Data.length : Int) == (IntKind.i64.wrap (4 + (a1.Data.length : Int)))))), (97, (.int .u8 x121)), (99, (.int .u8 a1.Code))] ⟨rfl, rfl, rfl, rfl, trivial⟩, hG155, (St.pick [(.box b5 32 (kTPkt.at_ a1))] [] [] H156 (by decide) rfl)⟩
            ·refine any_ops (m' := 7696581394431) fun Q' hN => ?_
             refine wl_yes rfl rfl rfl (vb hb111) ?_
             refine wl_loadd H156 (i := 0) rfl lTPkt_Code (dInt .u8) ty5 rfl ?_
             refine wl_nil (hN _ _ ?_)
             exact hM172 _ _ ⟨_, _, a189, frame_eq [(8, (.slice A64 r52.2.2.length c65)), (91, (.bool ((x97.Data.length : Int) == (IntKind.i64.wrap (4 + (a1.Data.length : Int)))))), (96, (.pointer (some a189))), (99, (.int .u8 a1.Code))] ⟨rfl, rfl, rfl, rfl, trivial⟩, hG155, (St.pick [(.box b5 32 (kTPkt.at_ a1))] [] [] H156 (by decide) rfl), hp190⟩
           ·refine any_ops (m' := 6871947673599) fun Q' hN => ?_
            refine wl_yes rfl rfl rfl (vb hb111) ?_
            refine wl_loadd H156 (i := 0) rfl lTPkt_Code (dInt .u8) ty5 rfl ?_
            refine wl_nil (hN _ _ ?_)
            refine any_alls [38] ⟨any_ops (m' := 7146825580543) fun Q' hN => ?_, trivial⟩
            refine wl_yes rfl rfl rfl (vb hb111) ?_
            refine wl_loadp H156 (hp183.lens lTPkt_Data) ty30 rfl ?_
            intro v191 hv192
            obtain ⟨A193, c194, rfl, hs195⟩ := slice_V hv192
            refine wl_nil (hN _ _ ?_)
            refine any_rnEG 91 true (i := 39) (m' := 7696581394431) rfl (rn_index hs195 sl30 ty5 rfl rfl hx122) (vb hb111) hPF hns ?_
            intro a196 hp197
            exact hM172 _ _ ⟨_, _, a196, frame_eq [(8, (.slice A64 r52.2.2.length c65)), (91, (.bool ((x97.Data.length : Int) == (IntKind.i64.wrap (4 + (a1.Data.length : Int)))))), (96, (.pointer (some a196))), (99, (.int .u8 a1.Code))] ⟨rfl, rfl, rfl, rfl, trivial⟩, hG155, (St.pick [(.box b5 32 (kTPkt.at_ a1))] [] [] H156 (by decide) rfl), hp197⟩
          intro hM154
          refine any_memo (fuel := 43) (m := 255) (fun a w => ∃ (T0 : Fr) (G1 : Ghost), a = mk 107 (upds T0 [(3, (pt b5)), (7, (.slice A61 r52.2.1.length c62)), (8, (.slice A64 r52.2.2.length c65)), (58, (.bool r9)), (61, (.int .i64 r52.1.A.State)), (64, (.int .i64 a0.A.State))]) ∧ GLe G54 G1 ∧ St c G1 w ((.box b5 32 (kTPkt.at_ a1)) :: σ)) ?_ ?_
          ·rintro a w ⟨T0, G129, rfl, hG127, H128⟩
           refine any_rnG 58 true (i := 8) (m' := 511) rfl (rn_pure (.bool (r52.1.A.State == a0.A.State)) rfl) (vb hb89) hPF hns ?_
           refine any_rn (i := 9) (m' := 1023) rfl (rn_pickT (.bool (r52.1.A.State == a0.A.State)) (vb hb89) rfl) hPF hns ?_
           refine any_rn (i := 10) (m' := 2047) rfl (rn_pure (.bool (r52.1.A.State == a0.A.State)) rfl) hPF hns ?_
           refine any_rnG 67 true (i := 11) (m' := 4095) rfl (rn_pure (.slice A61 r52.2.1.length c62) rfl) (vb hb90) hPF hns ?_
           refine any_rnG 67 true (i := 12) (m' := 8191) rfl (rn_len sl35 rfl) (vb hb90) hPF hns ?_
           refine any_rnG 67 true (i := 13) (m' := 16383) rfl (rn_pure (.bool ((r52.2.1.length : Int) == 1)) rfl) (vb hb90) hPF hns ?_
           refine any_rn (i := 14) (m' := 32767) rfl (rn_pickT (.bool ((r52.2.1.length : Int) == 1)) (vb hb90) rfl) hPF hns ?_
           refine any_rn (i := 15) (m' := 65535) rfl (rn_pure (.bool ((r52.2.1.length : Int) == 1)) rfl) hPF hns ?_
           refine any_rnG 72 true (i := 16) (m' := 131071) rfl (rn_pure (.slice A61 r52.2.1.length c62) rfl) (vb hb91) hPF hns ?_
           refine any_rnEG 72 true (i := 17) (m' := 262143) rfl (rn_index (hs63.mono hG127) sl35 ty32 rfl rfl hx93) (vb hb91) hPF hns ?_
           intro a198 hp199
           refine any_rnG 72 true (i := 18) (m' := 524287) rfl (rn_fieldp fo32_0 rfl) (vb hb91) hPF hns ?_
           refine any_alls [19] ⟨any_ops (m' := 1048575) fun Q' hN => ?_, trivial⟩
           refine wl_yes rfl rfl rfl (vb hb91) ?_
           refine wl_loadpd H128 (hp199.lens lTPkt_Code) (dInt .u8) ty5 rfl ?_
           refine wl_nil (hN _ _ ?_)
           refine any_rnG 72 true (i := 20) (m' := 2097151) rfl (rn_pure (.bool (x92.Code == 7)) rfl) (vb hb91) hPF hns ?_
           refine any_rn (i := 21) (m' := 4194303) rfl (rn_pickT (.bool (x92.Code == 7)) (vb hb91) rfl) hPF hns ?_
           refine any_rn (i := 22) (m' := 8388607) rfl (rn_pure (.bool (x92.Code == 7)) rfl) hPF hns ?_
           refine any_rnG 79 true (i := 23) (m' := 16777215) rfl (rn_pure (.slice A61 r52.2.1.length c62) rfl) (vb hb96) hPF hns ?_
           refine any_rnEG 79 true (i := 24) (m' := 33554431) rfl (rn_index (hs63.mono hG127) sl35 ty32 rfl rfl hx98) (vb hb96) hPF hns ?_
           intro a200 hp201
           refine any_rnG 79 true (i := 25) (m' := 67108863) rfl (rn_fieldp fo32_2 rfl) (vb hb96) hPF hns ?_
           refine any_rnG 79 true (i := 28) (m' := 335544319) rfl (rn_field fo32_2 rfl) (vb hb96) hPF hns ?_
           refine any_alls [26, 29] ⟨?_, ?_, trivial⟩
           ·refine any_ops (m' := 402653183) fun Q' hN => ?_
            refine wl_yes rfl rfl rfl (vb hb96) ?_
            refine wl_loadp H128 (hp201.lens lTPkt_Data) ty30 rfl ?_
            intro v202 hv203
            obtain ⟨A204, c205, rfl, hs206⟩ := slice_V hv203
            refine wl_nil (hN _ _ ?_)
            refine any_rnG 79 true (i := 27) (m' := 536870911) rfl (rn_len sl30 rfl) (vb hb96) hPF hns ?_
            refine any_alls [29] ⟨any_ops (m' := 1073741823) fun Q' hN => ?_, trivial⟩
            refine wl_yes rfl rfl rfl (vb hb96) ?_
            refine wl_load H128 (i := 0) rfl lTPkt_Data ty30 rfl ?_
            intro v207 hv208
            obtain ⟨A209, c210, rfl, hs211⟩ := slice_V hv208
            refine wl_nil (hN _ _ ?_)
            refine any_rnG 79 true (i := 30) (m' := 2147483647) rfl (rn_len sl30 rfl) (vb hb96) hPF hns ?_
            refine any_rnG 79 true (i := 31) (m' := 4294967295) rfl (rn_pure (.int .i64 (IntKind.i64.wrap (4 + (a1.Data.length : Int)))) rfl) (vb hb96) hPF hns ?_
            exact hM154 _ _ ⟨_, _, frame_eq [(3, (pt b5)), (7, (.slice A61 r52.2.1.length c62)), (8, (.slice A64 r52.2.2.length c65)), (79, (.bool (x92.Code == 7))), (84, (.int .i64 (x97.Data.length : Int))), (88, (.int .i64 (IntKind.i64.wrap (4 + (a1.Data.length : Int)))))] ⟨rfl, rfl, rfl, rfl, rfl, rfl, trivial⟩, hG127, H128⟩
           ·refine any_ops (m' := 872415231) fun Q' hN => ?_
            refine wl_yes rfl rfl rfl (vb hb96) ?_
            refine wl_load H128 (i := 0) rfl lTPkt_Data ty30 rfl ?_
            intro v212 hv213
            obtain ⟨A214, c215, rfl, hs216⟩ := slice_V hv213
            refine wl_nil (hN _ _ ?_)
            refine any_rnG 79 true (i := 30) (m' := 1946157055) rfl (rn_len sl30 rfl) (vb hb96) hPF hns ?_
            refine any_rnG 79 true (i := 31) (m' := 4093640703) rfl (rn_pure (.int .i64 (IntKind.i64.wrap (4 + (a1.Data.length : Int)))) rfl) (vb hb96) hPF hns ?_
            refine any_alls [26] ⟨any_ops (m' := 4160749567) fun Q' hN => ?_, trivial⟩
            refine wl_yes rfl rfl rfl (vb hb96) ?_
            refine wl_loadp H128 (hp201.lens lTPkt_Data) ty30 rfl ?_
            intro v217 hv218
            obtain ⟨A219, c220, rfl, hs221⟩ := slice_V hv218
            refine wl_nil (hN _ _ ?_)
            refine any_rnG 79 true (i := 27) (m' := 4294967295) rfl (rn_len sl30 rfl) (vb hb96) hPF hns ?_
            exact hM154 _ _ ⟨_, _, frame_eq [(3, (pt b5)), (7, (.slice A61 r52.2.1.length c62)), (8, (.slice A64 r52.2.2.length c65)), (79, (.bool (x92.Code == 7))), (84, (.int .i64 (x97.Data.length : Int))), (88, (.int .i64 (IntKind.i64.wrap (4 + (a1.Data.length : Int)))))] ⟨rfl, rfl, rfl, rfl, rfl, rfl, trivial⟩, hG127, H128⟩
          intro hM126
          refine any_rn (i := 0) (m' := 1) rfl (rn_pure (.bool r9) rfl) hPF hns ?_
          refine any_rn (i := 1) (m' := 3) rfl (rn_pure (.bool r9) rfl) hPF hns ?_
          refine any_rnG 58 true (i := 2) (m' := 7) rfl (rn_field fo29_0 rfl) (vb hb89) hPF hns ?_
          refine any_rnG 58 true (i := 3) (m' := 15) rfl (rn_field fo23_0 rfl) (vb hb89) hPF hns ?_
          refine any_rnG 58 true (i := 5) (m' := 47) rfl (rn_field fo29_0 rfl) (vb hb89) hPF hns ?_
          refine any_rnG 58 true (i := 6) (m' := 111) rfl (rn_field fo23_0 rfl) (vb hb89) hPF hns ?_
          refine any_alls [4, 7] ⟨?_, ?_, trivial⟩
          ·refine any_ops (m' := 127) fun Q' hN => ?_
           refine wl_yes rfl rfl rfl (vb hb89) ?_
           refine wl_loadd H88 (i := 0) rfl (Lens.then lTNego_A lTAuto_State) (dInt .i64) ty3 rfl ?_
           refine wl_nil (hN _ _ ?_)
           refine any_alls [7] ⟨any_ops (m' := 255) fun Q' hN => ?_, trivial⟩
           refine wl_yes rfl rfl rfl (vb hb89) ?_
           refine wl_loadd H88 (i := 2) rfl (Lens.then lTNego_A lTAuto_State) (dInt .i64) ty3 rfl ?_
           refine wl_nil (hN _ _ ?_)
           exact hM126 _ _ ⟨_, _, frame_eq [(3, (pt b5)), (7, (.slice A61 r52.2.1.length c62)), (8, (.slice A64 r52.2.2.length c65)), (58, (.bool r9)), (61, (.int .i64 r52.1.A.State)), (64, (.int .i64 a0.A.State))] ⟨rfl, rfl, rfl, rfl, rfl, rfl, trivial⟩, GLe.refl _, (St.pick [(.box b67 29 (kTNego.at_ r52.1)), (.box b5 32 (kTPkt.at_ a1)), (.box b1 29 (kTNego.at_ a0))] [(.box b5 32 (kTPkt.at_ a1))] [1] H88 (by decide) rfl)⟩
          ·refine any_ops (m' := 239) fun Q' hN => ?_
           refine wl_yes rfl rfl rfl (vb hb89) ?_
           refine wl_loadd H88 (i := 2) rfl (Lens.then lTNego_A lTAuto_State) (dInt .i64) ty3 rfl ?_
           refine wl_nil (hN _ _ ?_)
           refine any_alls [4] ⟨any_ops (m' := 255) fun Q' hN => ?_, trivial⟩
           refine wl_yes rfl rfl rfl (vb hb89) ?_
           refine wl_loadd H88 (i := 0) rfl (Lens.then lTNego_A lTAuto_State) (dInt .i64) ty3 rfl ?_
           refine wl_nil (hN _ _ ?_)
           exact hM126 _ _ ⟨_, _, frame_eq [(3, (pt b5)), (7, (.slice A61 r52.2.1.length c62)), (8, (.slice A64 r52.2.2.length c65)), (58, (.bool r9)), (61, (.int .i64 r52.1.A.State)), (64, (.int .i64 a0.A.State))] ⟨rfl, rfl, rfl, rfl, rfl, rfl, trivial⟩, GLe.refl _, (St.pick [(.box b67 29 (kTNego.at_ r52.1)), (.box b5 32 (kTPkt.at_ a1)), (.box b1 29 (kTNego.at_ a0))] [(.box b5 32 (kTPkt.at_ a1))] [1] H88 (by decide) rfl)⟩
         ·replace hF := ifF hF hb125
          refine any_memo (fuel := 8) (m := 8796093022207) (fun a w => ∃ (T0 : Fr) (G1 : Ghost), a = mk 107 (upds T0 [(8, (.slice A64 r52.2.2.length c65)), (91, (.bool ((x97.Data.length : Int) == (IntKind.i64.wrap (4 + (a1.Data.length : Int)))))), (97, (.int .u8 x121)), (99, (.int .u8 a1.Code))]) ∧ GLe G54 G1 ∧ St c G1 w (σ)) ?_ ?_
          ·rintro a w ⟨T0, G277, rfl, hG275, H276⟩
           refine any_rnG 91 true (i := 43) (m' := 17592186044415) rfl (rn_pure (.bool (x121 == a1.Code)) rfl) (vb hb111) hPF hns ?_
           refine any_rn (i := 44) (m' := 35184372088831) rfl (rn_pickT (.bool (x121 == a1.Code)) (vb hb111) rfl) hPF hns ?_
           refine any_rn (i := 45) (m' := 70368744177663) rfl (rn_pure (.bool (x121 == a1.Code)) rfl) hPF hns ?_
           refine any_offG (i := 46) (m' := 140737488355327) 102 true rfl (vb hb125) hPF hns ?_
           refine any_offG (i := 47) (m' := 281474976710655) 102 true rfl (vb hb125) hPF hns ?_
           refine any_offG (i := 48) (m' := 562949953421311) 102 true rfl (vb hb125) hPF hns ?_
           refine any_rn (i := 49) (m' := 1125899906842623) rfl (rn_pickF (.bool false) (vb hb125) rfl) hPF hns ?_
           refine any_rn (i := 50) (m' := 2251799813685247) rfl (rn_pure (.bool false) rfl) hPF hns ?_
           refine any_end ?_
           refine then_n ?_
           refine wp_ret ?_
           have hF := Option.some.inj hF
           subst hF
           exact ret_mk rfl (RV.tmp rfl RV.nil) ⟨_, (((hG12.trans hG44).trans hG55).trans hG275), rfl, H276⟩
          intro hM274
          refine any_memo (fuel := 9) (m := 7696581394431) (fun a w => ∃ (T0 : Fr) (G1 : Ghost) (a272 : Addr), a = mk 107 (upds T0 [(8, (.slice A64 r52.2.2.length c65)), (91, (.bool ((x97.Data.length : Int) == (IntKind.i64.wrap (4 + (a1.Data.length : Int)))))), (96, (.pointer (some a272))), (99, (.int .u8 a1.Code))]) ∧ GLe G54 G1 ∧ St c G1 w (σ) ∧ PtR kB G1 a272 x121) ?_ ?_
          ·rintro a w ⟨T0, G271, a272, rfl, hG269, H270, hp273⟩
           refine any_alls [40] ⟨any_ops (m' := 8796093022207) fun Q' hN => ?_, trivial⟩
           refine wl_yes rfl rfl rfl (vb hb111) ?_
           refine wl_loadpd H270 hp273 (dInt .u8) ty5 rfl ?_
           refine wl_nil (hN _ _ ?_)
           exact hM274 _ _ ⟨_, _, frame_eq [(8, (.slice A64 r52.2.2.length c65)), (91, (.bool ((x97.Data.length : Int) == (IntKind.i64.wrap (4 + (a1.Data.length : Int)))))), (97, (.int .u8 x121)), (99, (.int .u8 a1.Code))] ⟨rfl, rfl, rfl, rfl, trivial⟩, hG269, H270⟩
          intro hM268
          refine any_memo (fuel := 19) (m := 4294967295) (fun a w => ∃ (T0 : Fr) (G1 : Ghost), a = mk 107 (upds T0 [(3, (pt b5)), (7, (.slice A61 r52.2.1.length c62)), (8, (.slice A64 r52.2.2.length c65)), (79, (.bool (x92.Code == 7))), (84, (.int .i64 (x97.Data.length : Int))), (88, (.int .i64 (IntKind.i64.wrap (4 + (a1.Data.length : Int)))))]) ∧ GLe G54 G1 ∧ St c G1 w ((.box b5 32 (kTPkt.at_ a1)) :: σ)) ?_ ?_
          ·rintro a w ⟨T0, G253, rfl, hG251, H252⟩
           refine any_rnG 79 true (i := 32) (m' := 8589934591) rfl (rn_pure (.bool ((x97.Data.length : Int) == (IntKind.i64.wrap (4 + (a1.Data.length : Int))))) rfl) (vb hb96) hPF hns ?_
           refine any_rn (i := 33) (m' := 17179869183) rfl (rn_pickT (.bool ((x97.Data.length : Int) == (IntKind.i64.wrap (4 + (a1.Data.length : Int))))) (vb hb96) rfl) hPF hns ?_
           refine any_rn (i := 34) (m' := 34359738367) rfl (rn_pure (.bool ((x97.Data.length : Int) == (IntKind.i64.wrap (4 + (a1.Data.length : Int))))) rfl) hPF hns ?_
           refine any_rnG 91 true (i := 35) (m' := 68719476735) rfl (rn_pure (.slice A61 r52.2.1.length c62) rfl) (vb hb111) hPF hns ?_
           refine any_rnEG 91 true (i := 36) (m' := 137438953471) rfl (rn_index (hs63.mono hG251) sl35 ty32 rfl rfl hx113) (vb hb111) hPF hns ?_
           intro a278 hp279
           refine any_rnG 91 true (i := 37) (m' := 274877906943) rfl (rn_fieldp fo32_2 rfl) (vb hb111) hPF hns ?_
           refine any_rnG 91 true (i := 41) (m' := 2473901162495) rfl (rn_field fo32_0 rfl) (vb hb111) hPF hns ?_
           refine any_alls [38, 42] ⟨?_, ?_, trivial⟩
           ·refine any_ops (m' := 2748779069439) fun Q' hN => ?_
            refine wl_yes rfl rfl rfl (vb hb111) ?_
            refine wl_loadp H252 (hp279.lens lTPkt_Data) ty30 rfl ?_
            intro v280 hv281
            obtain ⟨A282, c283, rfl, hs284⟩ := slice_V hv281
            refine wl_nil (hN _ _ ?_)
            refine any_rnEG 91 true (i := 39) (m' := 3298534883327) rfl (rn_index hs284 sl30 ty5 rfl rfl hx122) (vb hb111) hPF hns ?_
            intro a285 hp286
            refine any_alls [40, 42] ⟨?_, ?_, trivial⟩
            ·refine any_ops (m' := 4398046511103) fun Q' hN => ?_
             refine wl_yes rfl rfl rfl (vb hb111) ?_
             refine wl_loadpd H252 hp286 (dInt .u8) ty5 rfl ?_
             refine wl_nil (hN _ _ ?_)
             refine any_alls [42] ⟨any_ops (m' := 8796093022207) fun Q' hN => ?_, trivial⟩
             refine wl_yes rfl rfl rfl (vb hb111) ?_
             refine wl_loadd H252 (i := 0) rfl lTPkt_Code (dInt .u8) ty5 rfl ?_
             refine wl_nil (hN _ _ ?_)
             exact hM274 _ _ ⟨_, _, frame_eq [(8, (.slice A64 r52.2.2.length c65)), (91, (.bool ((x97.Data.length : Int) == (IntKind.i64.wrap (4 + (a1.Data.length : Int)))))), (97, (.int .u8 x121)), (99, (.int .u8 a1.Code))] ⟨rfl, rfl, rfl, rfl, trivial⟩, hG251, (St.pick [(.box b5 32 (kTPkt.at_ a1))] [] [] H252 (by decide) rfl)⟩
            ·refine any_ops (m' := 7696581394431) fun Q' hN => ?_
             refine wl_yes rfl rfl rfl (vb hb111) ?_
             refine wl_loadd H252 (i := 0) rfl lTPkt_Code (dInt .u8) ty5 rfl ?_
             refine wl_nil (hN _ _ ?_)
             exact hM268 _ _ ⟨_, _, a285, frame_eq [(8, (.slice A64 r52.2.2.length c65)), (91, (.bool ((x97.Data.length : Int) == (IntKind.i64.wrap (4 + (a1.Data.length : Int)))))), (96, (.pointer (some a285))), (99, (.int .u8 a1.Code))] ⟨rfl, rfl, rfl, rfl, trivial⟩, hG251, (St.pick [(.box b5 32 (kTPkt.at_ a1))] [] [] H252 (by decide) rfl), hp286⟩
           ·refine any_ops (m' := 6871947673599) fun Q' hN => ?_
            refine wl_yes rfl rfl rfl (vb hb111) ?_
            refine wl_loadd H252 (i := 0) rfl lTPkt_Code (dInt .u8) ty5 rfl ?_
            refine wl_nil (hN _ _ ?_)
            refine any_alls [38] ⟨any_ops (m' := 7146825580543) fun Q' hN => ?_, trivial⟩
            refine wl_yes rfl rfl rfl (vb hb111) ?_
            refine wl_loadp H252 (hp279.lens lTPkt_Data) ty30 rfl ?_
            intro v287 hv288
            obtain ⟨A289, c290, rfl, hs291⟩ := slice_V hv288
            refine wl_nil (hN _ _ ?_)
            refine any_rnEG 91 true (i := 39) (m' := 7696581394431) rfl (rn_index hs291 sl30 ty5 rfl rfl hx122) (vb hb111) hPF hns ?_
            intro a292 hp293
            exact hM268 _ _ ⟨_, _, a292, frame_eq [(8, (.slice A64 r52.2.2.length c65)), (91, (.bool ((x97.Data.length : Int) == (IntKind.i64.wrap (4 + (a1.Data.length : Int)))))), (96, (.pointer (some a292))), (99, (.int .u8 a1.Code))] ⟨rfl, rfl, rfl, rfl, trivial⟩, hG251, (St.pick [(.box b5 32 (kTPkt.at_ a1))] [] [] H252 (by decide) rfl), hp293⟩
          intro hM250
          refine any_memo (fuel := 43) (m := 255) (fun a w => ∃ (T0 : Fr) (G1 : Ghost), a = mk 107 (upds T0 [(3, (pt b5)), (7, (.slice A61 r52.2.1.length c62)), (8, (.slice A64 r52.2.2.length c65)), (58, (.bool r9)), (61, (.int .i64 r52.1.A.State)), (64, (.int .i64 a0.A.State))]) ∧ GLe G54 G1 ∧ St c G1 w ((.box b5 32 (kTPkt.at_ a1)) :: σ)) ?_ ?_
          ·rintro a w ⟨T0, G225, rfl, hG223, H224⟩
           refine any_rnG 58 true (i := 8) (m' := 511) rfl (rn_pure (.bool (r52.1.A.State == a0.A.State)) rfl) (vb hb89) hPF hns ?_
           refine any_rn (i := 9) (m' := 1023) rfl (rn_pickT (.bool (r52.1.A.State == a0.A.State)) (vb hb89) rfl) hPF hns ?_
           refine any_rn (i := 10) (m' := 2047) rfl (rn_pure (.bool (r52.1.A.State == a0.A.State)) rfl) hPF hns ?_
           refine any_rnG 67 true (i := 11) (m' := 4095) rfl (rn_pure (.slice A61 r52.2.1.length c62) rfl) (vb hb90) hPF hns ?_
           refine any_rnG 67 true (i := 12) (m' := 8191) rfl (rn_len sl35 rfl) (vb hb90) hPF hns ?_
           refine any_rnG 67 true (i := 13) (m' := 16383) rfl (rn_pure (.bool ((r52.2.1.length : Int) == 1)) rfl) (vb hb90) hPF hns ?_
           refine any_rn (i := 14) (m' := 32767) rfl (rn_pickT (.bool ((r52.2.1.length : Int) == 1)) (vb hb90) rfl) hPF hns ?_
           refine any_rn (i := 15) (m' := 65535) rfl (rn_pure (.bool ((r52.2.1.length : Int) == 1)) rfl) hPF hns ?_
           refine any_rnG 72 true (i := 16) (m' := 131071) rfl (rn_pure (.slice A61 r52.2.1.length c62) rfl) (vb hb91) hPF hns ?_
           refine any_rnEG 72 true (i := 17) (m' := 262143) rfl (rn_index (hs63.mono hG223) sl35 ty32 rfl rfl hx93) (vb hb91) hPF hns ?_
           intro a294 hp295
           refine any_rnG 72 true (i := 18) (m' := 524287) rfl (rn_fieldp fo32_0 rfl) (vb hb91) hPF hns ?_
           refine any_alls [19] ⟨any_ops (m' := 1048575) fun Q' hN => ?_, trivial⟩
           refine wl_yes rfl rfl rfl (vb hb91) ?_
           refine wl_loadpd H224 (hp295.lens lTPkt_Code) (dInt .u8) ty5 rfl ?_
           refine wl_nil (hN _ _ ?_)
           refine any_rnG 72 true (i := 20) (m' := 2097151) rfl (rn_pure (.bool (x92.Code == 7)) rfl) (vb hb91) hPF hns ?_
           refine any_rn (i := 21) (m' := 4194303) rfl (rn_pickT (.bool (x92.Code == 7)) (vb hb91) rfl) hPF hns ?_
           refine any_rn (i := 22) (m' := 8388607) rfl (rn_pure (.bool (x92.Code == 7)) rfl) hPF hns ?_
           refine any_rnG 79 true (i := 23) (m' := 16777215) rfl (rn_pure (.slice A61 r52.2.1.length c62) rfl) (vb hb96) hPF hns ?_
           refine any_rnEG 79 true (i := 24) (m' := 33554431) rfl (rn_index (hs63.mono hG223) sl35 ty32 rfl rfl hx98) (vb hb96) hPF hns ?_
           intro a296 hp297
           refine any_rnG 79 true (i := 25) (m' := 67108863) rfl (rn_fieldp fo32_2 rfl) (vb hb96) hPF hns ?_
           refine any_rnG 79 true (i := 28) (m' := 335544319) rfl (rn_field fo32_2 rfl) (vb hb96) hPF hns ?_
           refine any_alls [26, 29] ⟨?_, ?_, trivial⟩
           ·refine any_ops (m' := 402653183) fun Q' hN => ?_
            refine wl_yes rfl rfl rfl (vb hb96) ?_
            refine wl_loadp H224 (hp297.lens lTPkt_Data) ty30 rfl ?_
            intro v298 hv299
            obtain ⟨A300, c301, rfl, hs302⟩ := slice_V hv299
            refine wl_nil (hN _ _ ?_)
            refine any_rnG 79 true (i := 27) (m' := 536870911) rfl (rn_len sl30 rfl) (vb hb96) hPF hns ?_
            refine any_alls [29] ⟨any_ops (m' := 1073741823) fun Q' hN => ?_, trivial⟩
            refine wl_yes rfl rfl rfl (vb hb96) ?_
            refine wl_load H224 (i := 0) rfl lTPkt_Data ty30 rfl ?_
            intro v303 hv304
            obtain ⟨A305, c306, rfl, hs307⟩ := slice_V hv304
            refine wl_nil (hN _ _ ?_)
            refine any_rnG 79 true (i := 30) (m' := 2147483647) rfl (rn_len sl30 rfl) (vb hb96) hPF hns ?_
            refine any_rnG 79 true (i := 31) (m' := 4294967295) rfl (rn_pure (.int .i64 (IntKind.i64.wrap (4 + (a1.Data.length : Int)))) rfl) (vb hb96) hPF hns ?_
            exact hM250 _ _ ⟨_, _, frame_eq [(3, (pt b5)), (7, (.slice A61 r52.2.1.length c62)), (8, (.slice A64 r52.2.2.length c65)), (79, (.bool (x92.Code == 7))), (84, (.int .i64 (x97.Data.length : Int))), (88, (.int .i64 (IntKind.i64.wrap (4 + (a1.Data.length : Int)))))] ⟨rfl, rfl, rfl, rfl, rfl, rfl, trivial⟩, hG223, H224⟩
           ·refine any_ops (m' := 872415231) fun Q' hN => ?_
            refine wl_yes rfl rfl rfl (vb hb96) ?_
            refine wl_load H224 (i := 0) rfl lTPkt_Data ty30 rfl ?_
            intro v308 hv309
            obtain ⟨A310, c311, rfl, hs312⟩ := slice_V hv309
            refine wl_nil (hN _ _ ?_)
            refine any_rnG 79 true (i := 30) (m' := 1946157055) rfl (rn_len sl30 rfl) (vb hb96) hPF hns ?_
            refine any_rnG 79 true (i := 31) (m' := 4093640703) rfl (rn_pure (.int .i64 (IntKind.i64.wrap (4 + (a1.Data.length : Int)))) rfl) (vb hb96) hPF hns ?_
            refine any_alls [26] ⟨any_ops (m' := 4160749567) fun Q' hN => ?_, trivial⟩
            refine wl_yes rfl rfl rfl (vb hb96) ?_
            refine wl_loadp H224 (hp297.lens lTPkt_Data) ty30 rfl ?_
            intro v313 hv314
            obtain ⟨A315, c316, rfl, hs317⟩ := slice_V hv314
            refine wl_nil (hN _ _ ?_)
            refine any_rnG 79 true (i := 27) (m' := 4294967295) rfl (rn_len sl30 rfl) (vb hb96) hPF hns ?_
            exact hM250 _ _ ⟨_, _, frame_eq [(3, (pt b5)), (7, (.slice A61 r52.2.1.length c62)), (8, (.slice A64 r52.2.2.length c65)), (79, (.bool (x92.Code == 7))), (84, (.int .i64 (x97.Data.length : Int))), (88, (.int .i64 (IntKind.i64.wrap (4 + (a1.Data.length : Int)))))] ⟨rfl, rfl, rfl, rfl, rfl, rfl, trivial⟩, hG223, H224⟩
          intro hM222
          refine any_rn (i := 0) (m' := 1) rfl (rn_pure (.bool r9) rfl) hPF hns ?_
          refine any_rn (i := 1) (m' := 3) rfl (rn_pure (.bool r9) rfl) hPF hns ?_
          refine any_rnG 58 true (i := 2) (m' := 7) rfl (rn_field fo29_0 rfl) (vb hb89) hPF hns ?_
          refine any_rnG 58 true (i := 3) (m' := 15) rfl (rn_field fo23_0 rfl) (vb hb89) hPF hns ?_
          refine any_rnG 58 true (i := 5) (m' := 47) rfl (rn_field fo29_0 rfl) (vb hb89) hPF hns ?_
          refine any_rnG 58 true (i := 6) (m' := 111) rfl (rn_field fo23_0 rfl) (vb hb89) hPF hns ?_
          refine any_alls [4, 7] ⟨?_, ?_, trivial⟩
          ·refine any_ops (m' := 127) fun Q' hN => ?_
           refine wl_yes rfl rfl rfl (vb hb89) ?_
           refine wl_loadd H88 (i := 0) rfl (Lens.then lTNego_A lTAuto_State) (dInt .i64) ty3 rfl ?_
           refine wl_nil (hN _ _ ?_)
           refine any_alls [7] ⟨any_ops (m' := 255) fun Q' hN => ?_, trivial⟩
           refine wl_yes rfl rfl rfl (vb hb89) ?_
           refine wl_loadd H88 (i := 2) rfl (Lens.then lTNego_A lTAuto_State) (dInt .i64) ty3 rfl ?_
           refine wl_nil (hN _ _ ?_)
           exact hM222 _ _ ⟨_, _, frame_eq [(3, (pt b5)), (7, (.slice A61 r52.2.1.length c62)), (8, (.slice A64 r52.2.2.length c65)), (58, (.bool r9)), (61, (.int .i64 r52.1.A.State)), (64, (.int .i64 a0.A.State))] ⟨rfl, rfl, rfl, rfl, rfl, rfl, trivial⟩, GLe.refl _, (St.pick [(.box b67 29 (kTNego.at_ r52.1)), (.box b5 32 (kTPkt.at_ a1)), (.box b1 29 (kTNego.at_ a0))] [(.box b5 32 (kTPkt.at_ a1))] [1] H88 (by decide) rfl)⟩
          ·refine any_ops (m' := 239) fun Q' hN => ?_
           refine wl_yes rfl rfl rfl (vb hb89) ?_
           refine wl_loadd H88 (i := 2) rfl (Lens.then lTNego_A lTAuto_State) (dInt .i64) ty3 rfl ?_
           refine wl_nil (hN _ _ ?_)
           refine any_alls [4] ⟨any_ops (m' := 255) fun Q' hN => ?_, trivial⟩
           refine wl_yes rfl rfl rfl (vb hb89) ?_
           refine wl_loadd H88 (i := 0) rfl (Lens.then lTNego_A lTAuto_State) (dInt .i64) ty3 rfl ?_
           refine wl_nil (hN _ _ ?_)
           exact hM222 _ _ ⟨_, _, frame_eq [(3, (pt b5)), (7, (.slice A61 r52.2.1.length c62)), (8, (.slice A64 r52.2.2.length c65)), (58, (.bool r9)), (61, (.int .i64 r52.1.A.State)), (64, (.int .i64 a0.A.State))] ⟨rfl, rfl, rfl, rfl, rfl, rfl, trivial⟩, GLe.refl _, (St.pick [(.box b67 29 (kTNego.at_ r52.1)), (.box b5 32 (kTPkt.at_ a1)), (.box b1 29 (kTNego.at_ a0))] [(.box b5 32 (kTPkt.at_ a1))] [1] H88 (by decide) rfl)⟩
        ·replace hF := ifF hF hb111
         refine any_memo (fuel := 19) (m := 4294967295) (fun a w => ∃ (T0 : Fr) (G1 : Ghost), a = mk 107 (upds T0 [(3, (pt b5)), (7, (.slice A61 r52.2.1.length c62)), (8, (.slice A64 r52.2.2.length c65)), (79, (.bool (x92.Code == 7))), (84, (.int .i64 (x97.Data.length : Int))), (88, (.int .i64 (IntKind.i64.wrap (4 + (a1.Data.length : Int)))))]) ∧ GLe G54 G1 ∧ St c G1 w ((.box b5 32 (kTPkt.at_ a1)) :: σ)) ?_ ?_
         ·rintro a w ⟨T0, G349, rfl, hG347, H348⟩
          refine any_rnG 79 true (i := 32) (m' := 8589934591) rfl (rn_pure (.bool ((x97.Data.length : Int) == (IntKind.i64.wrap (4 + (a1.Data.length : Int))))) rfl) (vb hb96) hPF hns ?_
          refine any_rn (i := 33) (m' := 17179869183) rfl (rn_pickT (.bool ((x97.Data.length : Int) == (IntKind.i64.wrap (4 + (a1.Data.length : Int))))) (vb hb96) rfl) hPF hns ?_
          refine any_rn (i := 34) (m' := 34359738367) rfl (rn_pure (.bool ((x97.Data.length : Int) == (IntKind.i64.wrap (4 + (a1.Data.length : Int))))) rfl) hPF hns ?_
          refine any_offG (i := 35) (m' := 68719476735) 91 true rfl (vb hb111) hPF hns ?_
          refine any_offG (i := 36) (m' := 137438953471) 91 true rfl (vb hb111) hPF hns ?_
          refine any_offG (i := 37) (m' := 274877906943) 91 true rfl (vb hb111) hPF hns ?_
          refine any_offG (i := 38) (m' := 549755813887) 91 true rfl (vb hb111) hPF hns ?_
          refine any_offG (i := 39) (m' := 1099511627775) 91 true rfl (vb hb111) hPF hns ?_
          refine any_offG (i := 40) (m' := 2199023255551) 91 true rfl (vb hb111) hPF hns ?_
          refine any_offG (i := 41) (m' := 4398046511103) 91 true rfl (vb hb111) hPF hns ?_
          refine any_offG (i := 42) (m' := 8796093022207) 91 true rfl (vb hb111) hPF hns ?_
          refine any_offG (i := 43) (m' := 17592186044415) 91 true rfl (vb hb111) hPF hns ?_
          refine any_rn (i := 44) (m' := 35184372088831) rfl (rn_pickF (.bool false) (vb hb111) rfl) hPF hns ?_
          refine any_rn (i := 45) (m' := 70368744177663) rfl (rn_pure (.bool false) rfl) hPF hns ?_
          refine any_offG (i := 46) (m' := 140737488355327) 102 true rfl rfl hPF hns ?_
          refine any_offG (i := 47) (m' := 281474976710655) 102 true rfl rfl hPF hns ?_
          refine any_offG (i := 48) (m' := 562949953421311) 102 true rfl rfl hPF hns ?_
          refine any_rn (i := 49) (m' := 1125899906842623) rfl (rn_pickF (.bool false) rfl rfl) hPF hns ?_
          refine any_rn (i := 50) (m' := 2251799813685247) rfl (rn_pure (.bool false) rfl) hPF hns ?_
          refine any_end ?_
          refine then_n ?_
          refine wp_ret ?_
          have hF := Option.some.inj hF
          subst hF
          exact ret_mk rfl (RV.tmp rfl RV.nil) ⟨_, (((hG12.trans hG44).trans hG55).trans hG347), rfl, (St.pick [(.box b5 32 (kTPkt.at_ a1))] [] [] H348 (by decide) rfl)⟩
         intro hM346
         refine any_memo (fuel := 43) (m := 255) (fun a w => ∃ (T0 : Fr) (G1 : Ghost), a = mk 107 (upds T0 [(3, (pt b5)), (7, (.slice A61 r52.2.1.length c62)), (8, (.slice A64 r52.2.2.length c65)), (58, (.bool r9)), (61, (.int .i64 r52.1.A.State)), (64, (.int .i64 a0.A.State))]) ∧ GLe G54 G1 ∧ St c G1 w ((.box b5 32 (kTPkt.at_ a1)) :: σ)) ?_ ?_
         ·rintro a w ⟨T0, G321, rfl, hG319, H320⟩
          refine any_rnG 58 true (i := 8) (m' := 511) rfl (rn_pure (.bool (r52.1.A.State == a0.A.State)) rfl) (vb hb89) hPF hns ?_
          refine any_rn (i := 9) (m' := 1023) rfl (rn_pickT (.bool (r52.1.A.State == a0.A.State)) (vb hb89) rfl) hPF hns ?_
          refine any_rn (i := 10) (m' := 2047) rfl (rn_pure (.bool (r52.1.A.State == a0.A.State)) rfl) hPF hns ?_
          refine any_rnG 67 true (i := 11) (m' := 4095) rfl (rn_pure (.slice A61 r52.2.1.length c62) rfl) (vb hb90) hPF hns ?_
          refine any_rnG 67 true (i := 12) (m' := 8191) rfl (rn_len sl35 rfl) (vb hb90) hPF hns ?_
          refine any_rnG 67 true (i := 13) (m' := 16383) rfl (rn_pure (.bool ((r52.2.1.length : Int) == 1)) rfl) (vb hb90) hPF hns ?_
          refine any_rn (i := 14) (m' := 32767) rfl (rn_pickT (.bool ((r52.2.1.length : Int) == 1)) (vb hb90) rfl) hPF hns ?_
          refine any_rn (i := 15) (m' := 65535) rfl (rn_pure (.bool ((r52.2.1.length : Int) == 1)) rfl) hPF hns ?_
          refine any_rnG 72 true (i := 16) (m' := 131071) rfl (rn_pure (.slice A61 r52.2.1.length c62) rfl) (vb hb91) hPF hns ?_
          refine any_rnEG 72 true (i := 17) (m' := 262143) rfl (rn_index (hs63.mono hG319) sl35 ty32 rfl rfl hx93) (vb hb91) hPF hns ?_
          intro a350 hp351
          refine any_rnG 72 true (i := 18) (m' := 524287) rfl (rn_fieldp fo32_0 rfl) (vb hb91) hPF hns ?_
          refine any_alls [19] ⟨any_ops (m' := 1048575) fun Q' hN => ?_, trivial⟩
          refine wl_yes rfl rfl rfl (vb hb91) ?_
          refine wl_loadpd H320 (hp351.lens lTPkt_Code) (dInt .u8) ty5 rfl ?_
          refine wl_nil (hN _ _ ?_)
          refine any_rnG 72 true (i := 20) (m' := 2097151) rfl (rn_pure (.bool (x92.Code == 7)) rfl) (vb hb91) hPF hns ?_
          refine any_rn (i := 21) (m' := 4194303) rfl (rn_pickT (.bool (x92.Code == 7)) (vb hb91) rfl) hPF hns ?_
          refine any_rn (i := 22) (m' := 8388607) rfl (rn_pure (.bool (x92.Code == 7)) rfl) hPF hns ?_
          refine any_rnG 79 true (i := 23) (m' := 16777215) rfl (rn_pure (.slice A61 r52.2.1.length c62) rfl) (vb hb96) hPF hns ?_
          refine any_rnEG 79 true (i := 24) (m' := 33554431) rfl (rn_index (hs63.mono hG319) sl35 ty32 rfl rfl hx98) (vb hb96) hPF hns ?_
          intro a352 hp353
          refine any_rnG 79 true (i := 25) (m' := 67108863) rfl (rn_fieldp fo32_2 rfl) (vb hb96) hPF hns ?_
          refine any_rnG 79 true (i := 28) (m' := 335544319) rfl (rn_field fo32_2 rfl) (vb hb96) hPF hns ?_
          refine any_alls [26, 29] ⟨?_, ?_, trivial⟩
          ·refine any_ops (m' := 402653183) fun Q' hN => ?_
           refine wl_yes rfl rfl rfl (vb hb96) ?_
           refine wl_loadp H320 (hp353.lens lTPkt_Data) ty30 rfl ?_
           intro v354 hv355
           obtain ⟨A356, c357, rfl, hs358⟩ := slice_V hv355
           refine wl_nil (hN _ _ ?_)
           refine any_rnG 79 true (i := 27) (m' := 536870911) rfl (rn_len sl30 rfl) (vb hb96) hPF hns ?_
           refine any_alls [29] ⟨any_ops (m' := 1073741823) fun Q' hN => ?_, trivial⟩
           refine wl_yes rfl rfl rfl (vb hb96) ?_
           refine wl_load H320 (i := 0) rfl lTPkt_Data ty30 rfl ?_
           intro v359 hv360
           obtain ⟨A361, c362, rfl, hs363⟩ := slice_V hv360
           refine wl_nil (hN _ _ ?_)
           refine any_rnG 79 true (i := 30) (m' := 2147483647) rfl (rn_len sl30 rfl) (vb hb96) hPF hns ?_
           refine any_rnG 79 true (i := 31) (m' := 4294967295) rfl (rn_pure (.int .i64 (IntKind.i64.wrap (4 + (a1.Data.length : Int)))) rfl) (vb hb96) hPF hns ?_
           exact hM346 _ _ ⟨_, _, frame_eq [(3, (pt b5)), (7, (.slice A61 r52.2.1.length c62)), (8, (.slice A64 r52.2.2.length c65)), (79, (.bool (x92.Code == 7))), (84, (.int .i64 (x97.Data.length : Int))), (88, (.int .i64 (IntKind.i64.wrap (4 + (a1.Data.length : Int)))))] ⟨rfl, rfl, rfl, rfl, rfl, rfl, trivial⟩, hG319, H320⟩
          ·refine any_ops (m' := 872415231) fun Q' hN => ?_
           refine wl_yes rfl rfl rfl (vb hb96) ?_
           refine wl_load H320 (i := 0) rfl lTPkt_Data ty30 rfl ?_
           intro v364 hv365
           obtain ⟨A366, c367, rfl, hs368⟩ := slice_V hv365
           refine wl_nil (hN _ _ ?_)
           refine any_rnG 79 true (i := 30) (m' := 1946157055) rfl (rn_len sl30 rfl) (vb hb96) hPF hns ?_
           refine any_rnG 79 true (i := 31) (m' := 4093640703) rfl (rn_pure (.int .i64 (IntKind.i64.wrap (4 + (a1.Data.length : Int)))) rfl) (vb hb96) hPF hns ?_
           refine any_alls [26] ⟨any_ops (m' := 4160749567) fun Q' hN => ?_, trivial⟩
           refine wl_yes rfl rfl rfl (vb hb96) ?_
           refine wl_loadp H320 (hp353.lens lTPkt_Data) ty30 rfl ?_
           intro v369 hv370
           obtain ⟨A371, c372, rfl, hs373⟩ := slice_V hv370
           refine wl_nil (hN _ _ ?_)
           refine any_rnG 79 true (i := 27) (m' := 4294967295) rfl (rn_len sl30 rfl) (vb hb96) hPF hns ?_
           exact hM346 _ _ ⟨_, _, frame_eq [(3, (pt b5)), (7, (.slice A61 r52.2.1.length c62)), (8, (.slice A64 r52.2.2.length c65)), (79, (.bool (x92.Code == 7))), (84, (.int .i64 (x97.Data.length : Int))), (88, (.int .i64 (IntKind.i64.wrap (4 + (a1.Data.length : Int)))))] ⟨rfl, rfl, rfl, rfl, rfl, rfl, trivial⟩, hG319, H320⟩
         intro hM318
         refine any_rn (i := 0) (m' := 1) rfl (rn_pure (.bool r9) rfl) hPF hns ?_
         refine any_rn (i := 1) (m' := 3) rfl (rn_pure (.bool r9) rfl) hPF hns ?_
         refine any_rnG 58 true (i := 2) (m' := 7) rfl (rn_field fo29_0 rfl) (vb hb89) hPF hns ?_
         refine any_rnG 58 true (i := 3) (m' := 15) rfl (rn_field fo23_0 rfl) (vb hb89) hPF hns ?_
         refine any_rnG 58 true (i := 5) (m' := 47) rfl (rn_field fo29_0 rfl) (vb hb89) hPF hns ?_
         refine any_rnG 58 true (i := 6) (m' := 111) rfl (rn_field fo23_0 rfl) (vb hb89) hPF hns ?_
         refine any_alls [4, 7] ⟨?_, ?_, trivial⟩
         ·refine any_ops (m' := 127) fun Q' hN => ?_
          refine wl_yes rfl rfl rfl (vb hb89) ?_
          refine wl_loadd H88 (i := 0) rfl (Lens.then lTNego_A lTAuto_State) (dInt .i64) ty3 rfl ?_
          refine wl_nil (hN _ _ ?_)
          refine any_alls [7] ⟨any_ops (m' := 255) fun Q' hN => ?_, trivial⟩
          refine wl_yes rfl rfl rfl (vb hb89) ?_
          refine wl_loadd H88 (i := 2) rfl (Lens.then lTNego_A lTAuto_State) (dInt .i64) ty3 rfl ?_
          refine wl_nil (hN _ _ ?_)
          exact hM318 _ _ ⟨_, _, frame_eq [(3, (pt b5)), (7, (.slice A61 r52.2.1.length c62)), (8, (.slice A64 r52.2.2.length c65)), (58, (.bool r9)), (61, (.int .i64 r52.1.A.State)), (64, (.int .i64 a0.A.State))] ⟨rfl, rfl, rfl, rfl, rfl, rfl, trivial⟩, GLe.refl _, (St.pick [(.box b67 29 (kTNego.at_ r52.1)), (.box b5 32 (kTPkt.at_ a1)), (.box b1 29 (kTNego.at_ a0))] [(.box b5 32 (kTPkt.at_ a1))] [1] H88 (by decide) rfl)⟩
         ·refine any_ops (m' := 239) fun Q' hN => ?_
          refine wl_yes rfl rfl rfl (vb hb89) ?_
          refine wl_loadd H88 (i := 2) rfl (Lens.then lTNego_A lTAuto_State) (dInt .i64) ty3 rfl ?_
          refine wl_nil (hN _ _ ?_)
          refine any_alls [4] ⟨any_ops (m' := 255) fun Q' hN => ?_, trivial⟩
          refine wl_yes rfl rfl rfl (vb hb89) ?_
          refine wl_loadd H88 (i := 0) rfl (Lens.then lTNego_A lTAuto_State) (dInt .i64) ty3 rfl ?_
          refine wl_nil (hN _ _ ?_)
          exact hM318 _ _ ⟨_, _, frame_eq [(3, (pt b5)), (7, (.slice A61 r52.2.1.length c62)), (8, (.slice A64 r52.2.2.length c65)), (58, (.bool r9)), (61, (.int .i64 r52.1.A.State)), (64, (.int .i64 a0.A.State))] ⟨rfl, rfl, rfl, rfl, rfl, rfl, trivial⟩, GLe.refl _, (St.pick [(.box b67 29 (kTNego.at_ r52.1)), (.box b5 32 (kTPkt.at_ a1)), (.box b1 29 (kTNego.at_ a0))] [(.box b5 32 (kTPkt.at_ a1))] [1] H88 (by decide) rfl)⟩
       ·replace hF := ifF hF hb96
        refine any_memo (fuel := 43) (m := 255) (fun a w => ∃ (T0 : Fr) (G1 : Ghost), a = mk 107 (upds T0 [(3, (pt b5)), (7, (.slice A61 r52.2.1.length c62)), (8, (.slice A64 r52.2.2.length c65)), (58, (.bool r9)), (61, (.int .i64 r52.1.A.State)), (64, (.int .i64 a0.A.State))]) ∧ GLe G54 G1 ∧ St c G1 w ((.box b5 32 (kTPkt.at_ a1)) :: σ)) ?_ ?_
        ·rintro a w ⟨T0, G377, rfl, hG375, H376⟩
         refine any_rnG 58 true (i := 8) (m' := 511) rfl (rn_pure (.bool (r52.1.A.State == a0.A.State)) rfl) (vb hb89) hPF hns ?_
         refine any_rn (i := 9) (m' := 1023) rfl (rn_pickT (.bool (r52.1.A.State == a0.A.State)) (vb hb89) rfl) hPF hns ?_
         refine any_rn (i := 10) (m' := 2047) rfl (rn_pure (.bool (r52.1.A.State == a0.A.State)) rfl) hPF hns ?_
         refine any_rnG 67 true (i := 11) (m' := 4095) rfl (rn_pure (.slice A61 r52.2.1.length c62) rfl) (vb hb90) hPF hns ?_
         refine any_rnG 67 true (i := 12) (m' := 8191) rfl (rn_len sl35 rfl) (vb hb90) hPF hns ?_
         refine any_rnG 67 true (i := 13) (m' := 16383) rfl (rn_pure (.bool ((r52.2.1.length : Int) == 1)) rfl) (vb hb90) hPF hns ?_
         refine any_rn (i := 14) (m' := 32767) rfl (rn_pickT (.bool ((r52.2.1.length : Int) == 1)) (vb hb90) rfl) hPF hns ?_
         refine any_rn (i := 15) (m' := 65535) rfl (rn_pure (.bool ((r52.2.1.length : Int) == 1)) rfl) hPF hns ?_
         refine any_rnG 72 true (i := 16) (m' := 131071) rfl (rn_pure (.slice A61 r52.2.1.length c62) rfl) (vb hb91) hPF hns ?_
         refine any_rnEG 72 true (i := 17) (m' := 262143) rfl (rn_index (hs63.mono hG375) sl35 ty32 rfl rfl hx93) (vb hb91) hPF hns ?_
         intro a380 hp381
         refine any_rnG 72 true (i := 18) (m' := 524287) rfl (rn_fieldp fo32_0 rfl) (vb hb91) hPF hns ?_
         refine any_alls [19] ⟨any_ops (m' := 1048575) fun Q' hN => ?_, trivial⟩
         refine wl_yes rfl rfl rfl (vb hb91) ?_
         refine wl_loadpd H376 (hp381.lens lTPkt_Code) (dInt .u8) ty5 rfl ?_
         refine wl_nil (hN _ _ ?_)
         refine any_rnG 72 true (i := 20) (m' := 2097151) rfl (rn_pure (.bool (x92.Code == 7)) rfl) (vb hb91) hPF hns ?_
         refine any_rn (i := 21) (m' := 4194303) rfl (rn_pickT (.bool (x92.Code == 7)) (vb hb91) rfl) hPF hns ?_
         refine any_rn (i := 22) (m' := 8388607) rfl (rn_pure (.bool (x92.Code == 7)) rfl) hPF hns ?_
         refine any_offG (i := 23) (m' := 16777215) 79 true rfl (vb hb96) hPF hns ?_
         refine any_offG (i := 24) (m' := 33554431) 79 true rfl (vb hb96) hPF hns ?_
         refine any_offG (i := 25) (m' := 67108863) 79 true rfl (vb hb96) hPF hns ?_
         refine any_offG (i := 26) (m' := 134217727) 79 true rfl (vb hb96) hPF hns ?_
         refine any_offG (i := 27) (m' := 268435455) 79 true rfl (vb hb96) hPF hns ?_
         refine any_offG (i := 28) (m' := 536870911) 79 true rfl (vb hb96) hPF hns ?_
         refine any_offG (i := 29) (m' := 1073741823) 79 true rfl (vb hb96) hPF hns ?_
         refine any_offG (i := 30) (m' := 2147483647) 79 true rfl (vb hb96) hPF hns ?_
         refine any_offG (i := 31) (m' := 4294967295) 79 true rfl (vb hb96) hPF hns ?_
         refine any_offG (i := 32) (m' := 8589934591) 79 true rfl (vb hb96) hPF hns ?_
         refine any_rn (i := 33) (m' := 17179869183) rfl (rn_pickF (.bool false) (vb hb96) rfl) hPF hns ?_
         refine any_rn (i := 34) (m' := 34359738367) rfl (rn_pure (.bool false) rfl) hPF hns ?_
         refine any_offG (i := 35) (m' := 68719476735) 91 true rfl rfl hPF hns ?_
         refine any_offG (i := 36) (m' := 137438953471) 91 true rfl rfl hPF hns ?_
         refine any_offG (i := 37) (m' := 274877906943) 91 true rfl rfl hPF hns ?_
         refine any_offG (i := 38) (m' := 549755813887) 91 true rfl rfl hPF hns ?_
         refine any_offG (i := 39) (m' := 1099511627775) 91 true rfl rfl hPF hns ?_
         refine any_offG (i := 40) (m' := 2199023255551) 91 true rfl rfl hPF hns ?_
         refine any_offG (i := 41) (m' := 4398046511103) 91 true rfl rfl hPF hns ?_
         refine any_offG (i := 42) (m' := 8796093022207) 91 true rfl rfl hPF hns ?_
         refine any_offG (i := 43) (m' := 17592186044415) 91 true rfl rfl hPF hns ?_
         refine any_rn (i := 44) (m' := 35184372088831) rfl (rn_pickF (.bool false) rfl rfl) hPF hns ?_
         refine any_rn (i := 45) (m' := 70368744177663) rfl (rn_pure (.bool false) rfl) hPF hns ?_
         refine any_offG (i := 46) (m' := 140737488355327) 102 true rfl rfl hPF hns ?_
         refine any_offG (i := 47) (m' := 281474976710655) 102 true rfl rfl hPF hns ?_
         refine any_offG (i := 48) (m' := 562949953421311) 102 true rfl rfl hPF hns ?_
         refine any_rn (i := 49) (m' := 1125899906842623) rfl (rn_pickF (.bool false) rfl rfl) hPF hns ?_
         refine any_rn (i := 50) (m' := 2251799813685247) rfl (rn_pure (.bool false) rfl) hPF hns ?_
         refine any_end ?_
         refine then_n ?_
         refine wp_ret ?_
         have hF := Option.some.inj hF
         subst hF
         exact ret_mk rfl (RV.tmp rfl RV.nil) ⟨_, (((hG12.trans hG44).trans hG55).trans hG375), rfl, (St.pick [(.box b5 32 (kTPkt.at_ a1))] [] [] H376 (by decide) rfl)⟩
        intro hM374
        refine any_rn (i := 0) (m' := 1) rfl (rn_pure (.bool r9) rfl) hPF hns ?_
        refine any_rn (i := 1) (m' := 3) rfl (rn_pure (.bool r9) rfl) hPF hns ?_
        refine any_rnG 58 true (i := 2) (m' := 7) rfl (rn_field fo29_0 rfl) (vb hb89) hPF hns ?_
        refine any_rnG 58 true (i := 3) (m' := 15) rfl (rn_field fo23_0 rfl) (vb hb89) hPF hns ?_
        refine any_rnG 58 true (i := 5) (m' := 47) rfl (rn_field fo29_0 rfl) (vb hb89) hPF hns ?_
        refine any_rnG 58 true (i := 6) (m' := 111) rfl (rn_field fo23_0 rfl) (vb hb89) hPF hns ?_
        refine any_alls [4, 7] ⟨?_, ?_, trivial⟩
        ·refine any_ops (m' := 127) fun Q' hN => ?_
         refine wl_yes rfl rfl rfl (vb hb89) ?_
         refine wl_loadd H88 (i := 0) rfl (Lens.then lTNego_A lTAuto_State) (dInt .i64) ty3 rfl ?_
         refine wl_nil (hN _ _ ?_)
         refine any_alls [7] ⟨any_ops (m' := 255) fun Q' hN => ?_, trivial⟩
         refine wl_yes rfl rfl rfl (vb hb89) ?_
         refine wl_loadd H88 (i := 2) rfl (Lens.then lTNego_A lTAuto_State) (dInt .i64) ty3 rfl ?_
         refine wl_nil (hN _ _ ?_)
         exact hM374 _ _ ⟨_, _, frame_eq [(3, (pt b5)), (7, (.slice A61 r52.2.1.length c62)), (8, (.slice A64 r52.2.2.length c65)), (58, (.bool r9)), (61, (.int .i64 r52.1.A.State)), (64, (.int .i64 a0.A.State))] ⟨rfl, rfl, rfl, rfl, rfl, rfl, trivial⟩, GLe.refl _, (St.pick [(.box b67 29 (kTNego.at_ r52.1)), (.box b5 32 (kTPkt.at_ a1)), (.box b1 29 (kTNego.at_ a0))] [(.box b5 32 (kTPkt.at_ a1))] [1] H88 (by decide) rfl)⟩
        ·refine any_ops (m' := 239) fun Q' hN => ?_
         refine wl_yes rfl rfl rfl (vb hb89) ?_
         refine wl_loadd H88 (i := 2) rfl (Lens.then lTNego_A lTAuto_State) (dInt .i64) ty3 rfl ?_
         refine wl_nil (hN _ _ ?_)
         refine any_alls [4] ⟨any_ops (m' := 255) fun Q' hN => ?_, trivial⟩
         refine wl_yes rfl rfl rfl (vb hb89) ?_
         refine wl_loadd H88 (i := 0) rfl (Lens.then lTNego_A lTAuto_State) (dInt .i64) ty3 rfl ?_
         refine wl_nil (hN _ _ ?_)
         exact hM374 _ _ ⟨_, _, frame_eq [(3, (pt b5)), (7, (.slice A61 r52.2.1.length c62)), (8, (.slice A64 r52.2.2.length c65)), (58, (.bool r9)), (61, (.int .i64 r52.1.A.State)), (64, (.int .i64 a0.A.State))] ⟨rfl, rfl, rfl, rfl, rfl, rfl, trivial⟩, GLe.refl _, (St.pick [(.box b67 29 (kTNego.at_ r52.1)), (.box b5 32 (kTPkt.at_ a1)), (.box b1 29 (kTNego.at_ a0))] [(.box b5 32 (kTPkt.at_ a1))] [1] H88 (by decide) rfl)⟩
      ·replace hF := ifF hF hb91
       refine any_memo (fuel := 43) (m := 255) (fun a w => ∃ (T0 : Fr) (G1 : Ghost), a = mk 107 (upds T0 [(3, (pt b5)), (7, (.slice A61 r52.2.1.length c62)), (8, (.slice A64 r52.2.2.length c65)), (58, (.bool r9)), (61, (.int .i64 r52.1.A.State)), (64, (.int .i64 a0.A.State))]) ∧ GLe G54 G1 ∧ St c G1 w ((.box b5 32 (kTPkt.at_ a1)) :: σ)) ?_ ?_
       ·rintro a w ⟨T0, G385, rfl, hG383, H384⟩
        refine any_rnG 58 true (i := 8) (m' := 511) rfl (rn_pure (.bool (r52.1.A.State == a0.A.State)) rfl) (vb hb89) hPF hns ?_
        refine any_rn (i := 9) (m' := 1023) rfl (rn_pickT (.bool (r52.1.A.State == a0.A.State)) (vb hb89) rfl) hPF hns ?_
        refine any_rn (i := 10) (m' := 2047) rfl (rn_pure (.bool (r52.1.A.State == a0.A.State)) rfl) hPF hns ?_
        refine any_rnG 67 true (i := 11) (m' := 4095) rfl (rn_pure (.slice A61 r52.2.1.length c62) rfl) (vb hb90) hPF hns ?_
        refine any_rnG 67 true (i := 12) (m' := 8191) rfl (rn_len sl35 rfl) (vb hb90) hPF hns ?_
        refine any_rnG 67 true (i := 13) (m' := 16383) rfl (rn_pure (.bool ((r52.2.1.length : Int) == 1)) rfl) (vb hb90) hPF hns ?_
        refine any_rn (i := 14) (m' := 32767) rfl (rn_pickT (.bool ((r52.2.1.length : Int) == 1)) (vb hb90) rfl) hPF hns ?_
        refine any_rn (i := 15) (m' := 65535) rfl (rn_pure (.bool ((r52.2.1.length : Int) == 1)) rfl) hPF hns ?_
        refine any_offG (i := 16) (m' := 131071) 72 true rfl (vb hb91) hPF hns ?_
        refine any_offG (i := 17) (m' := 262143) 72 true rfl (vb hb91) hPF hns ?_
        refine any_offG (i := 18) (m' := 524287) 72 true rfl (vb hb91) hPF hns ?_
        refine any_offG (i := 19) (m' := 1048575) 72 true rfl (vb hb91) hPF hns ?_
        refine any_offG (i := 20) (m' := 2097151) 72 true rfl (vb hb91) hPF hns ?_
        refine any_rn (i := 21) (m' := 4194303) rfl (rn_pickF (.bool false) (vb hb91) rfl) hPF hns ?_
        refine any_rn (i := 22) (m' := 8388607) rfl (rn_pure (.bool false) rfl) hPF hns ?_
        refine any_offG (i := 23) (m' := 16777215) 79 true rfl rfl hPF hns ?_
        refine any_offG (i := 24) (m' := 33554431) 79 true rfl rfl hPF hns ?_
        refine any_offG (i := 25) (m' := 67108863) 79 true rfl rfl hPF hns ?_
        refine any_offG (i := 26) (m' := 134217727) 79 true rfl rfl hPF hns ?_
        refine any_offG (i := 27) (m' := 268435455) 79 true rfl rfl hPF hns ?_
        refine any_offG (i := 28) (m' := 536870911) 79 true rfl rfl hPF hns ?_
        refine any_offG (i := 29) (m' := 1073741823) 79 true rfl rfl hPF hns ?_
        refine any_offG (i := 30) (m' := 2147483647) 79 true rfl rfl hPF hns ?_
        refine any_offG (i := 31) (m' := 4294967295) 79 true rfl rfl hPF hns ?_
        refine any_offG (i := 32) (m' := 8589934591) 79 true rfl rfl hPF hns ?_
        refine any_rn (i := 33) (m' := 17179869183) rfl (rn_pickF (.bool false) rfl rfl) hPF hns ?_
        refine any_rn (i := 34) (m' := 34359738367) rfl (rn_pure (.bool false) rfl) hPF hns ?_
        refine any_offG (i := 35) (m' := 68719476735) 91 true rfl rfl hPF hns ?_
        refine any_offG (i := 36) (m' := 137438953471) 91 true rfl rfl hPF hns ?_
        refine any_offG (i := 37) (m' := 274877906943) 91 true rfl rfl hPF hns ?_
        refine any_offG (i := 38) (m' := 549755813887) 91 true rfl rfl hPF hns ?_
        refine any_offG (i := 39) (m' := 1099511627775) 91 true rfl rfl hPF hns ?_
        refine any_offG (i := 40) (m' := 2199023255551) 91 true rfl rfl hPF hns ?_
        refine any_offG (i := 41) (m' := 4398046511103) 91 true rfl rfl hPF hns ?_
        refine any_offG (i := 42) (m' := 8796093022207) 91 true rfl rfl hPF hns ?_
        refine any_offG (i := 43) (m' := 17592186044415) 91 true rfl rfl hPF hns ?_
        refine any_rn (i := 44) (m' := 35184372088831) rfl (rn_pickF (.bool false) rfl rfl) hPF hns ?_
        refine any_rn (i := 45) (m' := 70368744177663) rfl (rn_pure (.bool false) rfl) hPF hns ?_
        refine any_offG (i := 46) (m' := 140737488355327) 102 true rfl rfl hPF hns ?_
        refine any_offG (i := 47) (m' := 281474976710655) 102 true rfl rfl hPF hns ?_
        refine any_offG (i := 48) (m' := 562949953421311) 102 true rfl rfl hPF hns ?_
        refine any_rn (i := 49) (m' := 1125899906842623) rfl (rn_pickF (.bool false) rfl rfl) hPF hns ?_
        refine any_rn (i := 50) (m' := 2251799813685247) rfl (rn_pure (.bool false) rfl) hPF hns ?_
        refine any_end ?_
        refine then_n ?_
        refine wp_ret ?_
        have hF := Option.some.inj hF
        subst hF
        exact ret_mk rfl (RV.tmp rfl RV.nil) ⟨_, (((hG12.trans hG44).trans hG55).trans hG383), rfl, (St.pick [(.box b5 32 (kTPkt.at_ a1))] [] [] H384 (by decide) rfl)⟩
       intro hM382
       refine any_rn (i := 0) (m' := 1) rfl (rn_pure (.bool r9) rfl) hPF hns ?_
       refine any_rn (i := 1) (m' := 3) rfl (rn_pure (.bool r9) rfl) hPF hns ?_
       refine any_rnG 58 true (i := 2) (m' := 7) rfl (rn_field fo29_0 rfl) (vb hb89) hPF hns ?_
       refine any_rnG 58 true (i := 3) (m' := 15) rfl (rn_field fo23_0 rfl) (vb hb89) hPF hns ?_
       refine any_rnG 58 true (i := 5) (m' := 47) rfl (rn_field fo29_0 rfl) (vb hb89) hPF hns ?_
       refine any_rnG 58 true (i := 6) (m' := 111) rfl (rn_field fo23_0 rfl) (vb hb89) hPF hns ?_
       refine any_alls [4, 7] ⟨?_, ?_, trivial⟩
       ·refine any_ops (m' := 127) fun Q' hN => ?_
        refine wl_yes rfl rfl rfl (vb hb89) ?_
        refine wl_loadd H88 (i := 0) rfl (Lens.then lTNego_A lTAuto_State) (dInt .i64) ty3 rfl ?_
        refine wl_nil (hN _ _ ?_)
        refine any_alls [7] ⟨any_ops (m' := 255) fun Q' hN => ?_, trivial⟩
        refine wl_yes rfl rfl rfl (vb hb89) ?_
        refine wl_loadd H88 (i := 2) rfl (Lens.then lTNego_A lTAuto_State) (dInt .i64) ty3 rfl ?_
        refine wl_nil (hN _ _ ?_)
        exact hM382 _ _ ⟨_, _, frame_eq [(3, (pt b5)), (7, (.slice A61 r52.2.1.length c62)), (8, (.slice A64 r52.2.2.length c65)), (58, (.bool r9)), (61, (.int .i64 r52.1.A.State)), (64, (.int .i64 a0.A.State))] ⟨rfl, rfl, rfl, rfl, rfl, rfl, trivial⟩, GLe.refl _, (St.pick [(.box b67 29 (kTNego.at_ r52.1)), (.box b5 32 (kTPkt.at_ a1)), (.box b1 29 (kTNego.at_ a0))] [(.box b5 32 (kTPkt.at_ a1))] [1] H88 (by decide) rfl)⟩
       ·refine any_ops (m' := 239) fun Q' hN => ?_
        refine wl_yes rfl rfl rfl (vb hb89) ?_
        refine wl_loadd H88 (i := 2) rfl (Lens.then lTNego_A lTAuto_State) (dInt .i64) ty3 rfl ?_
        refine wl_nil (hN _ _ ?_)
        refine any_alls [4] ⟨any_ops (m' := 255) fun Q' hN => ?_, trivial⟩
        refine wl_yes rfl rfl rfl (vb hb89) ?_
        refine wl_loadd H88 (i := 0) rfl (Lens.then lTNego_A lTAuto_State) (dInt .i64) ty3 rfl ?_
        refine wl_nil (hN _ _ ?_)
        exact hM382 _ _ ⟨_, _, frame_eq [(3, (pt b5)), (7, (.slice A61 r52.2.1.length c62)), (8, (.slice A64 r52.2.2.length c65)), (58, (.bool r9)), (61, (.int .i64 r52.1.A.State)), (64, (.int .i64 a0.A.State))] ⟨rfl, rfl, rfl, rfl, rfl, rfl, trivial⟩, GLe.refl _, (St.pick [(.box b67 29 (kTNego.at_ r52.1)), (.box b5 32 (kTPkt.at_ a1)), (.box b1 29 (kTNego.at_ a0))] [(.box b5 32 (kTPkt.at_ a1))] [1] H88 (by decide) rfl)⟩
     ·replace hF := ifF hF hb90
      refine any_memo (fuel := 43) (m := 255) (fun a w => ∃ (T0 : Fr) (G1 : Ghost), a = mk 107 (upds T0 [(3, (pt b5)), (7, (.slice A61 r52.2.1.length c62)), (8, (.slice A64 r52.2.2.length c65)), (58, (.bool r9)), (61, (.int .i64 r52.1.A.State)), (64, (.int .i64 a0.A.State))]) ∧ GLe G54 G1 ∧ St c G1 w ((.box b5 32 (kTPkt.at_ a1)) :: σ)) ?_ ?_
      ·rintro a w ⟨T0, G389, rfl, hG387, H388⟩
       refine any_rnG 58 true (i := 8) (m' := 511) rfl (rn_pure (.bool (r52.1.A.State == a0.A.State)) rfl) (vb hb89) hPF hns ?_
       refine any_rn (i := 9) (m' := 1023) rfl (rn_pickT (.bool (r52.1.A.State == a0.A.State)) (vb hb89) rfl) hPF hns ?_
       refine any_rn (i := 10) (m' := 2047) rfl (rn_pure (.bool (r52.1.A.State == a0.A.State)) rfl) hPF hns ?_
       refine any_offG (i := 11) (m' := 4095) 67 true rfl (vb hb90) hPF hns ?_
       refine any_offG (i := 12) (m' := 8191) 67 true rfl (vb hb90) hPF hns ?_
       refine any_offG (i := 13) (m' := 16383) 67 true rfl (vb hb90) hPF hns ?_
       refine any_rn (i := 14) (m' := 32767) rfl (rn_pickF (.bool false) (vb hb90) rfl) hPF hns ?_
       refine any_rn (i := 15) (m' := 65535) rfl (rn_pure (.bool false) rfl) hPF hns ?_
       refine any_offG (i := 16) (m' := 131071) 72 true rfl rfl hPF hns ?_
       refine any_offG (i := 17) (m' := 262143) 72 true rfl rfl hPF hns ?_
       refine any_offG (i := 18) (m' := 524287) 72 true rfl rfl hPF hns ?_
       refine any_offG (i := 19) (m' := 1048575) 72 true rfl rfl hPF hns ?_
       refine any_offG (i := 20) (m' := 2097151) 72 true rfl rfl hPF hns ?_
       refine any_rn (i := 21) (m' := 4194303) rfl (rn_pickF (.bool false) rfl rfl) hPF hns ?_
       refine any_rn (i := 22) (m' := 8388607) rfl (rn_pure (.bool false) rfl) hPF hns ?_
       refine any_offG (i := 23) (m' := 16777215) 79 true rfl rfl hPF hns ?_
       refine any_offG (i := 24) (m' := 33554431) 79 true rfl rfl hPF hns ?_
       refine any_offG (i := 25) (m' := 67108863) 79 true rfl rfl hPF hns ?_
       refine any_offG (i := 26) (m' := 134217727) 79 true rfl rfl hPF hns ?_
       refine any_offG (i := 27) (m' := 268435455) 79 true rfl rfl hPF hns ?_
       refine any_offG (i := 28) (m' := 536870911) 79 true rfl rfl hPF hns ?_
       refine any_offG (i := 29) (m' := 1073741823) 79 true rfl rfl hPF hns ?_
       refine any_offG (i := 30) (m' := 2147483647) 79 true rfl rfl hPF hns ?_
       refine any_offG (i := 31) (m' := 4294967295) 79 true rfl rfl hPF hns ?_
       refine any_offG (i := 32) (m' := 8589934591) 79 true rfl rfl hPF hns ?_
       refine any_rn (i := 33) (m' := 17179869183) rfl (rn_pickF (.bool false) rfl rfl) hPF hns ?_
       refine any_rn (i := 34) (m' := 34359738367) rfl (rn_pure (.bool false) rfl) hPF hns ?_
       refine any_offG (i := 35) (m' := 68719476735) 91 true rfl rfl hPF hns ?_
       refine any_offG (i := 36) (m' := 137438953471) 91 true rfl rfl hPF hns ?_
       refine any_offG (i := 37) (m' := 274877906943) 91 true rfl rfl hPF hns ?_
       refine any_offG (i := 38) (m' := 549755813887) 91 true rfl rfl hPF hns ?_
       refine any_offG (i := 39) (m' := 1099511627775) 91 true rfl rfl hPF hns ?_
       refine any_offG (i := 40) (m' := 2199023255551) 91 true rfl rfl hPF hns ?_
       refine any_offG (i := 41) (m' := 4398046511103) 91 true rfl rfl hPF hns ?_
       refine any_offG (i := 42) (m' := 8796093022207) 91 true rfl rfl hPF hns ?_
       refine any_offG (i := 43) (m' := 17592186044415) 91 true rfl rfl hPF hns ?_
       refine any_rn (i := 44) (m' := 35184372088831) rfl (rn_pickF (.bool false) rfl rfl) hPF hns ?_
       refine any_rn (i := 45) (m' := 70368744177663) rfl (rn_pure (.bool false) rfl) hPF hns ?_
       refine any_offG (i := 46) (m' := 140737488355327) 102 true rfl rfl hPF hns ?_
       refine any_offG (i := 47) (m' := 281474976710655) 102 true rfl rfl hPF hns ?_
       refine any_offG (i := 48) (m' := 562949953421311) 102 true rfl rfl hPF hns ?_
       refine any_rn (i := 49) (m' := 1125899906842623) rfl (rn_pickF (.bool false) rfl rfl) hPF hns ?_
       refine any_rn (i := 50) (m' := 2251799813685247) rfl (rn_pure (.bool false) rfl) hPF hns ?_
       refine any_end ?_
       refine then_n ?_
       refine wp_ret ?_
       have hF := Option.some.inj hF
       subst hF
       exact ret_mk rfl (RV.tmp rfl RV.nil) ⟨_, (((hG12.trans hG44).trans hG55).trans hG387), rfl, (St.pick [(.box b5 32 (kTPkt.at_ a1))] [] [] H388 (by decide) rfl)⟩
      intro hM386
      refine any_rn (i := 0) (m' := 1) rfl (rn_pure (.bool r9) rfl) hPF hns ?_
      refine any_rn (i := 1) (m' := 3) rfl (rn_pure (.bool r9) rfl) hPF hns ?_
      refine any_rnG 58 true (i := 2) (m' := 7) rfl (rn_field fo29_0 rfl) (vb hb89) hPF hns ?_
      refine any_rnG 58 true (i := 3) (m' := 15) rfl (rn_field fo23_0 rfl) (vb hb89) hPF hns ?_
      refine any_rnG 58 true (i := 5) (m' := 47) rfl (rn_field fo29_0 rfl) (vb hb89) hPF hns ?_
      refine any_rnG 58 true (i := 6) (m' := 111) rfl (rn_field fo23_0 rfl) (vb hb89) hPF hns ?_
      refine any_alls [4, 7] ⟨?_, ?_, trivial⟩
      ·refine any_ops (m' := 127) fun Q' hN => ?_
       refine wl_yes rfl rfl rfl (vb hb89) ?_
       refine wl_loadd H88 (i := 0) rfl (Lens.then lTNego_A lTAuto_State) (dInt .i64) ty3 rfl ?_
       refine wl_nil (hN _ _ ?_)
       refine any_alls [7] ⟨any_ops (m' := 255) fun Q' hN => ?_, trivial⟩
       refine wl_yes rfl rfl rfl (vb hb89) ?_
       refine wl_loadd H88 (i := 2) rfl (Lens.then lTNego_A lTAuto_State) (dInt .i64) ty3 rfl ?_
       refine wl_nil (hN _ _ ?_)
       exact hM386 _ _ ⟨_, _, frame_eq [(3, (pt b5)), (7, (.slice A61 r52.2.1.length c62)), (8, (.slice A64 r52.2.2.length c65)), (58, (.bool r9)), (61, (.int .i64 r52.1.A.State)), (64, (.int .i64 a0.A.State))] ⟨rfl, rfl, rfl, rfl, rfl, rfl, trivial⟩, GLe.refl _, (St.pick [(.box b67 29 (kTNego.at_ r52.1)), (.box b5 32 (kTPkt.at_ a1)), (.box b1 29 (kTNego.at_ a0))] [(.box b5 32 (kTPkt.at_ a1))] [1] H88 (by decide) rfl)⟩
      ·refine any_ops (m' := 239) fun Q' hN => ?_
       refine wl_yes rfl rfl rfl (vb hb89) ?_
       refine wl_loadd H88 (i := 2) rfl (Lens.then lTNego_A lTAuto_State) (dInt .i64) ty3 rfl ?_
       refine wl_nil (hN _ _ ?_)
       refine any_alls [4] ⟨any_ops (m' := 255) fun Q' hN => ?_, trivial⟩
       refine wl_yes rfl rfl rfl (vb hb89) ?_
       refine wl_loadd H88 (i := 0) rfl (Lens.then lTNego_A lTAuto_State) (dInt .i64) ty3 rfl ?_
       refine wl_nil (hN _ _ ?_)
       exact hM386 _ _ ⟨_, _, frame_eq [(3, (pt b5)), (7, (.slice A61 r52.2.1.length c62)), (8, (.slice A64 r52.2.2.length c65)), (58, (.bool r9)), (61, (.int .i64 r52.1.A.State)), (64, (.int .i64 a0.A.State))] ⟨rfl, rfl, rfl, rfl, rfl, rfl, trivial⟩, GLe.refl _, (St.pick [(.box b67 29 (kTNego.at_ r52.1)), (.box b5 32 (kTPkt.at_ a1)), (.box b1 29 (kTNego.at_ a0))] [(.box b5 32 (kTPkt.at_ a1))] [1] H88 (by decide) rfl)⟩
    ·replace hF := ifF hF hb89
     refine any_rn (i := 0) (m' := 1) rfl (rn_pure (.bool r9) rfl) hPF hns ?_
     refine any_rn (i := 1) (m' := 3) rfl (rn_pure (.bool r9) rfl) hPF hns ?_
     refine any_offG (i := 2) (m' := 7) 58 true rfl (vb hb89) hPF hns ?_
     refine any_offG (i := 3) (m' := 15) 58 true rfl (vb hb89) hPF hns ?_
     refine any_offG (i := 4) (m' := 31) 58 true rfl (vb hb89) hPF hns ?_
     refine any_offG (i := 5) (m' := 63) 58 true rfl (vb hb89) hPF hns ?_
     refine any_offG (i := 6) (m' := 127) 58 true rfl (vb hb89) hPF hns ?_
     refine any_offG (i := 7) (m' := 255) 58 true rfl (vb hb89) hPF hns ?_
     refine any_offG (i := 8) (m' := 511) 58 true rfl (vb hb89) hPF hns ?_
     refine any_rn (i := 9) (m' := 1023) rfl (rn_pickF (.bool false) (vb hb89) rfl) hPF hns ?_
     refine any_rn (i := 10) (m' := 2047) rfl (rn_pure (.bool false) rfl) hPF hns ?_
     refine any_offG (i := 11) (m' := 4095) 67 true rfl rfl hPF hns ?_
     refine any_offG (i := 12) (m' := 8191) 67 true rfl rfl hPF hns ?_
     refine any_offG (i := 13) (m' := 16383) 67 true rfl rfl hPF hns ?_
     refine any_rn (i := 14) (m' := 32767) rfl (rn_pickF (.bool false) rfl rfl) hPF hns ?_
     refine any_rn (i := 15) (m' := 65535) rfl (rn_pure (.bool false) rfl) hPF hns ?_
     refine any_offG (i := 16) (m' := 131071) 72 true rfl rfl hPF hns ?_
     refine any_offG (i := 17) (m' := 262143) 72 true rfl rfl hPF hns ?_
     refine any_offG (i := 18) (m' := 524287) 72 true rfl rfl hPF hns ?_
     refine any_offG (i := 19) (m' := 1048575) 72 true rfl rfl hPF hns ?_
     refine any_offG (i := 20) (m' := 2097151) 72 true rfl rfl hPF hns ?_
     refine any_rn (i := 21) (m' := 4194303) rfl (rn_pickF (.bool false) rfl rfl) hPF hns ?_
     refine any_rn (i := 22) (m' := 8388607) rfl (rn_pure (.bool false) rfl) hPF hns ?_
     refine any_offG (i := 23) (m' := 16777215) 79 true rfl rfl hPF hns ?_
     refine any_offG (i := 24) (m' := 33554431) 79 true rfl rfl hPF hns ?_
     refine any_offG (i := 25) (m' := 67108863) 79 true rfl rfl hPF hns ?_
     refine any_offG (i := 26) (m' := 134217727) 79 true rfl rfl hPF hns ?_
     refine any_offG (i := 27) (m' := 268435455) 79 true rfl rfl hPF hns ?_
     refine any_offG (i := 28) (m' := 536870911) 79 true rfl rfl hPF hns ?_
     refine any_offG (i := 29) (m' := 1073741823) 79 true rfl rfl hPF hns ?_
     refine any_offG (i := 30) (m' := 2147483647) 79 true rfl rfl hPF hns ?_
     refine any_offG (i := 31) (m' := 4294967295) 79 true rfl rfl hPF hns ?_
     refine any_offG (i := 32) (m' := 8589934591) 79 true rfl rfl hPF hns ?_
     refine any_rn (i := 33) (m' := 17179869183) rfl (rn_pickF (.bool false) rfl rfl) hPF hns ?_
     refine any_rn (i := 34) (m' := 34359738367) rfl (rn_pure (.bool false) rfl) hPF hns ?_
     refine any_offG (i := 35) (m' := 68719476735) 91 true rfl rfl hPF hns ?_
     refine any_offG (i := 36) (m' := 137438953471) 91 true rfl rfl hPF hns ?_
     refine any_offG (i := 37) (m' := 274877906943) 91 true rfl rfl hPF hns ?_
     refine any_offG (i := 38) (m' := 549755813887) 91 true rfl rfl hPF hns ?_
     refine any_offG (i := 39) (m' := 1099511627775) 91 true rfl rfl hPF hns ?_
     refine any_offG (i := 40) (m' := 2199023255551) 91 true rfl rfl hPF hns ?_
     refine any_offG (i := 41) (m' := 4398046511103) 91 true rfl rfl hPF hns ?_
     refine any_offG (i := 42) (m' := 8796093022207) 91 true rfl rfl hPF hns ?_
     refine any_offG (i := 43) (m' := 17592186044415) 91 true rfl rfl hPF hns ?_
     refine any_rn (i := 44) (m' := 35184372088831) rfl (rn_pickF (.bool false) rfl rfl) hPF hns ?_
     refine any_rn (i := 45) (m' := 70368744177663) rfl (rn_pure (.bool false) rfl) hPF hns ?_
     refine any_offG (i := 46) (m' := 140737488355327) 102 true rfl rfl hPF hns ?_
     refine any_offG (i := 47) (m' := 281474976710655) 102 true rfl rfl hPF hns ?_
     refine any_offG (i := 48) (m' := 562949953421311) 102 true rfl rfl hPF hns ?_
     refine any_rn (i := 49) (m' := 1125899906842623) rfl (rn_pickF (.bool false) rfl rfl) hPF hns ?_
     refine any_rn (i := 50) (m' := 2251799813685247) rfl (rn_pure (.bool false) rfl) hPF hns ?_
     refine any_end ?_
     refine then_n ?_
     refine wp_ret ?_
     have hF := Option.some.inj hF
     subst hF
     exact ret_mk rfl (RV.tmp rfl RV.nil) ⟨_, ((hG12.trans hG44).trans hG55), rfl, (St.pick [(.box b67 29 (kTNego.at_ r52.1)), (.box b5 32 (kTPkt.at_ a1)), (.box b1 29 (kTNego.at_ a0))] [] [] H88 (by decide) rfl)⟩
 ·refine wc_region ?_
  refine wl_load H13 (i := 1) rfl (Lens.id kTNego) ty29 rfl ?_
  intro v390 hv391
  obtain ⟨r392, hr393, hF⟩ := bindS hF
  refine wl_call (vs := [v390]) en9 rfl (portreeveref14_Small_ok hc hv391 H13 hr393) ?_
  rintro v398 w397 ⟨G394, hG395, rfl, H396⟩
  iterate 2 refine wl_rn (rn_pure (.bool (!r392)) rfl) ?_
  rcases bcases (!r392) with hb399 | hb399
  ·replace hF := ifT hF hb399
   iterate 3 refine wl_no rfl rfl rfl (vb hb399) ?_
   refine wl_rn (rn_pickT (.bool true) (vb hb399) rfl) ?_
   refine wl_rn (rn_pure (.bool true) rfl) ?_
   iterate 4 refine wl_no rfl rfl rfl rfl ?_
   refine wl_rn (rn_pickT (.bool true) rfl rfl) ?_
   refine wl_rn (rn_pure (.bool true) rfl) ?_
   iterate 4 refine wl_no rfl rfl rfl rfl ?_
   iterate 3 refine wl_nou rfl rfl rfl rfl ?_
   refine wl_no rfl rfl rfl rfl ?_
   refine wl_rn (rn_pickT (.bool true) rfl rfl) ?_
   refine wl_nil (then_n ?_)
   exact ⟨_, _, true, frame_eq [(2, (pt b1)), (3, (pt b5)), (5, (.bool r9)), (33, (.bool true))] ⟨rfl, rfl, rfl, rfl, trivial⟩, hG395, H396, hF⟩
  ·replace hF := ifF hF hb399
   refine wl_yes rfl rfl rfl (vb hb399) ?_
   refine wl_load H396 (i := 1) rfl (Lens.id kTNego) ty29 rfl ?_
   intro v400 hv401
   refine wl_yes rfl rfl rfl (vb hb399) ?_
   obtain ⟨r402, hr403, hF⟩ := bindS hF
   refine wl_call (vs := [v400]) en10 rfl (portreeveref14_Right_ok hc hv401 H396 hr403) ?_
   rintro v408 w407 ⟨G404, hG405, rfl, H406⟩
   refine wl_yes rfl rfl rfl (vb hb399) ?_
   refine wl_rn (rn_pure (.bool (!r402)) rfl) ?_
   refine wl_rn (rn_pickF (.bool (!r402)) (vb hb399) rfl) ?_
   refine wl_rn (rn_pure (.bool (!r402)) rfl) ?_
   rcases bcases (!r402) with hb409 | hb409
   ·replace hF := ifT hF hb409
    iterate 4 refine wl_no rfl rfl rfl (vb hb409) ?_
    refine wl_rn (rn_pickT (.bool true) (vb hb409) rfl) ?_
    refine wl_rn (rn_pure (.bool true) rfl) ?_
    iterate 4 refine wl_no rfl rfl rfl rfl ?_
    iterate 3 refine wl_nou rfl rfl rfl rfl ?_
    refine wl_no rfl rfl rfl rfl ?_
    refine wl_rn (rn_pickT (.bool true) rfl rfl) ?_
    refine wl_nil (then_n ?_)
    exact ⟨_, _, true, frame_eq [(2, (pt b1)), (3, (pt b5)), (5, (.bool r9)), (33, (.bool true))] ⟨rfl, rfl, rfl, rfl, trivial⟩, (hG395.trans hG405), H406, hF⟩
   ·replace hF := ifF hF hb409
    refine wl_yes rfl rfl rfl (vb hb409) ?_
    refine wl_rn (rn_field fo32_2 rfl) ?_
    refine wl_yes rfl rfl rfl (vb hb409) ?_
    refine wl_load H406 (i := 0) rfl lTPkt_Data ty30 rfl ?_
    intro v410 hv411
    obtain ⟨A412, c413, rfl, hs414⟩ := slice_V hv411
    refine wl_yes rfl rfl rfl (vb hb409) ?_
    refine wl_rn (rn_len sl30 rfl) ?_
    refine wl_yes rfl rfl rfl (vb hb409) ?_
    refine wl_rn (rn_pure (.bool (decide ((a1.Data.length : Int) > 1400))) rfl) ?_
    refine wl_rn (rn_pickF (.bool (decide ((a1.Data.length : Int) > 1400))) (vb hb409) rfl) ?_
    refine wl_rn (rn_pure (.bool (decide ((a1.Data.length : Int) > 1400))) rfl) ?_
    rcases bcases (decide ((a1.Data.length : Int) > 1400)) with hb415 | hb415
    ·replace hF := ifT hF hb415
     iterate 4 refine wl_no rfl rfl rfl (vb hb415) ?_
     iterate 3 refine wl_nou rfl rfl rfl rfl ?_
     refine wl_no rfl rfl rfl (vb hb415) ?_
     refine wl_rn (rn_pickT (.bool true) (vb hb415) rfl) ?_
     refine wl_nil (then_n ?_)
     exact ⟨_, _, true, frame_eq [(2, (pt b1)), (3, (pt b5)), (5, (.bool r9)), (33, (.bool true))] ⟨rfl, rfl, rfl, rfl, trivial⟩, (hG395.trans hG405), H406, hF⟩
    ·replace hF := ifF hF hb415
     refine wl_yes rfl rfl rfl (vb hb415) ?_
     refine wl_rn (rn_field fo32_0 rfl) ?_
     refine wl_yes rfl rfl rfl (vb hb415) ?_
     refine wl_loadd H406 (i := 0) rfl lTPkt_Code (dInt .u8) ty5 rfl ?_
     refine wl_yes rfl rfl rfl (vb hb415) ?_
     refine wl_rn (rn_pure (.bool (decide (a1.Code ≥ 1))) rfl) ?_
     refine wl_yes rfl rfl rfl (vb hb415) ?_
     refine wl_rn (rn_pure (.bool (decide (a1.Code ≥ 1))) rfl) ?_
     rcases bcases (decide (a1.Code ≥ 1)) with hb416 | hb416
     ·replace hF := ifT hF hb416
      refine wl_yes rfl rfl rfl (vb hb416) ?_
      refine wl_rn (rn_field fo32_0 rfl) ?_
      refine wl_yes rfl rfl rfl (vb hb416) ?_
      refine wl_loadd H406 (i := 0) rfl lTPkt_Code (dInt .u8) ty5 rfl ?_
      refine wl_yes rfl rfl rfl (vb hb416) ?_
      refine wl_rn (rn_pure (.bool (decide (a1.Code ≤ 11))) rfl) ?_
      refine wl_yes rfl rfl rfl (vb hb415) ?_
      refine wl_rn (rn_pickT (.bool (decide (a1.Code ≤ 11))) (vb hb416) rfl) ?_
      refine wl_rn (rn_pickF (.bool (decide (a1.Code ≤ 11))) (vb hb415) rfl) ?_
      refine wl_nil (then_n ?_)
      exact ⟨_, _, (decide (a1.Code ≤ 11)), frame_eq [(2, (pt b1)), (3, (pt b5)), (5, (.bool r9)), (33, (.bool (decide (a1.Code ≤ 11))))] ⟨rfl, rfl, rfl, rfl, trivial⟩, (hG395.trans hG405), H406, hF⟩
     ·replace hF := ifF hF hb416
      iterate 3 refine wl_no rfl rfl rfl (vb hb416) ?_
      refine wl_yes rfl rfl rfl (vb hb415) ?_
      refine wl_rn (rn_pickF (.bool false) (vb hb416) rfl) ?_
      refine wl_rn (rn_pickF (.bool false) (vb hb415) rfl) ?_
      refine wl_nil (then_n ?_)
      exact ⟨_, _, false, frame_eq [(2, (pt b1)), (3, (pt b5)), (5, (.bool r9)), (33, (.bool false))] ⟨rfl, rfl, rfl, rfl, trivial⟩, (hG395.trans hG405), H406, hF⟩
end Go.Proofs.YtadlndnagfnlgaaDoor.W
