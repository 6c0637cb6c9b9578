/- Calls come to what the plain functions say: written by a program (gen.py). -/
import Derived.Test.YtadlndnagfnlgaaDoorG
import Derived.Test.YtadlndnagfnlgaaDoorF0
set_option linter.unusedVariables false
set_option maxRecDepth 20000
namespace Go.Proofs.YtadlndnagfnlgaaDoor.W
open Go
set_option maxHeartbeats 4000000
attribute [local irreducible] wpList wpAny Code.wp wpListIn wpAnyIn Code.wpIn
theorem nego_work_acts_ok {c : World} (hc : Hc c) {G : Ghost} {w : World} {σ : List Ent} {b0 : Nat} {x2 : TNego} {x3 : (List TPkt)} {x8 : (List Int)} {x13 : TPkt} {g4 : Option Nat} {A5 : Option Addr} {c6 : Nat} {g9 : Option Nat} {A10 : Option Addr} {c11 : Nat} {a1 : Int} {a2 : (List Int)} {A2_ : Option Addr} {c2_ : Nat} {a3 : TPkt} {v3_ : Value} (h2_ : SlR kI G A2_ c2_ a2) (h3_ : kTPkt.V G v3_ a3) (H : St c G w ((.box b0 63 (kTnego_workV.at_ (Tnego_workV.mk x2 (.slice A5 x3.length c6) (.slice A10 x8.length c11) x13))) :: (.row kTPkt g4 A5 c6 32 x3) :: (.row kI g9 A10 c11 3 x8) :: σ)) {r : (TNego × (List TPkt) × (List Int) × TPkt)} (hF : nego_work_acts x2 x3 x8 x13 a1 a2 a3 = some r) :
  Calls Tryd.prog 33 ([(pt b0), (.int .i64 a1), (.slice A2_ a2.length c2_), v3_] : List Value).toArray w (Ends fun v w' => ∃ (G' : Ghost) (g1' : Option Nat) (A2' : Option Addr) (c3' : Nat) (g4' : Option Nat) (A5' : Option Addr) (c6' : Nat), GLe G G' ∧ tup [] = v ∧ St c G' w' ((.box b0 63 (kTnego_workV.at_ (Tnego_workV.mk r.1 (.slice A2' r.2.1.length c3') (.slice A5' r.2.2.1.length c6') r.2.2.2))) :: (.row kTPkt g1' A2' c3' 32 r.2.1) :: (.row kI g4' A5' c6' 3 r.2.2.1) :: σ)) := by
 unfold nego_work_acts at hF
 refine calls_mk Tryd.func33 rfl rfl rfl ?_
 refine wp_seq (wc_region ?_)
 refine wl_box (K := kTPkt) (x := a3) H rfl h3_ ?_
 intro b14 w17 H15
 refine wl_nil (then_n ?_)
 refine wp_seq (join (fun a w => ∃ (T0 : Fr) (G1 : Ghost) (x66 : TNego) (x67 : (List TPkt)) (x72 : (List Int)) (x77 : TPkt) (g68 : Option Nat) (A69 : Option Addr) (c70 : Nat) (g73 : Option Nat) (A74 : Option Addr) (c75 : Nat), a = mk 141 (upds T0 [(0, (pt b0)), (2, (.slice A2_ a2.length c2_)), (7, (pt b14))]) ∧ GLe G G1 ∧ St c G1 w ((.box b14 32 (kTPkt.at_ a3)) :: (.box b0 63 (kTnego_workV.at_ (Tnego_workV.mk x66 (.slice A69 x67.length c70) (.slice A74 x72.length c75) x77))) :: (.row kTPkt g68 A69 c70 32 x67) :: (.row kI g73 A74 c75 3 x72) :: σ) ∧ nego_work_acts_j1 a2 a3 x66 x67 x72 x77 = some r) ?_ ?_)
 ·rintro a w ⟨T0, G80, x66, x67, x72, x77, g68, A69, c70, g73, A74, c75, rfl, hG78, H79, hF⟩
  refine wp_seq (wc_region ?_)
  refine wl_rn (rn_pure (.slice A2_ a2.length c2_) rfl) ?_
  refine wl_rn (rn_len sl36 rfl) ?_
  refine wl_rn (rn_pure (.int .i64 0) rfl) ?_
  refine wl_nil (then_n ?_)
  refine wp_block ?_
  refine wp_loopX (fun (s : (Int × TNego × (List TPkt) × (List Int) × TPkt)) a w => ∃ (T0 : Fr) (G1 : Ghost) (g416 : Option Nat) (A417 : Option Addr) (c418 : Nat) (g421 : Option Nat) (A422 : Option Addr) (c423 : Nat), a = mk 141 (upds T0 [(0, (pt b0)), (7, (pt b14)), (40, (.slice A2_ a2.length c2_)), (41, (.int .i64 (a2.length : Int))), (42, (.int .i64 s.1))]) ∧ GLe G80 G1 ∧ St c G1 w ((.box b14 32 (kTPkt.at_ a3)) :: (.box b0 63 (kTnego_workV.at_ (Tnego_workV.mk s.2.1 (.slice A417 s.2.2.1.length c418) (.slice A422 s.2.2.2.1.length c423) s.2.2.2.2))) :: (.row kTPkt g416 A417 c418 32 s.2.2.1) :: (.row kI g421 A422 c423 3 s.2.2.2.1) :: σ)) hF ?_ ?_
  ·exact ⟨_, _, g68, A69, c70, g73, A74, c75, frame_eq [(0, (pt b0)), (7, (pt b14)), (40, (.slice A2_ a2.length c2_)), (41, (.int .i64 (a2.length : Int))), (42, (.int .i64 0))] ⟨rfl, rfl, rfl, rfl, rfl, trivial⟩, GLe.refl _, H79⟩
  ·rintro ⟨x413, x414, x415, x420, x425⟩ a w y428 ⟨T0, G429, g416, A417, c418, g421, A422, c423, rfl, hG426, H427⟩ hF hy81
   refine wp_seq (wc_region ?_)
   refine wl_rn (rn_pure (.bool (decide (x413 < (a2.length : Int)))) rfl) ?_
   refine wl_nil (then_n ?_)
   refine wp_seq ?_
   rcases bcases (decide (x413 < (a2.length : Int))) with hb430 | hb430
   ·replace hF := ifT hF hb430
    refine wc_true (vb hb430) ?_
    refine wp_skip ?_
    refine then_n ?_
    refine wp_seq (join (fun a w => ∃ (T0 : Fr) (G1 : Ghost) (x570 : TNego) (x571 : (List TPkt)) (x576 : (List Int)) (x581 : TPkt) (g572 : Option Nat) (A573 : Option Addr) (c574 : Nat) (g577 : Option Nat) (A578 : Option Addr) (c579 : Nat), a = mk 141 (upds T0 [(0, (pt b0)), (7, (pt b14)), (40, (.slice A2_ a2.length c2_)), (41, (.int .i64 (a2.length : Int))), (42, (.int .i64 x413))]) ∧ GLe G429 G1 ∧ St c G1 w ((.box b14 32 (kTPkt.at_ a3)) :: (.box b0 63 (kTnego_workV.at_ (Tnego_workV.mk x570 (.slice A573 x571.length c574) (.slice A578 x576.length c579) x581))) :: (.row kTPkt g572 A573 c574 32 x571) :: (.row kI g577 A578 c579 3 x576) :: σ) ∧ nego_work_acts_j3 x413 x570 x571 x576 x581 = some y428) ?_ ?_)
    ·rintro a w ⟨T0, G584, x570, x571, x576, x581, g572, A573, c574, g577, A578, c579, rfl, hG582, H583, hF⟩
     refine wc_region ?_
     iterate 2 refine wl_rn (rn_pure (.int .i64 (IntKind.i64.wrap (x413 + 1))) rfl) ?_
     refine wl_nil (then_n ?_)
     exact ⟨_, (Option.some.inj hF).symm, _, _, g572, A573, c574, g577, A578, c579, frame_eq [(0, (pt b0)), (7, (pt b14)), (40, (.slice A2_ a2.length c2_)), (41, (.int .i64 (a2.length : Int))), (42, (.int .i64 (IntKind.i64.wrap (x413 + 1))))] ⟨rfl, rfl, rfl, rfl, rfl, trivial⟩, (hG426.trans hG582), H583⟩
    ·refine wp_block ?_
     refine wp_seq (wc_region ?_)
     obtain ⟨x585, hx586, hF⟩ := bindS hF
     refine wl_rnE (rn_index (h2_.mono (hG78.trans hG426)) sl36 ty3 rfl rfl hx586) ?_
     intro a587 hp588
     refine wl_loadpd H427 hp588 (dInt .i64) ty3 rfl ?_
     refine wl_rn (rn_pure (.int .i64 x585) rfl) ?_
     refine wl_nil (then_n (wp_seq (wc_region ?_)))
     refine wl_rn (rn_pure (.int .i64 x585) rfl) ?_
     refine wl_nil (then_n ?_)
     refine wp_block ?_
     refine wp_seq (wc_region ?_)
     iterate 2 refine wl_rn (rn_pure (.bool (x585 == 7)) rfl) ?_
     refine wl_nil (then_n ?_)
     rcases bcases (x585 == 7) with hb589 | hb589
     ·replace hF := ifT hF hb589
      refine wc_true (vb hb589) ?_
      refine wp_seq (wc_region ?_)
      refine wl_rn (rn_pure (pt b0) rfl) ?_
      refine wl_rn (rn_nilCheck rfl) ?_
      refine wl_rn (rn_field fo63_0 rfl) ?_
      refine wl_rn (rn_field fo29_2 rfl) ?_
      refine wl_load H427 (i := 1) rfl (Lens.then lTnego_workV_Nego lTNego_Ours) ty27 rfl ?_
      intro v590 hv591
      obtain ⟨A592, c593, rfl, hs594⟩ := slice_V hv591
      obtain ⟨r595, hr596, hF⟩ := bindS hF
      refine wl_call (vs := [(.slice A592 x414.Ours.length c593)]) en41 rfl (opts_Bytes_ok hc hs594 H427 hr596) ?_
      rintro v601 w600 ⟨G597, A602, c603, hG598, rfl, H599, hs604⟩
      refine wl_rn (rn_pure (.tuple #[(.slice A602 r595.1.length c603), (.int .i64 r595.2)]) rfl) ?_
      refine wl_rn (rn_pure (.slice A602 r595.1.length c603) rfl) ?_
      refine wl_rn (rn_pure (.int .i64 r595.2) rfl) ?_
      refine wl_rn (rn_pure (.slice A602 r595.1.length c603) rfl) ?_
      refine wl_rn (rn_pure (.int .i64 r595.2) rfl) ?_
      refine wl_nil (then_n ?_)
      refine wc_anyS (f := 18) H599 mixed ?_
      intro w605 H606
      refine any_pf (by repeat (first | exact PF.base | apply PF.then_ | apply PF.blk)) ?_
      intro hPF hns
      obtain ⟨r615, hr616, hF⟩ := bindS hF
      refine any_memo (fuel := 4) (m := 16383) (fun a w => ∃ (T0 : Fr) (G1 : Ghost) (g648 : Option Nat) (A649 : Option Addr) (c650 : Nat), a = mk 141 (upds T0 [(0, (pt b0)), (7, (pt b14)), (40, (.slice A2_ a2.length c2_)), (41, (.int .i64 (a2.length : Int))), (42, (.int .i64 x413)), (58, (pt b0)), (62, (.slice A417 x415.length c418)), (71, (.slice A649 ([(TPkt.mk 1 x414.A.Id r595.1)] : (List TPkt)).length c650))]) ∧ GLe G597 G1 ∧ St c G1 w ((.box b0 63 (kTnego_workV.at_ (Tnego_workV.mk x414 (.slice A417 x415.length c418) (.slice A422 x420.length c423) x425))) :: (.row kTPkt g416 A417 c418 32 x415) :: (.row kI g421 A422 c423 3 x420) :: (.box b14 32 (kTPkt.at_ a3)) :: (.row kTPkt g648 A649 c650 32 ([(TPkt.mk 1 x414.A.Id r595.1)] : (List TPkt))) :: σ)) ?_ ?_
      ·rintro a w ⟨T0, G647, g648, A649, c650, rfl, hG645, H646⟩
       refine any_alls [14] ⟨any_ops (m' := 32767) fun Q' hN => ?_, trivial⟩
       refine wl_append H646 sl35 el32 (i := 1) rfl rfl rfl ((H646.okAt (i := 4) rfl).src) hr616 ?_
       intro g658 A659 c660 w661 H662
       refine wl_nil (hN _ _ ?_)
       refine any_rn (i := 15) (m' := 65535) rfl (rn_nilCheck rfl) hPF hns ?_
       refine any_rn (i := 16) (m' := 131071) rfl (rn_field fo63_1 rfl) hPF hns ?_
       refine any_alls [17] ⟨any_ops (m' := 262143) fun Q' hN => ?_, trivial⟩
       refine wl_store (z := (.slice A659 r615.length c660)) H662 (i := 0) rfl lTnego_workV_Out ty35 rfl rfl ⟨[_], rfl, rfl, rfl⟩ ?_
       intro w664 H663
       refine wl_nil (hN _ _ ?_)
       refine any_end ?_
       iterate 2 refine blk_n ?_
       refine then_n ?_
       exact ⟨_, _, x414, r615, x420, x425, g658, A659, c660, g421, A422, c423, frame_eq [(0, (pt b0)), (7, (pt b14)), (40, (.slice A2_ a2.length c2_)), (41, (.int .i64 (a2.length : Int))), (42, (.int .i64 x413))] ⟨rfl, rfl, rfl, rfl, rfl, trivial⟩, (hG598.trans hG645), (St.pick [(.box b0 63 (kTnego_workV.at_ (Tnego_workV.mk x414 (.slice A659 r615.length c660) (.slice A422 x420.length c423) x425))), (.row kTPkt g658 A659 c660 32 r615), (.row kI g421 A422 c423 3 x420), (.box b14 32 (kTPkt.at_ a3)), (.row kTPkt g648 A649 c650 32 ([(TPkt.mk 1 x414.A.Id r595.1)] : (List TPkt)))] [(.box b14 32 (kTPkt.at_ a3)), (.box b0 63 (kTnego_workV.at_ (Tnego_workV.mk x414 (.slice A659 r615.length c660) (.slice A422 x420.length c423) x425))), (.row kTPkt g658 A659 c660 32 r615), (.row kI g421 A422 c423 3 x420)] [3, 0, 1, 2] H663 (by decide) rfl), hF⟩
      intro hM644
      refine any_memo (fuel := 5) (m := 8191) (fun a w => ∃ (T0 : Fr) (G1 : Ghost) (v638 : Value), a = mk 141 (upds T0 [(0, (pt b0)), (7, (pt b14)), (40, (.slice A2_ a2.length c2_)), (41, (.int .i64 (a2.length : Int))), (42, (.int .i64 x413)), (58, (pt b0)), (62, (.slice A417 x415.length c418)), (70, v638)]) ∧ GLe G597 G1 ∧ St c G1 w ((.box b0 63 (kTnego_workV.at_ (Tnego_workV.mk x414 (.slice A417 x415.length c418) (.slice A422 x420.length c423) x425))) :: (.row kTPkt g416 A417 c418 32 x415) :: (.row kI g421 A422 c423 3 x420) :: (.box b14 32 (kTPkt.at_ a3)) :: σ) ∧ kTPkt.V G1 v638 (TPkt.mk 1 x414.A.Id r595.1)) ?_ ?_
      ·rintro a w ⟨T0, G637, v638, rfl, hG635, H636, hv639⟩
       refine any_alls [13] ⟨any_ops (m' := 16383) fun Q' hN => ?_, trivial⟩
       refine wl_lit (K := kTPkt) (vs := [v638]) (xs := ([(TPkt.mk 1 x414.A.Id r595.1)] : (List TPkt))) H636 sl35 el32 rfl ⟨hv639, trivial⟩ rfl (by decide) ?_
       intro g665 w667 H666
       refine wl_nil (hN _ _ ?_)
       exact hM644 _ _ ⟨_, _, (some g665), (some ⟨g665, 0, none⟩), 1, frame_eq [(0, (pt b0)), (7, (pt b14)), (40, (.slice A2_ a2.length c2_)), (41, (.int .i64 (a2.length : Int))), (42, (.int .i64 x413)), (58, (pt b0)), (62, (.slice A417 x415.length c418)), (71, (.slice (some ⟨g665, 0, none⟩) ([(TPkt.mk 1 x414.A.Id r595.1)] : (List TPkt)).length 1))] ⟨rfl, rfl, rfl, rfl, rfl, rfl, rfl, rfl, trivial⟩, hG635, (St.pick [(.row kTPkt (some g665) (some ⟨g665, 0, none⟩) 1 32 ([(TPkt.mk 1 x414.A.Id r595.1)] : (List TPkt))), (.box b0 63 (kTnego_workV.at_ (Tnego_workV.mk x414 (.slice A417 x415.length c418) (.slice A422 x420.length c423) x425))), (.row kTPkt g416 A417 c418 32 x415), (.row kI g421 A422 c423 3 x420), (.box b14 32 (kTPkt.at_ a3))] [(.box b0 63 (kTnego_workV.at_ (Tnego_workV.mk x414 (.slice A417 x415.length c418) (.slice A422 x420.length c423) x425))), (.row kTPkt g416 A417 c418 32 x415), (.row kI g421 A422 c423 3 x420), (.box b14 32 (kTPkt.at_ a3)), (.row kTPkt (some g665) (some ⟨g665, 0, none⟩) 1 32 ([(TPkt.mk 1 x414.A.Id r595.1)] : (List TPkt)))] [1, 2, 3, 4, 0] H666 (by decide) rfl)⟩
      intro hM634
      refine any_rn (i := 0) (m' := 1) rfl (rn_pure (pt b0) rfl) hPF hns ?_
      refine any_rn (i := 1) (m' := 3) rfl (rn_pure (pt b0) rfl) hPF hns ?_
      refine any_rn (i := 2) (m' := 7) rfl (rn_nilCheck rfl) hPF hns ?_
      refine any_rn (i := 3) (m' := 15) rfl (rn_field fo63_1 rfl) hPF hns ?_
      refine any_rn (i := 5) (m' := 47) rfl (rn_pure (pt b0) rfl) hPF hns ?_
      refine any_rn (i := 6) (m' := 111) rfl (rn_nilCheck rfl) hPF hns ?_
      refine any_rn (i := 7) (m' := 239) rfl (rn_field fo63_0 rfl) hPF hns ?_
      refine any_rn (i := 8) (m' := 495) rfl (rn_field fo29_0 rfl) hPF hns ?_
      refine any_rn (i := 9) (m' := 1007) rfl (rn_field fo23_3 rfl) hPF hns ?_
      refine any_rn (i := 11) (m' := 3055) rfl (rn_pure (.slice A602 r595.1.length c603) rfl) hPF hns ?_
      refine any_alls [4, 10] ⟨?_, ?_, trivial⟩
      ·refine any_ops (m' := 3071) fun Q' hN => ?_
       refine wl_load H606 (i := 1) rfl lTnego_workV_Out ty35 rfl ?_
       intro v669 hv670
       obtain rfl := val_V hv670
       refine wl_nil (hN _ _ ?_)
       refine any_alls [10] ⟨any_ops (m' := 4095) fun Q' hN => ?_, trivial⟩
       refine wl_loadd H606 (i := 1) rfl (Lens.then (Lens.then lTnego_workV_Nego lTNego_A) lTAuto_Id) (dInt .u8) ty5 rfl ?_
       refine wl_nil (hN _ _ ?_)
       refine any_rnE (i := 12) (m' := 8191) rfl (rn_build (G := G597) zr32 rfl bs32 rfl (Parts.cons fo32_0 lTPkt_Code ((dInt .u8).toV _ _) (Parts.cons fo32_1 lTPkt_Id ((dInt .u8).toV _ _) (Parts.cons fo32_2 lTPkt_Data (slice_toV hs604) (Parts.nil _))))) hPF hns ?_
       intro v671 hv672
       exact hM634 _ _ ⟨_, _, v671, frame_eq [(0, (pt b0)), (7, (pt b14)), (40, (.slice A2_ a2.length c2_)), (41, (.int .i64 (a2.length : Int))), (42, (.int .i64 x413)), (58, (pt b0)), (62, (.slice A417 x415.length c418)), (70, v671)] ⟨rfl, rfl, rfl, rfl, rfl, rfl, rfl, rfl, trivial⟩, GLe.refl _, (St.pick [(.box b14 32 (kTPkt.at_ a3)), (.box b0 63 (kTnego_workV.at_ (Tnego_workV.mk x414 (.slice A417 x415.length c418) (.slice A422 x420.length c423) x425))), (.row kTPkt g416 A417 c418 32 x415), (.row kI g421 A422 c423 3 x420)] [(.box b0 63 (kTnego_workV.at_ (Tnego_workV.mk x414 (.slice A417 x415.length c418) (.slice A422 x420.length c423) x425))), (.row kTPkt g416 A417 c418 32 x415), (.row kI g421 A422 c423 3 x420), (.box b14 32 (kTPkt.at_ a3))] [1, 2, 3, 0] H606 (by decide) rfl), hv672⟩
      ·refine any_ops (m' := 4079) fun Q' hN => ?_
       refine wl_loadd H606 (i := 1) rfl (Lens.then (Lens.then lTnego_workV_Nego lTNego_A) lTAuto_Id) (dInt .u8) ty5 rfl ?_
       refine wl_nil (hN _ _ ?_)
       refine any_rnE (i := 12) (m' := 8175) rfl (rn_build (G := G597) zr32 rfl bs32 rfl (Parts.cons fo32_0 lTPkt_Code ((dInt .u8).toV _ _) (Parts.cons fo32_1 lTPkt_Id ((dInt .u8).toV _ _) (Parts.cons fo32_2 lTPkt_Data (slice_toV hs604) (Parts.nil _))))) hPF hns ?_
       intro v673 hv674
       refine any_alls [4, 13] ⟨?_, ?_, trivial⟩
       ·refine any_ops (m' := 8191) fun Q' hN => ?_
        refine wl_load H606 (i := 1) rfl lTnego_workV_Out ty35 rfl ?_
        intro v675 hv676
        obtain rfl := val_V hv676
        refine wl_nil (hN _ _ ?_)
        exact hM634 _ _ ⟨_, _, v673, frame_eq [(0, (pt b0)), (7, (pt b14)), (40, (.slice A2_ a2.length c2_)), (41, (.int .i64 (a2.length : Int))), (42, (.int .i64 x413)), (58, (pt b0)), (62, (.slice A417 x415.length c418)), (70, v673)] ⟨rfl, rfl, rfl, rfl, rfl, rfl, rfl, rfl, trivial⟩, GLe.refl _, (St.pick [(.box b14 32 (kTPkt.at_ a3)), (.box b0 63 (kTnego_workV.at_ (Tnego_workV.mk x414 (.slice A417 x415.length c418) (.slice A422 x420.length c423) x425))), (.row kTPkt g416 A417 c418 32 x415), (.row kI g421 A422 c423 3 x420)] [(.box b0 63 (kTnego_workV.at_ (Tnego_workV.mk x414 (.slice A417 x415.length c418) (.slice A422 x420.length c423) x425))), (.row kTPkt g416 A417 c418 32 x415), (.row kI g421 A422 c423 3 x420), (.box b14 32 (kTPkt.at_ a3))] [1, 2, 3, 0] H606 (by decide) rfl), hv674⟩
       ·refine any_ops (m' := 16367) fun Q' hN => ?_
        refine wl_lit (K := kTPkt) (vs := [v673]) (xs := ([(TPkt.mk 1 x414.A.Id r595.1)] : (List TPkt))) H606 sl35 el32 rfl ⟨hv674, trivial⟩ rfl (by decide) ?_
        intro g677 w679 H678
        refine wl_nil (hN _ _ ?_)
        refine any_alls [4] ⟨any_ops (m' := 16383) fun Q' hN => ?_, trivial⟩
        refine wl_load H678 (i := 2) rfl lTnego_workV_Out ty35 rfl ?_
        intro v681 hv682
        obtain rfl := val_V hv682
        refine wl_nil (hN _ _ ?_)
        exact hM644 _ _ ⟨_, _, (some g677), (some ⟨g677, 0, none⟩), 1, frame_eq [(0, (pt b0)), (7, (pt b14)), (40, (.slice A2_ a2.length c2_)), (41, (.int .i64 (a2.length : Int))), (42, (.int .i64 x413)), (58, (pt b0)), (62, (.slice A417 x415.length c418)), (71, (.slice (some ⟨g677, 0, none⟩) ([(TPkt.mk 1 x414.A.Id r595.1)] : (List TPkt)).length 1))] ⟨rfl, rfl, rfl, rfl, rfl, rfl, rfl, rfl, trivial⟩, GLe.refl _, (St.pick [(.row kTPkt (some g677) (some ⟨g677, 0, none⟩) 1 32 ([(TPkt.mk 1 x414.A.Id r595.1)] : (List TPkt))), (.box b14 32 (kTPkt.at_ a3)), (.box b0 63 (kTnego_workV.at_ (Tnego_workV.mk x414 (.slice A417 x415.length c418) (.slice A422 x420.length c423) x425))), (.row kTPkt g416 A417 c418 32 x415), (.row kI g421 A422 c423 3 x420)] [(.box b0 63 (kTnego_workV.at_ (Tnego_workV.mk x414 (.slice A417 x415.length c418) (.slice A422 x420.length c423) x425))), (.row kTPkt g416 A417 c418 32 x415), (.row kI g421 A422 c423 3 x420), (.box b14 32 (kTPkt.at_ a3)), (.row kTPkt (some g677) (some ⟨g677, 0, none⟩) 1 32 ([(TPkt.mk 1 x414.A.Id r595.1)] : (List TPkt)))] [2, 3, 4, 1, 0] H678 (by decide) rfl)⟩
     ·replace hF := ifF hF hb589
      refine wc_false (vb hb589) ?_
      refine wp_seq (wc_region ?_)
      iterate 2 refine wl_rn (rn_pure (.bool (x585 == 10)) rfl) ?_
      refine wl_nil (then_n ?_)
      rcases bcases (x585 == 10) with hb683 | hb683
      ·replace hF := ifT hF hb683
       refine wc_true (vb hb683) ?_
       refine wc_anyS (f := 17) H427 mixed ?_
       intro w684 H685
       refine any_pf (by repeat (first | exact PF.base | apply PF.then_ | apply PF.blk)) ?_
       intro hPF hns
       obtain ⟨r694, hr695, hF⟩ := bindS hF
       refine any_memo (fuel := 4) (m := 8191) (fun a w => ∃ (T0 : Fr) (G1 : Ghost) (g727 : Option Nat) (A728 : Option Addr) (c729 : Nat), a = mk 141 (upds T0 [(0, (pt b0)), (7, (pt b14)), (40, (.slice A2_ a2.length c2_)), (41, (.int .i64 (a2.length : Int))), (42, (.int .i64 x413)), (77, (pt b0)), (81, (.slice A417 x415.length c418)), (89, (.slice A728 ([(TPkt.mk 5 x414.A.Id zTPkt.Data)] : (List TPkt)).length c729))]) ∧ GLe G429 G1 ∧ St c G1 w ((.box b0 63 (kTnego_workV.at_ (Tnego_workV.mk x414 (.slice A417 x415.length c418) (.slice A422 x420.length c423) x425))) :: (.row kTPkt g416 A417 c418 32 x415) :: (.row kI g421 A422 c423 3 x420) :: (.box b14 32 (kTPkt.at_ a3)) :: (.row kTPkt g727 A728 c729 32 ([(TPkt.mk 5 x414.A.Id zTPkt.Data)] : (List TPkt))) :: σ)) ?_ ?_
       ·rintro a w ⟨T0, G726, g727, A728, c729, rfl, hG724, H725⟩
        refine any_alls [13] ⟨any_ops (m' := 16383) fun Q' hN => ?_, trivial⟩
        refine wl_append H725 sl35 el32 (i := 1) rfl rfl rfl ((H725.okAt (i := 4) rfl).src) hr695 ?_
        intro g737 A738 c739 w740 H741
        refine wl_nil (hN _ _ ?_)
        refine any_rn (i := 14) (m' := 32767) rfl (rn_nilCheck rfl) hPF hns ?_
        refine any_rn (i := 15) (m' := 65535) rfl (rn_field fo63_1 rfl) hPF hns ?_
        refine any_alls [16] ⟨any_ops (m' := 131071) fun Q' hN => ?_, trivial⟩
        refine wl_store (z := (.slice A738 r694.length c739)) H741 (i := 0) rfl lTnego_workV_Out ty35 rfl rfl ⟨[_], rfl, rfl, rfl⟩ ?_
        intro w743 H742
        refine wl_nil (hN _ _ ?_)
        refine any_end ?_
        iterate 2 refine blk_n ?_
        refine then_n ?_
        exact ⟨_, _, x414, r694, x420, x425, g737, A738, c739, g421, A422, c423, frame_eq [(0, (pt b0)), (7, (pt b14)), (40, (.slice A2_ a2.length c2_)), (41, (.int .i64 (a2.length : Int))), (42, (.int .i64 x413))] ⟨rfl, rfl, rfl, rfl, rfl, trivial⟩, hG724, (St.pick [(.box b0 63 (kTnego_workV.at_ (Tnego_workV.mk x414 (.slice A738 r694.length c739) (.slice A422 x420.length c423) x425))), (.row kTPkt g737 A738 c739 32 r694), (.row kI g421 A422 c423 3 x420), (.box b14 32 (kTPkt.at_ a3)), (.row kTPkt g727 A728 c729 32 ([(TPkt.mk 5 x414.A.Id zTPkt.Data)] : (List TPkt)))] [(.box b14 32 (kTPkt.at_ a3)), (.box b0 63 (kTnego_workV.at_ (Tnego_workV.mk x414 (.slice A738 r694.length c739) (.slice A422 x420.length c423) x425))), (.row kTPkt g737 A738 c739 32 r694), (.row kI g421 A422 c423 3 x420)] [3, 0, 1, 2] H742 (by decide) rfl), hF⟩
       intro hM723
       refine any_memo (fuel := 5) (m := 4095) (fun a w => ∃ (T0 : Fr) (G1 : Ghost) (v717 : Value), a = mk 141 (upds T0 [(0, (pt b0)), (7, (pt b14)), (40, (.slice A2_ a2.length c2_)), (41, (.int .i64 (a2.length : Int))), (42, (.int .i64 x413)), (77, (pt b0)), (81, (.slice A417 x415.length c418)), (88, v717)]) ∧ GLe G429 G1 ∧ St c G1 w ((.box b0 63 (kTnego_workV.at_ (Tnego_workV.mk x414 (.slice A417 x415.length c418) (.slice A422 x420.length c423) x425))) :: (.row kTPkt g416 A417 c418 32 x415) :: (.row kI g421 A422 c423 3 x420) :: (.box b14 32 (kTPkt.at_ a3)) :: σ) ∧ kTPkt.V G1 v717 (TPkt.mk 5 x414.A.Id zTPkt.Data)) ?_ ?_
       ·rintro a w ⟨T0, G716, v717, rfl, hG714, H715, hv718⟩
        refine any_alls [12] ⟨any_ops (m' := 8191) fun Q' hN => ?_, trivial⟩
        refine wl_lit (K := kTPkt) (vs := [v717]) (xs := ([(TPkt.mk 5 x414.A.Id zTPkt.Data)] : (List TPkt))) H715 sl35 el32 rfl ⟨hv718, trivial⟩ rfl (by decide) ?_
        intro g744 w746 H745
        refine wl_nil (hN _ _ ?_)
        exact hM723 _ _ ⟨_, _, (some g744), (some ⟨g744, 0, none⟩), 1, frame_eq [(0, (pt b0)), (7, (pt b14)), (40, (.slice A2_ a2.length c2_)), (41, (.int .i64 (a2.length : Int))), (42, (.int .i64 x413)), (77, (pt b0)), (81, (.slice A417 x415.length c418)), (89, (.slice (some ⟨g744, 0, none⟩) ([(TPkt.mk 5 x414.A.Id zTPkt.Data)] : (List TPkt)).length 1))] ⟨rfl, rfl, rfl, rfl, rfl, rfl, rfl, rfl, trivial⟩, hG714, (St.pick [(.row kTPkt (some g744) (some ⟨g744, 0, none⟩) 1 32 ([(TPkt.mk 5 x414.A.Id zTPkt.Data)] : (List TPkt))), (.box b0 63 (kTnego_workV.at_ (Tnego_workV.mk x414 (.slice A417 x415.length c418) (.slice A422 x420.length c423) x425))), (.row kTPkt g416 A417 c418 32 x415), (.row kI g421 A422 c423 3 x420), (.box b14 32 (kTPkt.at_ a3))] [(.box b0 63 (kTnego_workV.at_ (Tnego_workV.mk x414 (.slice A417 x415.length c418) (.slice A422 x420.length c423) x425))), (.row kTPkt g416 A417 c418 32 x415), (.row kI g421 A422 c423 3 x420), (.box b14 32 (kTPkt.at_ a3)), (.row kTPkt (some g744) (some ⟨g744, 0, none⟩) 1 32 ([(TPkt.mk 5 x414.A.Id zTPkt.Data)] : (List TPkt)))] [1, 2, 3, 4, 0] H745 (by decide) rfl)⟩
       intro hM713
       refine any_rn (i := 0) (m' := 1) rfl (rn_pure (pt b0) rfl) hPF hns ?_
       refine any_rn (i := 1) (m' := 3) rfl (rn_pure (pt b0) rfl) hPF hns ?_
       refine any_rn (i := 2) (m' := 7) rfl (rn_nilCheck rfl) hPF hns ?_
       refine any_rn (i := 3) (m' := 15) rfl (rn_field fo63_1 rfl) hPF hns ?_
       refine any_rn (i := 5) (m' := 47) rfl (rn_pure (pt b0) rfl) hPF hns ?_
       refine any_rn (i := 6) (m' := 111) rfl (rn_nilCheck rfl) hPF hns ?_
       refine any_rn (i := 7) (m' := 239) rfl (rn_field fo63_0 rfl) hPF hns ?_
       refine any_rn (i := 8) (m' := 495) rfl (rn_field fo29_0 rfl) hPF hns ?_
       refine any_rn (i := 9) (m' := 1007) rfl (rn_field fo23_3 rfl) hPF hns ?_
       refine any_alls [4, 10] ⟨?_, ?_, trivial⟩
       ·refine any_ops (m' := 1023) fun Q' hN => ?_
        refine wl_load H685 (i := 1) rfl lTnego_workV_Out ty35 rfl ?_
        intro v748 hv749
        obtain rfl := val_V hv749
        refine wl_nil (hN _ _ ?_)
        refine any_alls [10] ⟨any_ops (m' := 2047) fun Q' hN => ?_, trivial⟩
        refine wl_loadd H685 (i := 1) rfl (Lens.then (Lens.then lTnego_workV_Nego lTNego_A) lTAuto_Id) (dInt .u8) ty5 rfl ?_
        refine wl_nil (hN _ _ ?_)
        refine any_rnE (i := 11) (m' := 4095) rfl (rn_build (G := G429) zr32 rfl bs32 rfl (Parts.cons fo32_0 lTPkt_Code ((dInt .u8).toV _ _) (Parts.cons fo32_1 lTPkt_Id ((dInt .u8).toV _ _) (Parts.nil _)))) hPF hns ?_
        intro v750 hv751
        exact hM713 _ _ ⟨_, _, v750, frame_eq [(0, (pt b0)), (7, (pt b14)), (40, (.slice A2_ a2.length c2_)), (41, (.int .i64 (a2.length : Int))), (42, (.int .i64 x413)), (77, (pt b0)), (81, (.slice A417 x415.length c418)), (88, v750)] ⟨rfl, rfl, rfl, rfl, rfl, rfl, rfl, rfl, trivial⟩, GLe.refl _, (St.pick [(.box b14 32 (kTPkt.at_ a3)), (.box b0 63 (kTnego_workV.at_ (Tnego_workV.mk x414 (.slice A417 x415.length c418) (.slice A422 x420.length c423) x425))), (.row kTPkt g416 A417 c418 32 x415), (.row kI g421 A422 c423 3 x420)] [(.box b0 63 (kTnego_workV.at_ (Tnego_workV.mk x414 (.slice A417 x415.length c418) (.slice A422 x420.length c423) x425))), (.row kTPkt g416 A417 c418 32 x415), (.row kI g421 A422 c423 3 x420), (.box b14 32 (kTPkt.at_ a3))] [1, 2, 3, 0] H685 (by decide) rfl), hv751⟩
       ·refine any_ops (m' := 2031) fun Q' hN => ?_
        refine wl_loadd H685 (i := 1) rfl (Lens.then (Lens.then lTnego_workV_Nego lTNego_A) lTAuto_Id) (dInt .u8) ty5 rfl ?_
        refine wl_nil (hN _ _ ?_)
        refine any_rnE (i := 11) (m' := 4079) rfl (rn_build (G := G429) zr32 rfl bs32 rfl (Parts.cons fo32_0 lTPkt_Code ((dInt .u8).toV _ _) (Parts.cons fo32_1 lTPkt_Id ((dInt .u8).toV _ _) (Parts.nil _)))) hPF hns ?_
        intro v752 hv753
        refine any_alls [4, 12] ⟨?_, ?_, trivial⟩
        ·refine any_ops (m' := 4095) fun Q' hN => ?_
         refine wl_load H685 (i := 1) rfl lTnego_workV_Out ty35 rfl ?_
         intro v754 hv755
         obtain rfl := val_V hv755
         refine wl_nil (hN _ _ ?_)
         exact hM713 _ _ ⟨_, _, v752, frame_eq [(0, (pt b0)), (7, (pt b14)), (40, (.slice A2_ a2.length c2_)), (41, (.int .i64 (a2.length : Int))), (42, (.int .i64 x413)), (77, (pt b0)), (81, (.slice A417 x415.length c418)), (88, v752)] ⟨rfl, rfl, rfl, rfl, rfl, rfl, rfl, rfl, trivial⟩, GLe.refl _, (St.pick [(.box b14 32 (kTPkt.at_ a3)), (.box b0 63 (kTnego_workV.at_ (Tnego_workV.mk x414 (.slice A417 x415.length c418) (.slice A422 x420.length c423) x425))), (.row kTPkt g416 A417 c418 32 x415), (.row kI g421 A422 c423 3 x420)] [(.box b0 63 (kTnego_workV.at_ (Tnego_workV.mk x414 (.slice A417 x415.length c418) (.slice A422 x420.length c423) x425))), (.row kTPkt g416 A417 c418 32 x415), (.row kI g421 A422 c423 3 x420), (.box b14 32 (kTPkt.at_ a3))] [1, 2, 3, 0] H685 (by decide) rfl), hv753⟩
        ·refine any_ops (m' := 8175) fun Q' hN => ?_
         refine wl_lit (K := kTPkt) (vs := [v752]) (xs := ([(TPkt.mk 5 x414.A.Id zTPkt.Data)] : (List TPkt))) H685 sl35 el32 rfl ⟨hv753, trivial⟩ rfl (by decide) ?_
         intro g756 w758 H757
         refine wl_nil (hN _ _ ?_)
         refine any_alls [4] ⟨any_ops (m' := 8191) fun Q' hN => ?_, trivial⟩
         refine wl_load H757 (i := 2) rfl lTnego_workV_Out ty35 rfl ?_
         intro v760 hv761
         obtain rfl := val_V hv761
         refine wl_nil (hN _ _ ?_)
         exact hM723 _ _ ⟨_, _, (some g756), (some ⟨g756, 0, none⟩), 1, frame_eq [(0, (pt b0)), (7, (pt b14)), (40, (.slice A2_ a2.length c2_)), (41, (.int .i64 (a2.length : Int))), (42, (.int .i64 x413)), (77, (pt b0)), (81, (.slice A417 x415.length c418)), (89, (.slice (some ⟨g756, 0, none⟩) ([(TPkt.mk 5 x414.A.Id zTPkt.Data)] : (List TPkt)).length 1))] ⟨rfl, rfl, rfl, rfl, rfl, rfl, rfl, rfl, trivial⟩, GLe.refl _, (St.pick [(.row kTPkt (some g756) (some ⟨g756, 0, none⟩) 1 32 ([(TPkt.mk 5 x414.A.Id zTPkt.Data)] : (List TPkt))), (.box b14 32 (kTPkt.at_ a3)), (.box b0 63 (kTnego_workV.at_ (Tnego_workV.mk x414 (.slice A417 x415.length c418) (.slice A422 x420.length c423) x425))), (.row kTPkt g416 A417 c418 32 x415), (.row kI g421 A422 c423 3 x420)] [(.box b0 63 (kTnego_workV.at_ (Tnego_workV.mk x414 (.slice A417 x415.length c418) (.slice A422 x420.length c423) x425))), (.row kTPkt g416 A417 c418 32 x415), (.row kI g421 A422 c423 3 x420), (.box b14 32 (kTPkt.at_ a3)), (.row kTPkt (some g756) (some ⟨g756, 0, none⟩) 1 32 ([(TPkt.mk 5 x414.A.Id zTPkt.Data)] : (List TPkt)))] [2, 3, 4, 1, 0] H757 (by decide) rfl)⟩
      ·replace hF := ifF hF hb683
       refine wc_false (vb hb683) ?_
       refine wp_seq (wc_region ?_)
       iterate 2 refine wl_rn (rn_pure (.bool (x585 == 11)) rfl) ?_
       refine wl_nil (then_n ?_)
       rcases bcases (x585 == 11) with hb762 | hb762
       ·replace hF := ifT hF hb762
        refine wc_true (vb hb762) ?_
        refine wc_anyS (f := 16) H427 mixed ?_
        intro w763 H764
        refine any_pf (by repeat (first | exact PF.base | apply PF.then_ | apply PF.blk)) ?_
        intro hPF hns
        obtain ⟨r773, hr774, hF⟩ := bindS hF
        refine any_memo (fuel := 4) (m := 4095) (fun a w => ∃ (T0 : Fr) (G1 : Ghost) (g806 : Option Nat) (A807 : Option Addr) (c808 : Nat), a = mk 141 (upds T0 [(0, (pt b0)), (7, (pt b14)), (40, (.slice A2_ a2.length c2_)), (41, (.int .i64 (a2.length : Int))), (42, (.int .i64 x413)), (95, (pt b0)), (99, (.slice A417 x415.length c418)), (106, (.slice A807 ([(TPkt.mk 6 x425.Id zTPkt.Data)] : (List TPkt)).length c808))]) ∧ GLe G429 G1 ∧ St c G1 w ((.box b0 63 (kTnego_workV.at_ (Tnego_workV.mk x414 (.slice A417 x415.length c418) (.slice A422 x420.length c423) x425))) :: (.row kTPkt g416 A417 c418 32 x415) :: (.row kI g421 A422 c423 3 x420) :: (.box b14 32 (kTPkt.at_ a3)) :: (.row kTPkt g806 A807 c808 32 ([(TPkt.mk 6 x425.Id zTPkt.Data)] : (List TPkt))) :: σ)) ?_ ?_
        ·rintro a w ⟨T0, G805, g806, A807, c808, rfl, hG803, H804⟩
         refine any_alls [12] ⟨any_ops (m' := 8191) fun Q' hN => ?_, trivial⟩
         refine wl_append H804 sl35 el32 (i := 1) rfl rfl rfl ((H804.okAt (i := 4) rfl).src) hr774 ?_
         intro g816 A817 c818 w819 H820
         refine wl_nil (hN _ _ ?_)
         refine any_rn (i := 13) (m' := 16383) rfl (rn_nilCheck rfl) hPF hns ?_
         refine any_rn (i := 14) (m' := 32767) rfl (rn_field fo63_1 rfl) hPF hns ?_
         refine any_alls [15] ⟨any_ops (m' := 65535) fun Q' hN => ?_, trivial⟩
         refine wl_store (z := (.slice A817 r773.length c818)) H820 (i := 0) rfl lTnego_workV_Out ty35 rfl rfl ⟨[_], rfl, rfl, rfl⟩ ?_
         intro w822 H821
         refine wl_nil (hN _ _ ?_)
         refine any_end ?_
         iterate 2 refine blk_n ?_
         refine then_n ?_
         exact ⟨_, _, x414, r773, x420, x425, g816, A817, c818, g421, A422, c423, frame_eq [(0, (pt b0)), (7, (pt b14)), (40, (.slice A2_ a2.length c2_)), (41, (.int .i64 (a2.length : Int))), (42, (.int .i64 x413))] ⟨rfl, rfl, rfl, rfl, rfl, trivial⟩, hG803, (St.pick [(.box b0 63 (kTnego_workV.at_ (Tnego_workV.mk x414 (.slice A817 r773.length c818) (.slice A422 x420.length c423) x425))), (.row kTPkt g816 A817 c818 32 r773), (.row kI g421 A422 c423 3 x420), (.box b14 32 (kTPkt.at_ a3)), (.row kTPkt g806 A807 c808 32 ([(TPkt.mk 6 x425.Id zTPkt.Data)] : (List TPkt)))] [(.box b14 32 (kTPkt.at_ a3)), (.box b0 63 (kTnego_workV.at_ (Tnego_workV.mk x414 (.slice A817 r773.length c818) (.slice A422 x420.length c423) x425))), (.row kTPkt g816 A817 c818 32 r773), (.row kI g421 A422 c423 3 x420)] [3, 0, 1, 2] H821 (by decide) rfl), hF⟩
        intro hM802
        refine any_memo (fuel := 5) (m := 2047) (fun a w => ∃ (T0 : Fr) (G1 : Ghost) (v796 : Value), a = mk 141 (upds T0 [(0, (pt b0)), (7, (pt b14)), (40, (.slice A2_ a2.length c2_)), (41, (.int .i64 (a2.length : Int))), (42, (.int .i64 x413)), (95, (pt b0)), (99, (.slice A417 x415.length c418)), (105, v796)]) ∧ GLe G429 G1 ∧ St c G1 w ((.box b0 63 (kTnego_workV.at_ (Tnego_workV.mk x414 (.slice A417 x415.length c418) (.slice A422 x420.length c423) x425))) :: (.row kTPkt g416 A417 c418 32 x415) :: (.row kI g421 A422 c423 3 x420) :: (.box b14 32 (kTPkt.at_ a3)) :: σ) ∧ kTPkt.V G1 v796 (TPkt.mk 6 x425.Id zTPkt.Data)) ?_ ?_
        ·rintro a w ⟨T0, G795, v796, rfl, hG793, H794, hv797⟩
         refine any_alls [11] ⟨any_ops (m' := 4095) fun Q' hN => ?_, trivial⟩
         refine wl_lit (K := kTPkt) (vs := [v796]) (xs := ([(TPkt.mk 6 x425.Id zTPkt.Data)] : (List TPkt))) H794 sl35 el32 rfl ⟨hv797, trivial⟩ rfl (by decide) ?_
         intro g823 w825 H824
         refine wl_nil (hN _ _ ?_)
         exact hM802 _ _ ⟨_, _, (some g823), (some ⟨g823, 0, none⟩), 1, frame_eq [(0, (pt b0)), (7, (pt b14)), (40, (.slice A2_ a2.length c2_)), (41, (.int .i64 (a2.length : Int))), (42, (.int .i64 x413)), (95, (pt b0)), (99, (.slice A417 x415.length c418)), (106, (.slice (some ⟨g823, 0, none⟩) ([(TPkt.mk 6 x425.Id zTPkt.Data)] : (List TPkt)).length 1))] ⟨rfl, rfl, rfl, rfl, rfl, rfl, rfl, rfl, trivial⟩, hG793, (St.pick [(.row kTPkt (some g823) (some ⟨g823, 0, none⟩) 1 32 ([(TPkt.mk 6 x425.Id zTPkt.Data)] : (List TPkt))), (.box b0 63 (kTnego_workV.at_ (Tnego_workV.mk x414 (.slice A417 x415.length c418) (.slice A422 x420.length c423) x425))), (.row kTPkt g416 A417 c418 32 x415), (.row kI g421 A422 c423 3 x420), (.box b14 32 (kTPkt.at_ a3))] [(.box b0 63 (kTnego_workV.at_ (Tnego_workV.mk x414 (.slice A417 x415.length c418) (.slice A422 x420.length c423) x425))), (.row kTPkt g416 A417 c418 32 x415), (.row kI g421 A422 c423 3 x420), (.box b14 32 (kTPkt.at_ a3)), (.row kTPkt (some g823) (some ⟨g823, 0, none⟩) 1 32 ([(TPkt.mk 6 x425.Id zTPkt.Data)] : (List TPkt)))] [1, 2, 3, 4, 0] H824 (by decide) rfl)⟩
        intro hM792
        refine any_rn (i := 0) (m' := 1) rfl (rn_pure (pt b0) rfl) hPF hns ?_
        refine any_rn (i := 1) (m' := 3) rfl (rn_pure (pt b0) rfl) hPF hns ?_
        refine any_rn (i := 2) (m' := 7) rfl (rn_nilCheck rfl) hPF hns ?_
        refine any_rn (i := 3) (m' := 15) rfl (rn_field fo63_1 rfl) hPF hns ?_
        refine any_rn (i := 5) (m' := 47) rfl (rn_pure (pt b0) rfl) hPF hns ?_
        refine any_rn (i := 6) (m' := 111) rfl (rn_nilCheck rfl) hPF hns ?_
        refine any_rn (i := 7) (m' := 239) rfl (rn_field fo63_3 rfl) hPF hns ?_
        refine any_rn (i := 8) (m' := 495) rfl (rn_field fo32_1 rfl) hPF hns ?_
        refine any_alls [4, 9] ⟨?_, ?_, trivial⟩
        ·refine any_ops (m' := 511) fun Q' hN => ?_
         refine wl_load H764 (i := 1) rfl lTnego_workV_Out ty35 rfl ?_
         intro v827 hv828
         obtain rfl := val_V hv828
         refine wl_nil (hN _ _ ?_)
         refine any_alls [9] ⟨any_ops (m' := 1023) fun Q' hN => ?_, trivial⟩
         refine wl_loadd H764 (i := 1) rfl (Lens.then lTnego_workV_P lTPkt_Id) (dInt .u8) ty5 rfl ?_
         refine wl_nil (hN _ _ ?_)
         refine any_rnE (i := 10) (m' := 2047) rfl (rn_build (G := G429) zr32 rfl bs32 rfl (Parts.cons fo32_0 lTPkt_Code ((dInt .u8).toV _ _) (Parts.cons fo32_1 lTPkt_Id ((dInt .u8).toV _ _) (Parts.nil _)))) hPF hns ?_
         intro v829 hv830
         exact hM792 _ _ ⟨_, _, v829, frame_eq [(0, (pt b0)), (7, (pt b14)), (40, (.slice A2_ a2.length c2_)), (41, (.int .i64 (a2.length : Int))), (42, (.int .i64 x413)), (95, (pt b0)), (99, (.slice A417 x415.length c418)), (105, v829)] ⟨rfl, rfl, rfl, rfl, rfl, rfl, rfl, rfl, trivial⟩, GLe.refl _, (St.pick [(.box b14 32 (kTPkt.at_ a3)), (.box b0 63 (kTnego_workV.at_ (Tnego_workV.mk x414 (.slice A417 x415.length c418) (.slice A422 x420.length c423) x425))), (.row kTPkt g416 A417 c418 32 x415), (.row kI g421 A422 c423 3 x420)] [(.box b0 63 (kTnego_workV.at_ (Tnego_workV.mk x414 (.slice A417 x415.length c418) (.slice A422 x420.length c423) x425))), (.row kTPkt g416 A417 c418 32 x415), (.row kI g421 A422 c423 3 x420), (.box b14 32 (kTPkt.at_ a3))] [1, 2, 3, 0] H764 (by decide) rfl), hv830⟩
        ·refine any_ops (m' := 1007) fun Q' hN => ?_
         refine wl_loadd H764 (i := 1) rfl (Lens.then lTnego_workV_P lTPkt_Id) (dInt .u8) ty5 rfl ?_
         refine wl_nil (hN _ _ ?_)
         refine any_rnE (i := 10) (m' := 2031) rfl (rn_build (G := G429) zr32 rfl bs32 rfl (Parts.cons fo32_0 lTPkt_Code ((dInt .u8).toV _ _) (Parts.cons fo32_1 lTPkt_Id ((dInt .u8).toV _ _) (Parts.nil _)))) hPF hns ?_
         intro v831 hv832
         refine any_alls [4, 11] ⟨?_, ?_, trivial⟩
         ·refine any_ops (m' := 2047) fun Q' hN => ?_
          refine wl_load H764 (i := 1) rfl lTnego_workV_Out ty35 rfl ?_
          intro v833 hv834
          obtain rfl := val_V hv834
          refine wl_nil (hN _ _ ?_)
          exact hM792 _ _ ⟨_, _, v831, frame_eq [(0, (pt b0)), (7, (pt b14)), (40, (.slice A2_ a2.length c2_)), (41, (.int .i64 (a2.length : Int))), (42, (.int .i64 x413)), (95, (pt b0)), (99, (.slice A417 x415.length c418)), (105, v831)] ⟨rfl, rfl, rfl, rfl, rfl, rfl, rfl, rfl, trivial⟩, GLe.refl _, (St.pick [(.box b14 32 (kTPkt.at_ a3)), (.box b0 63 (kTnego_workV.at_ (Tnego_workV.mk x414 (.slice A417 x415.length c418) (.slice A422 x420.length c423) x425))), (.row kTPkt g416 A417 c418 32 x415), (.row kI g421 A422 c423 3 x420)] [(.box b0 63 (kTnego_workV.at_ (Tnego_workV.mk x414 (.slice A417 x415.length c418) (.slice A422 x420.length c423) x425))), (.row kTPkt g416 A417 c418 32 x415), (.row kI g421 A422 c423 3 x420), (.box b14 32 (kTPkt.at_ a3))] [1, 2, 3, 0] H764 (by decide) rfl), hv832⟩
         ·refine any_ops (m' := 4079) fun Q' hN => ?_
          refine wl_lit (K := kTPkt) (vs := [v831]) (xs := ([(TPkt.mk 6 x425.Id zTPkt.Data)] : (List TPkt))) H764 sl35 el32 rfl ⟨hv832, trivial⟩ rfl (by decide) ?_
          intro g835 w837 H836
          refine wl_nil (hN _ _ ?_)
          refine any_alls [4] ⟨any_ops (m' := 4095) fun Q' hN => ?_, trivial⟩
          refine wl_load H836 (i := 2) rfl lTnego_workV_Out ty35 rfl ?_
          intro v839 hv840
          obtain rfl := val_V hv840
          refine wl_nil (hN _ _ ?_)
          exact hM802 _ _ ⟨_, _, (some g835), (some ⟨g835, 0, none⟩), 1, frame_eq [(0, (pt b0)), (7, (pt b14)), (40, (.slice A2_ a2.length c2_)), (41, (.int .i64 (a2.length : Int))), (42, (.int .i64 x413)), (95, (pt b0)), (99, (.slice A417 x415.length c418)), (106, (.slice (some ⟨g835, 0, none⟩) ([(TPkt.mk 6 x425.Id zTPkt.Data)] : (List TPkt)).length 1))] ⟨rfl, rfl, rfl, rfl, rfl, rfl, rfl, rfl, trivial⟩, GLe.refl _, (St.pick [(.row kTPkt (some g835) (some ⟨g835, 0, none⟩) 1 32 ([(TPkt.mk 6 x425.Id zTPkt.Data)] : (List TPkt))), (.box b14 32 (kTPkt.at_ a3)), (.box b0 63 (kTnego_workV.at_ (Tnego_workV.mk x414 (.slice A417 x415.length c418) (.slice A422 x420.length c423) x425))), (.row kTPkt g416 A417 c418 32 x415), (.row kI g421 A422 c423 3 x420)] [(.box b0 63 (kTnego_workV.at_ (Tnego_workV.mk x414 (.slice A417 x415.length c418) (.slice A422 x420.length c423) x425))), (.row kTPkt g416 A417 c418 32 x415), (.row kI g421 A422 c423 3 x420), (.box b14 32 (kTPkt.at_ a3)), (.row kTPkt (some g835) (some ⟨g835, 0, none⟩) 1 32 ([(TPkt.mk 6 x425.Id zTPkt.Data)] : (List TPkt)))] [2, 3, 4, 1, 0] H836 (by decide) rfl)⟩
       ·replace hF := ifF hF hb762
        refine wc_false (vb hb762) ?_
        refine wp_seq (join (fun a w => ∃ (T0 : Fr) (G1 : Ghost) (x844 : Bool) (x845 : TNego) (x846 : (List TPkt)) (x851 : (List Int)) (x856 : TPkt) (g847 : Option Nat) (A848 : Option Addr) (c849 : Nat) (g852 : Option Nat) (A853 : Option Addr) (c854 : Nat), a = mk 141 (upds T0 [(0, (pt b0)), (7, (pt b14)), (9, (.int .i64 x585)), (40, (.slice A2_ a2.length c2_)), (41, (.int .i64 (a2.length : Int))), (42, (.int .i64 x413)), (46, (.int .i64 x585)), (110, (.bool x844))]) ∧ GLe G429 G1 ∧ St c G1 w ((.box b14 32 (kTPkt.at_ a3)) :: (.box b0 63 (kTnego_workV.at_ (Tnego_workV.mk x845 (.slice A848 x846.length c849) (.slice A853 x851.length c854) x856))) :: (.row kTPkt g847 A848 c849 32 x846) :: (.row kI g852 A853 c854 3 x851) :: σ) ∧ nego_work_acts_j4 a3 x413 x585 x844 x845 x846 x851 x856 = some y428) ?_ ?_)
        ·rintro a w ⟨T0, G859, x844, x845, x846, x851, x856, g847, A848, c849, g852, A853, c854, rfl, hG857, H858, hF⟩
         rcases bcases x844 with hb860 | hb860
         ·replace hF := ifT hF hb860
          refine wc_true (vb hb860) ?_
          refine wc_anyS (f := 11) H858 mixed ?_
          intro w861 H862
          refine any_pf (by repeat (first | exact PF.base | apply PF.then_ | apply PF.blk)) ?_
          intro hPF hns
          obtain ⟨r871, hr872, hF⟩ := bindS hF
          refine any_memo (fuel := 4) (m := 127) (fun a w => ∃ (T0 : Fr) (G1 : Ghost) (g904 : Option Nat) (A905 : Option Addr) (c906 : Nat), a = mk 141 (upds T0 [(0, (pt b0)), (7, (pt b14)), (40, (.slice A2_ a2.length c2_)), (41, (.int .i64 (a2.length : Int))), (42, (.int .i64 x413)), (115, (pt b0)), (119, (.slice A848 x846.length c849)), (121, (.slice A905 ([a3] : (List TPkt)).length c906))]) ∧ GLe G859 G1 ∧ St c G1 w ((.box b0 63 (kTnego_workV.at_ (Tnego_workV.mk x845 (.slice A848 x846.length c849) (.slice A853 x851.length c854) x856))) :: (.row kTPkt g847 A848 c849 32 x846) :: (.row kI g852 A853 c854 3 x851) :: (.box b14 32 (kTPkt.at_ a3)) :: (.row kTPkt g904 A905 c906 32 ([a3] : (List TPkt))) :: σ)) ?_ ?_
          ·rintro a w ⟨T0, G903, g904, A905, c906, rfl, hG901, H902⟩
           refine any_alls [7] ⟨any_ops (m' := 255) fun Q' hN => ?_, trivial⟩
           refine wl_append H902 sl35 el32 (i := 1) rfl rfl rfl ((H902.okAt (i := 4) rfl).src) hr872 ?_
           intro g914 A915 c916 w917 H918
           refine wl_nil (hN _ _ ?_)
           refine any_rn (i := 8) (m' := 511) rfl (rn_nilCheck rfl) hPF hns ?_
           refine any_rn (i := 9) (m' := 1023) rfl (rn_field fo63_1 rfl) hPF hns ?_
           refine any_alls [10] ⟨any_ops (m' := 2047) fun Q' hN => ?_, trivial⟩
           refine wl_store (z := (.slice A915 r871.length c916)) H918 (i := 0) rfl lTnego_workV_Out ty35 rfl rfl ⟨[_], rfl, rfl, rfl⟩ ?_
           intro w920 H919
           refine wl_nil (hN _ _ ?_)
           refine any_end ?_
           iterate 2 refine blk_n ?_
           refine then_n ?_
           exact ⟨_, _, x845, r871, x851, x856, g914, A915, c916, g852, A853, c854, frame_eq [(0, (pt b0)), (7, (pt b14)), (40, (.slice A2_ a2.length c2_)), (41, (.int .i64 (a2.length : Int))), (42, (.int .i64 x413))] ⟨rfl, rfl, rfl, rfl, rfl, trivial⟩, (hG857.trans hG901), (St.pick [(.box b0 63 (kTnego_workV.at_ (Tnego_workV.mk x845 (.slice A915 r871.length c916) (.slice A853 x851.length c854) x856))), (.row kTPkt g914 A915 c916 32 r871), (.row kI g852 A853 c854 3 x851), (.box b14 32 (kTPkt.at_ a3)), (.row kTPkt g904 A905 c906 32 ([a3] : (List TPkt)))] [(.box b14 32 (kTPkt.at_ a3)), (.box b0 63 (kTnego_workV.at_ (Tnego_workV.mk x845 (.slice A915 r871.length c916) (.slice A853 x851.length c854) x856))), (.row kTPkt g914 A915 c916 32 r871), (.row kI g852 A853 c854 3 x851)] [3, 0, 1, 2] H919 (by decide) rfl), hF⟩
          intro hM900
          refine any_memo (fuel := 5) (m := 63) (fun a w => ∃ (T0 : Fr) (G1 : Ghost) (v894 : Value), a = mk 141 (upds T0 [(0, (pt b0)), (7, (pt b14)), (40, (.slice A2_ a2.length c2_)), (41, (.int .i64 (a2.length : Int))), (42, (.int .i64 x413)), (115, (pt b0)), (119, (.slice A848 x846.length c849)), (120, v894)]) ∧ GLe G859 G1 ∧ St c G1 w ((.box b0 63 (kTnego_workV.at_ (Tnego_workV.mk x845 (.slice A848 x846.length c849) (.slice A853 x851.length c854) x856))) :: (.row kTPkt g847 A848 c849 32 x846) :: (.row kI g852 A853 c854 3 x851) :: (.box b14 32 (kTPkt.at_ a3)) :: σ) ∧ kTPkt.V G1 v894 a3) ?_ ?_
          ·rintro a w ⟨T0, G893, v894, rfl, hG891, H892, hv895⟩
           refine any_alls [6] ⟨any_ops (m' := 127) fun Q' hN => ?_, trivial⟩
           refine wl_lit (K := kTPkt) (vs := [v894]) (xs := ([a3] : (List TPkt))) H892 sl35 el32 rfl ⟨hv895, trivial⟩ rfl (by decide) ?_
           intro g921 w923 H922
           refine wl_nil (hN _ _ ?_)
           exact hM900 _ _ ⟨_, _, (some g921), (some ⟨g921, 0, none⟩), 1, frame_eq [(0, (pt b0)), (7, (pt b14)), (40, (.slice A2_ a2.length c2_)), (41, (.int .i64 (a2.length : Int))), (42, (.int .i64 x413)), (115, (pt b0)), (119, (.slice A848 x846.length c849)), (121, (.slice (some ⟨g921, 0, none⟩) ([a3] : (List TPkt)).length 1))] ⟨rfl, rfl, rfl, rfl, rfl, rfl, rfl, rfl, trivial⟩, hG891, (St.pick [(.row kTPkt (some g921) (some ⟨g921, 0, none⟩) 1 32 ([a3] : (List TPkt))), (.box b0 63 (kTnego_workV.at_ (Tnego_workV.mk x845 (.slice A848 x846.length c849) (.slice A853 x851.length c854) x856))), (.row kTPkt g847 A848 c849 32 x846), (.row kI g852 A853 c854 3 x851), (.box b14 32 (kTPkt.at_ a3))] [(.box b0 63 (kTnego_workV.at_ (Tnego_workV.mk x845 (.slice A848 x846.length c849) (.slice A853 x851.length c854) x856))), (.row kTPkt g847 A848 c849 32 x846), (.row kI g852 A853 c854 3 x851), (.box b14 32 (kTPkt.at_ a3)), (.row kTPkt (some g921) (some ⟨g921, 0, none⟩) 1 32 ([a3] : (List TPkt)))] [1, 2, 3, 4, 0] H922 (by decide) rfl)⟩
          intro hM890
          refine any_rn (i := 0) (m' := 1) rfl (rn_pure (pt b0) rfl) hPF hns ?_
          refine any_rn (i := 1) (m' := 3) rfl (rn_pure (pt b0) rfl) hPF hns ?_
          refine any_rn (i := 2) (m' := 7) rfl (rn_nilCheck rfl) hPF hns ?_
          refine any_rn (i := 3) (m' := 15) rfl (rn_field fo63_1 rfl) hPF hns ?_
          refine any_alls [4, 5] ⟨?_, ?_, trivial⟩
          ·refine any_ops (m' := 31) fun Q' hN => ?_
           refine wl_load H862 (i := 1) rfl lTnego_workV_Out ty35 rfl ?_
           intro v925 hv926
           obtain rfl := val_V hv926
           refine wl_nil (hN _ _ ?_)
           refine any_alls [5] ⟨any_ops (m' := 63) fun Q' hN => ?_, trivial⟩
           refine wl_load H862 (i := 0) rfl (Lens.id kTPkt) ty32 rfl ?_
           intro v927 hv928
           refine wl_nil (hN _ _ ?_)
           exact hM890 _ _ ⟨_, _, v927, frame_eq [(0, (pt b0)), (7, (pt b14)), (40, (.slice A2_ a2.length c2_)), (41, (.int .i64 (a2.length : Int))), (42, (.int .i64 x413)), (115, (pt b0)), (119, (.slice A848 x846.length c849)), (120, v927)] ⟨rfl, rfl, rfl, rfl, rfl, rfl, rfl, rfl, trivial⟩, GLe.refl _, (St.pick [(.box b14 32 (kTPkt.at_ a3)), (.box b0 63 (kTnego_workV.at_ (Tnego_workV.mk x845 (.slice A848 x846.length c849) (.slice A853 x851.length c854) x856))), (.row kTPkt g847 A848 c849 32 x846), (.row kI g852 A853 c854 3 x851)] [(.box b0 63 (kTnego_workV.at_ (Tnego_workV.mk x845 (.slice A848 x846.length c849) (.slice A853 x851.length c854) x856))), (.row kTPkt g847 A848 c849 32 x846), (.row kI g852 A853 c854 3 x851), (.box b14 32 (kTPkt.at_ a3))] [1, 2, 3, 0] H862 (by decide) rfl), hv928⟩
          ·refine any_ops (m' := 47) fun Q' hN => ?_
           refine wl_load H862 (i := 0) rfl (Lens.id kTPkt) ty32 rfl ?_
           intro v929 hv930
           refine wl_nil (hN _ _ ?_)
           refine any_alls [4, 6] ⟨?_, ?_, trivial⟩
           ·refine any_ops (m' := 63) fun Q' hN => ?_
            refine wl_load H862 (i := 1) rfl lTnego_workV_Out ty35 rfl ?_
            intro v931 hv932
            obtain rfl := val_V hv932
            refine wl_nil (hN _ _ ?_)
            exact hM890 _ _ ⟨_, _, v929, frame_eq [(0, (pt b0)), (7, (pt b14)), (40, (.slice A2_ a2.length c2_)), (41, (.int .i64 (a2.length : Int))), (42, (.int .i64 x413)), (115, (pt b0)), (119, (.slice A848 x846.length c849)), (120, v929)] ⟨rfl, rfl, rfl, rfl, rfl, rfl, rfl, rfl, trivial⟩, GLe.refl _, (St.pick [(.box b14 32 (kTPkt.at_ a3)), (.box b0 63 (kTnego_workV.at_ (Tnego_workV.mk x845 (.slice A848 x846.length c849) (.slice A853 x851.length c854) x856))), (.row kTPkt g847 A848 c849 32 x846), (.row kI g852 A853 c854 3 x851)] [(.box b0 63 (kTnego_workV.at_ (Tnego_workV.mk x845 (.slice A848 x846.length c849) (.slice A853 x851.length c854) x856))), (.row kTPkt g847 A848 c849 32 x846), (.row kI g852 A853 c854 3 x851), (.box b14 32 (kTPkt.at_ a3))] [1, 2, 3, 0] H862 (by decide) rfl), hv930⟩
           ·refine any_ops (m' := 111) fun Q' hN => ?_
            refine wl_lit (K := kTPkt) (vs := [v929]) (xs := ([a3] : (List TPkt))) H862 sl35 el32 rfl ⟨hv930, trivial⟩ rfl (by decide) ?_
            intro g933 w935 H934
            refine wl_nil (hN _ _ ?_)
            refine any_alls [4] ⟨any_ops (m' := 127) fun Q' hN => ?_, trivial⟩
            refine wl_load H934 (i := 2) rfl lTnego_workV_Out ty35 rfl ?_
            intro v937 hv938
            obtain rfl := val_V hv938
            refine wl_nil (hN _ _ ?_)
            exact hM900 _ _ ⟨_, _, (some g933), (some ⟨g933, 0, none⟩), 1, frame_eq [(0, (pt b0)), (7, (pt b14)), (40, (.slice A2_ a2.length c2_)), (41, (.int .i64 (a2.length : Int))), (42, (.int .i64 x413)), (115, (pt b0)), (119, (.slice A848 x846.length c849)), (121, (.slice (some ⟨g933, 0, none⟩) ([a3] : (List TPkt)).length 1))] ⟨rfl, rfl, rfl, rfl, rfl, rfl, rfl, rfl, trivial⟩, GLe.refl _, (St.pick [(.row kTPkt (some g933) (some ⟨g933, 0, none⟩) 1 32 ([a3] : (List TPkt))), (.box b14 32 (kTPkt.at_ a3)), (.box b0 63 (kTnego_workV.at_ (Tnego_workV.mk x845 (.slice A848 x846.length c849) (.slice A853 x851.length c854) x856))), (.row kTPkt g847 A848 c849 32 x846), (.row kI g852 A853 c854 3 x851)] [(.box b0 63 (kTnego_workV.at_ (Tnego_workV.mk x845 (.slice A848 x846.length c849) (.slice A853 x851.length c854) x856))), (.row kTPkt g847 A848 c849 32 x846), (.row kI g852 A853 c854 3 x851), (.box b14 32 (kTPkt.at_ a3)), (.row kTPkt (some g933) (some ⟨g933, 0, none⟩) 1 32 ([a3] : (List TPkt)))] [2, 3, 4, 1, 0] H934 (by decide) rfl)⟩
         ·replace hF := ifF hF hb860
          refine wc_false (vb hb860) ?_
          refine wp_seq (join (fun a w => ∃ (T0 : Fr) (G1 : Ghost) (x942 : Bool) (x943 : TNego) (x944 : (List TPkt)) (x949 : (List Int)) (x954 : TPkt) (g945 : Option Nat) (A946 : Option Addr) (c947 : Nat) (g950 : Option Nat) (A951 : Option Addr) (c952 : Nat), a = mk 141 (upds T0 [(0, (pt b0)), (7, (pt b14)), (9, (.int .i64 x585)), (40, (.slice A2_ a2.length c2_)), (41, (.int .i64 (a2.length : Int))), (42, (.int .i64 x413)), (125, (.bool x942))]) ∧ GLe G859 G1 ∧ St c G1 w ((.box b14 32 (kTPkt.at_ a3)) :: (.box b0 63 (kTnego_workV.at_ (Tnego_workV.mk x943 (.slice A946 x944.length c947) (.slice A951 x949.length c952) x954))) :: (.row kTPkt g945 A946 c947 32 x944) :: (.row kI g950 A951 c952 3 x949) :: σ) ∧ nego_work_acts_j5 x413 x585 x942 x943 x944 x949 x954 = some y428) ?_ ?_)
          ·rintro a w ⟨T0, G957, x942, x943, x944, x949, x954, g945, A946, c947, g950, A951, c952, rfl, hG955, H956, hF⟩
           rcases bcases x942 with hb958 | hb958
           ·replace hF := ifT hF hb958
            refine wc_true (vb hb958) ?_
            refine wc_region ?_
            iterate 2 refine wl_rn (rn_pure (pt b0) rfl) ?_
            refine wl_rn (rn_nilCheck rfl) ?_
            refine wl_rn (rn_field fo63_2 rfl) ?_
            refine wl_load H956 (i := 1) rfl lTnego_workV_Tell ty36 rfl ?_
            intro v959 hv960
            obtain rfl := val_V hv960
            refine wl_rn (rn_pure (.int .i64 x585) rfl) ?_
            refine wl_lit (K := kI) (vs := [(.int .i64 x585)]) (xs := ([x585] : (List Int))) H956 sl36 el3 rfl ⟨((dInt .i64).toV _ _), trivial⟩ rfl (by decide) ?_
            intro g961 w963 H962
            obtain ⟨r965, hr966, hF⟩ := bindS hF
            refine wl_append H962 sl36 el3 (i := 4) rfl rfl rfl ((H962.okAt (i := 0) rfl).src) hr966 ?_
            intro g967 A968 c969 w970 H971
            refine wl_rn (rn_nilCheck rfl) ?_
            refine wl_rn (rn_field fo63_2 rfl) ?_
            refine wl_store (z := (.slice A968 r965.length c969)) H971 (i := 2) rfl lTnego_workV_Tell ty36 rfl rfl ⟨[_], rfl, rfl, rfl⟩ ?_
            intro w973 H972
            refine wl_nil (blk_n ?_)
            refine blk_n ?_
            refine then_n ?_
            exact ⟨_, _, x943, x944, r965, x954, g945, A946, c947, g967, A968, c969, frame_eq [(0, (pt b0)), (7, (pt b14)), (40, (.slice A2_ a2.length c2_)), (41, (.int .i64 (a2.length : Int))), (42, (.int .i64 x413))] ⟨rfl, rfl, rfl, rfl, rfl, trivial⟩, (hG857.trans hG955), (St.pick [(.row kI (some g961) (some ⟨g961, 0, none⟩) 1 3 ([x585] : (List Int))), (.box b14 32 (kTPkt.at_ a3)), (.box b0 63 (kTnego_workV.at_ (Tnego_workV.mk x943 (.slice A946 x944.length c947) (.slice A968 r965.length c969) x954))), (.row kTPkt g945 A946 c947 32 x944), (.row kI g967 A968 c969 3 r965)] [(.box b14 32 (kTPkt.at_ a3)), (.box b0 63 (kTnego_workV.at_ (Tnego_workV.mk x943 (.slice A946 x944.length c947) (.slice A968 r965.length c969) x954))), (.row kTPkt g945 A946 c947 32 x944), (.row kI g967 A968 c969 3 r965)] [1, 2, 3, 4] H972 (by decide) rfl), hF⟩
           ·replace hF := ifF hF hb958
            refine wc_false (vb hb958) ?_
            refine wp_skip ?_
            iterate 2 refine blk_n ?_
            refine then_n ?_
            exact ⟨_, _, x943, x944, x949, x954, g945, A946, c947, g950, A951, c952, frame_eq [(0, (pt b0)), (7, (pt b14)), (40, (.slice A2_ a2.length c2_)), (41, (.int .i64 (a2.length : Int))), (42, (.int .i64 x413))] ⟨rfl, rfl, rfl, rfl, rfl, trivial⟩, (hG857.trans hG955), H956, hF⟩
          ·refine wp_seq (wc_region ?_)
           iterate 2 refine wl_rn (rn_pure (.bool (x585 == 1)) rfl) ?_
           refine wl_nil (then_n ?_)
           rcases bcases (x585 == 1) with hb974 | hb974
           ·replace hF := ifT hF hb974
            refine wc_true (vb hb974) ?_
            refine wp_skip ?_
            refine then_n ?_
            exact ⟨_, _, (x585 == 1), x845, x846, x851, x856, g847, A848, c849, g852, A853, c854, frame_eq [(0, (pt b0)), (7, (pt b14)), (9, (.int .i64 x585)), (40, (.slice A2_ a2.length c2_)), (41, (.int .i64 (a2.length : Int))), (42, (.int .i64 x413)), (125, (.bool (x585 == 1)))] ⟨rfl, rfl, rfl, rfl, rfl, rfl, rfl, trivial⟩, GLe.refl _, H858, hF⟩
           ·replace hF := ifF hF hb974
            refine wc_false (vb hb974) ?_
            refine wp_seq (wc_region ?_)
            iterate 2 refine wl_rn (rn_pure (.bool (x585 == 2)) rfl) ?_
            refine wl_nil (then_n ?_)
            rcases bcases (x585 == 2) with hb975 | hb975
            ·replace hF := ifT hF hb975
             refine wc_true (vb hb975) ?_
             refine wp_skip ?_
             refine then_n ?_
             exact ⟨_, _, (x585 == 2), x845, x846, x851, x856, g847, A848, c849, g852, A853, c854, frame_eq [(0, (pt b0)), (7, (pt b14)), (9, (.int .i64 x585)), (40, (.slice A2_ a2.length c2_)), (41, (.int .i64 (a2.length : Int))), (42, (.int .i64 x413)), (125, (.bool (x585 == 2)))] ⟨rfl, rfl, rfl, rfl, rfl, rfl, rfl, trivial⟩, GLe.refl _, H858, hF⟩
            ·replace hF := ifF hF hb975
             refine wc_false (vb hb975) ?_
             refine wp_seq (wc_region ?_)
             iterate 2 refine wl_rn (rn_pure (.bool (x585 == 3)) rfl) ?_
             refine wl_nil (then_n ?_)
             rcases bcases (x585 == 3) with hb976 | hb976
             ·replace hF := ifT hF hb976
              refine wc_true (vb hb976) ?_
              refine wp_skip ?_
              refine then_n ?_
              exact ⟨_, _, (x585 == 3), x845, x846, x851, x856, g847, A848, c849, g852, A853, c854, frame_eq [(0, (pt b0)), (7, (pt b14)), (9, (.int .i64 x585)), (40, (.slice A2_ a2.length c2_)), (41, (.int .i64 (a2.length : Int))), (42, (.int .i64 x413)), (125, (.bool (x585 == 3)))] ⟨rfl, rfl, rfl, rfl, rfl, rfl, rfl, trivial⟩, GLe.refl _, H858, hF⟩
             ·replace hF := ifF hF hb976
              refine wc_false (vb hb976) ?_
              refine wc_region ?_
              iterate 2 refine wl_rn (rn_pure (.bool (x585 == 4)) rfl) ?_
              refine wl_nil (then_n ?_)
              exact ⟨_, _, (x585 == 4), x845, x846, x851, x856, g847, A848, c849, g852, A853, c854, frame_eq [(0, (pt b0)), (7, (pt b14)), (9, (.int .i64 x585)), (40, (.slice A2_ a2.length c2_)), (41, (.int .i64 (a2.length : Int))), (42, (.int .i64 x413)), (125, (.bool (x585 == 4)))] ⟨rfl, rfl, rfl, rfl, rfl, rfl, rfl, trivial⟩, GLe.refl _, H858, hF⟩
        ·refine wp_seq (wc_region ?_)
         iterate 2 refine wl_rn (rn_pure (.bool (x585 == 8)) rfl) ?_
         refine wl_nil (then_n ?_)
         rcases bcases (x585 == 8) with hb977 | hb977
         ·replace hF := ifT hF hb977
          refine wc_true (vb hb977) ?_
          refine wp_skip ?_
          refine then_n ?_
          exact ⟨_, _, (x585 == 8), x414, x415, x420, x425, g416, A417, c418, g421, A422, c423, frame_eq [(0, (pt b0)), (7, (pt b14)), (9, (.int .i64 x585)), (40, (.slice A2_ a2.length c2_)), (41, (.int .i64 (a2.length : Int))), (42, (.int .i64 x413)), (46, (.int .i64 x585)), (110, (.bool (x585 == 8)))] ⟨rfl, rfl, rfl, rfl, rfl, rfl, rfl, rfl, trivial⟩, GLe.refl _, H427, hF⟩
         ·replace hF := ifF hF hb977
          refine wc_false (vb hb977) ?_
          refine wp_seq (wc_region ?_)
          iterate 2 refine wl_rn (rn_pure (.bool (x585 == 9)) rfl) ?_
          refine wl_nil (then_n ?_)
          rcases bcases (x585 == 9) with hb978 | hb978
          ·replace hF := ifT hF hb978
           refine wc_true (vb hb978) ?_
           refine wp_skip ?_
           refine then_n ?_
           exact ⟨_, _, (x585 == 9), x414, x415, x420, x425, g416, A417, c418, g421, A422, c423, frame_eq [(0, (pt b0)), (7, (pt b14)), (9, (.int .i64 x585)), (40, (.slice A2_ a2.length c2_)), (41, (.int .i64 (a2.length : Int))), (42, (.int .i64 x413)), (46, (.int .i64 x585)), (110, (.bool (x585 == 9)))] ⟨rfl, rfl, rfl, rfl, rfl, rfl, rfl, rfl, trivial⟩, GLe.refl _, H427, hF⟩
          ·replace hF := ifF hF hb978
           refine wc_false (vb hb978) ?_
           refine wp_seq (wc_region ?_)
           iterate 2 refine wl_rn (rn_pure (.bool (x585 == 12)) rfl) ?_
           refine wl_nil (then_n ?_)
           rcases bcases (x585 == 12) with hb979 | hb979
           ·replace hF := ifT hF hb979
            refine wc_true (vb hb979) ?_
            refine wp_skip ?_
            refine then_n ?_
            exact ⟨_, _, (x585 == 12), x414, x415, x420, x425, g416, A417, c418, g421, A422, c423, frame_eq [(0, (pt b0)), (7, (pt b14)), (9, (.int .i64 x585)), (40, (.slice A2_ a2.length c2_)), (41, (.int .i64 (a2.length : Int))), (42, (.int .i64 x413)), (46, (.int .i64 x585)), (110, (.bool (x585 == 12)))] ⟨rfl, rfl, rfl, rfl, rfl, rfl, rfl, rfl, trivial⟩, GLe.refl _, H427, hF⟩
           ·replace hF := ifF hF hb979
            refine wc_false (vb hb979) ?_
            refine wc_region ?_
            iterate 2 refine wl_rn (rn_pure (.bool (x585 == 13)) rfl) ?_
            refine wl_nil (then_n ?_)
            exact ⟨_, _, (x585 == 13), x414, x415, x420, x425, g416, A417, c418, g421, A422, c423, frame_eq [(0, (pt b0)), (7, (pt b14)), (9, (.int .i64 x585)), (40, (.slice A2_ a2.length c2_)), (41, (.int .i64 (a2.length : Int))), (42, (.int .i64 x413)), (46, (.int .i64 x585)), (110, (.bool (x585 == 13)))] ⟨rfl, rfl, rfl, rfl, rfl, rfl, rfl, rfl, trivial⟩, GLe.refl _, H427, hF⟩
   ·replace hF := ifF hF hb430
    refine wc_false (vb hb430) ?_
    refine wp_exit ?_
    iterate 2 refine then_e ?_
    replace hF := exitS hF hy81
    refine blk_e ?_
    have hF := Option.some.inj hF
    subst hF
    exact end_mk rfl RV.nil ⟨_, g416, A417, c418, g421, A422, c423, (hG78.trans hG426), rfl, (St.pick [(.box b14 32 (kTPkt.at_ a3)), (.box b0 63 (kTnego_workV.at_ (Tnego_workV.mk x414 (.slice A417 x415.length c418) (.slice A422 x420.length c423) x425))), (.row kTPkt g416 A417 c418 32 x415), (.row kI g421 A422 c423 3 x420)] [(.box b0 63 (kTnego_workV.at_ (Tnego_workV.mk x414 (.slice A417 x415.length c418) (.slice A422 x420.length c423) x425))), (.row kTPkt g416 A417 c418 32 x415), (.row kI g421 A422 c423 3 x420)] [1, 2, 3] H427 (by decide) rfl)⟩
 ·refine wp_seq (join (fun a w => ∃ (T0 : Fr) (G1 : Ghost) (x996 : Bool) (x997 : TNego) (x998 : (List TPkt)) (x1003 : (List Int)) (x1008 : TPkt) (g999 : Option Nat) (A1000 : Option Addr) (c1001 : Nat) (g1004 : Option Nat) (A1005 : Option Addr) (c1006 : Nat), a = mk 141 (upds T0 [(0, (pt b0)), (2, (.slice A2_ a2.length c2_)), (7, (pt b14)), (21, (.bool x996))]) ∧ GLe G G1 ∧ St c G1 w ((.box b14 32 (kTPkt.at_ a3)) :: (.box b0 63 (kTnego_workV.at_ (Tnego_workV.mk x997 (.slice A1000 x998.length c1001) (.slice A1005 x1003.length c1006) x1008))) :: (.row kTPkt g999 A1000 c1001 32 x998) :: (.row kI g1004 A1005 c1006 3 x1003) :: σ) ∧ nego_work_acts_j6 a2 a3 x996 x997 x998 x1003 x1008 = some r) ?_ ?_)
  ·rintro a w ⟨T0, G1011, x996, x997, x998, x1003, x1008, g999, A1000, c1001, g1004, A1005, c1006, rfl, hG1009, H1010, hF⟩
   rcases bcases x996 with hb1012 | hb1012
   ·replace hF := ifT hF hb1012
    refine wc_true (vb hb1012) ?_
    refine wc_region ?_
    iterate 4 refine wl_rn (rn_pure (pt b0) rfl) ?_
    refine wl_rn (rn_nilCheck rfl) ?_
    refine wl_rn (rn_field fo63_0 rfl) ?_
    refine wl_rn (rn_field fo29_1 rfl) ?_
    refine wl_load H1010 (i := 1) rfl (Lens.then lTnego_workV_Nego lTNego_R) ty26 rfl ?_
    intro v1013 hv1014
    obtain ⟨r1015, hr1016, hF⟩ := bindS hF
    refine wl_call (vs := [v1013]) en38 rfl (rules_Ask_ok hc hv1014 H1010 hr1016) ?_
    rintro v1021 w1020 ⟨G1017, A1022, c1023, hG1018, rfl, H1019, hs1024⟩
    refine wl_rn (rn_nilCheck rfl) ?_
    refine wl_rn (rn_field fo63_0 rfl) ?_
    refine wl_rn (rn_field fo29_2 rfl) ?_
    refine wl_store (z := r1015) H1019 (i := 1) rfl (Lens.then lTnego_workV_Nego lTNego_Ours) ty27 rfl rfl (slice_toV hs1024) ?_
    intro w1026 H1025
    refine wl_rn (rn_nilCheck rfl) ?_
    refine wl_rn (rn_field fo63_0 rfl) ?_
    refine wl_rn (rn_field fo29_3 rfl) ?_
    refine wl_store (z := 0) H1025 (i := 1) rfl (Lens.then lTnego_workV_Nego lTNego_Naks) ty3 rfl rfl ((dInt .i64).toV _ _) ?_
    intro w1028 H1027
    refine wl_rn (rn_nilCheck rfl) ?_
    refine wl_rn (rn_field fo63_0 rfl) ?_
    refine wl_rn (rn_field fo29_4 rfl) ?_
    refine wl_store (z := []) H1027 (i := 1) rfl (Lens.then lTnego_workV_Nego lTNego_Peer) ty27 rfl rfl (slice_toV (SlR.nil _ _)) ?_
    intro w1030 H1029
    refine wl_nil (then_n ?_)
    exact ⟨_, _, (TNego.mk x997.A x997.R r1015 0 []), x998, x1003, x1008, g999, A1000, c1001, g1004, A1005, c1006, frame_eq [(0, (pt b0)), (2, (.slice A2_ a2.length c2_)), (7, (pt b14))] ⟨rfl, rfl, rfl, trivial⟩, (hG1009.trans hG1018), H1029, hF⟩
   ·replace hF := ifF hF hb1012
    refine wc_false (vb hb1012) ?_
    refine wp_skip ?_
    refine then_n ?_
    exact ⟨_, _, x997, x998, x1003, x1008, g999, A1000, c1001, g1004, A1005, c1006, frame_eq [(0, (pt b0)), (2, (.slice A2_ a2.length c2_)), (7, (pt b14))] ⟨rfl, rfl, rfl, trivial⟩, hG1009, H1010, hF⟩
  ·refine wc_region ?_
   refine wl_rn (rn_pure (.int .i64 a1) rfl) ?_
   iterate 2 refine wl_rn (rn_pure (.bool (decide (a1 ≤ 3))) rfl) ?_
   rcases bcases (decide (a1 ≤ 3)) with hb1031 | hb1031
   ·replace hF := ifT hF hb1031
    refine wl_yes rfl rfl rfl (vb hb1031) ?_
    refine wl_rn (rn_pure (.slice A2_ a2.length c2_) rfl) ?_
    refine wl_yes rfl rfl rfl (vb hb1031) ?_
    obtain ⟨r1032, hr1033, hF⟩ := bindS hF
    refine wl_call (vs := [(.slice A2_ a2.length c2_), (.int .i64 5)]) en48 rfl (slices_Contains_int_ok hc h2_ H15 hr1033) ?_
    rintro v1038 w1037 ⟨G1034, hG1035, rfl, H1036⟩
    refine wl_rn (rn_pickT (.bool r1032) (vb hb1031) rfl) ?_
    refine wl_rn (rn_pure (.bool r1032) rfl) ?_
    rcases bcases r1032 with hb1039 | hb1039
    ·replace hF := ifT hF hb1039
     refine wl_yes rfl rfl rfl (vb hb1039) ?_
     refine wl_rn (rn_pure (.slice A2_ a2.length c2_) rfl) ?_
     refine wl_yes rfl rfl rfl (vb hb1039) ?_
     obtain ⟨r1040, hr1041, hF⟩ := bindS hF
     refine wl_call (vs := [(.slice A2_ a2.length c2_), (.int .i64 7)]) en48 rfl (slices_Contains_int_ok hc (h2_.mono hG1035) H1036 hr1041) ?_
     rintro v1046 w1045 ⟨G1042, hG1043, rfl, H1044⟩
     refine wl_rn (rn_pickT (.bool r1040) (vb hb1039) rfl) ?_
     refine wl_nil (then_n ?_)
     exact ⟨_, _, r1040, x2, x3, x8, x13, g4, A5, c6, g9, A10, c11, frame_eq [(0, (pt b0)), (2, (.slice A2_ a2.length c2_)), (7, (pt b14)), (21, (.bool r1040))] ⟨rfl, rfl, rfl, rfl, trivial⟩, (hG1035.trans hG1043), H1044, hF⟩
    ·replace hF := ifF hF hb1039
     iterate 2 refine wl_no rfl rfl rfl (vb hb1039) ?_
     refine wl_rn (rn_pickF (.bool false) (vb hb1039) rfl) ?_
     refine wl_nil (then_n ?_)
     exact ⟨_, _, false, x2, x3, x8, x13, g4, A5, c6, g9, A10, c11, frame_eq [(0, (pt b0)), (2, (.slice A2_ a2.length c2_)), (7, (pt b14)), (21, (.bool false))] ⟨rfl, rfl, rfl, rfl, trivial⟩, hG1035, H1036, hF⟩
   ·replace hF := ifF hF hb1031
    iterate 2 refine wl_no rfl rfl rfl (vb hb1031) ?_
    refine wl_rn (rn_pickF (.bool false) (vb hb1031) rfl) ?_
    refine wl_rn (rn_pure (.bool false) rfl) ?_
    iterate 2 refine wl_no rfl rfl rfl rfl ?_
    refine wl_rn (rn_pickF (.bool false) rfl rfl) ?_
    refine wl_nil (then_n ?_)
    exact ⟨_, _, false, x2, x3, x8, x13, g4, A5, c6, g9, A10, c11, frame_eq [(0, (pt b0)), (2, (.slice A2_ a2.length c2_)), (7, (pt b14)), (21, (.bool false))] ⟨rfl, rfl, rfl, rfl, trivial⟩, GLe.refl _, H15, hF⟩

theorem nego_work_event_ok {c : World} (hc : Hc c) {G : Ghost} {w : World} {σ : List Ent} {b0 : Nat} {x2 : TNego} {x3 : (List TPkt)} {x8 : (List Int)} {x13 : TPkt} {g4 : Option Nat} {A5 : Option Addr} {c6 : Nat} {g9 : Option Nat} {A10 : Option Addr} {c11 : Nat} {a1 : Int} {a2 : TPkt} {v2_ : Value} (h2_ : kTPkt.V G v2_ a2) (H : St c G w ((.box b0 63 (kTnego_workV.at_ (Tnego_workV.mk x2 (.slice A5 x3.length c6) (.slice A10 x8.length c11) x13))) :: (.row kTPkt g4 A5 c6 32 x3) :: (.row kI g9 A10 c11 3 x8) :: σ)) {r : ((List Int) × TNego × (List TPkt) × (List Int) × TPkt)} (hF : nego_work_event x2 x3 x8 x13 a1 a2 = some r) :
  Calls Tryd.prog 30 ([(pt b0), (.int .i64 a1), v2_] : List Value).toArray w (Ends fun v w' => ∃ (G' : Ghost) (A1' : Option Addr) (c2' : Nat) (g3' : Option Nat) (A4' : Option Addr) (c5' : Nat) (g6' : Option Nat) (A7' : Option Addr) (c8' : Nat), GLe G G' ∧ tup [(.slice A1' r.1.length c2')] = v ∧ St c G' w' ((.box b0 63 (kTnego_workV.at_ (Tnego_workV.mk r.2.1 (.slice A4' r.2.2.1.length c5') (.slice A7' r.2.2.2.1.length c8') r.2.2.2.2))) :: (.row kTPkt g3' A4' c5' 32 r.2.2.1) :: (.row kI g6' A7' c8' 3 r.2.2.2.1) :: σ) ∧ SlR kI G' A1' c2' r.1) := by
 unfold nego_work_event at hF
 refine calls_mk Tryd.func30 rfl rfl rfl ?_
 refine wp_seq (wc_region ?_)
 refine wl_box (K := kTPkt) (x := a2) H rfl h2_ ?_
 intro b14 w17 H15
 refine wl_rn (rn_pure (.slice none 0 0) rfl) ?_
 refine wl_nil (then_n (wp_seq (wc_region ?_)))
 refine wl_rn (rn_pure (pt b0) rfl) ?_
 refine wl_rn (rn_nilCheck rfl) ?_
 refine wl_rn (rn_field fo63_0 rfl) ?_
 refine wl_rn (rn_field fo29_0 rfl) ?_
 refine wl_rn (rn_field fo23_0 rfl) ?_
 refine wl_loadd H15 (i := 1) rfl (Lens.then (Lens.then lTnego_workV_Nego lTNego_A) lTAuto_State) (dInt .i64) ty3 rfl ?_
 refine wl_rn (rn_pure (.int .i64 x2.A.State) rfl) ?_
 refine wl_nil (then_n (wp_seq (wc_region ?_)))
 refine wl_rn (rn_pure (pt b0) rfl) ?_
 refine wl_rn (rn_nilCheck rfl) ?_
 refine wl_rn (rn_field fo63_0 rfl) ?_
 refine wl_rn (rn_field fo29_0 rfl) ?_
 refine wl_load H15 (i := 1) rfl (Lens.then lTnego_workV_Nego lTNego_A) ty23 rfl ?_
 intro v18 hv19
 refine wl_rn (rn_pure (.int .i64 a1) rfl) ?_
 obtain ⟨r20, hr21, hF⟩ := bindS hF
 refine wl_call (vs := [v18, (.int .i64 a1)]) en47 rfl (auto_Do_ok hc hv19 H15 hr21) ?_
 rintro v26 w25 ⟨G22, v27, A29, c30, hG23, rfl, H24, hv28, hs31⟩
 refine wl_rn (rn_pure (.tuple #[v27, (.slice A29 r20.2.1.length c30), (.int .i64 r20.2.2)]) rfl) ?_
 refine wl_rn (rn_pure v27 rfl) ?_
 refine wl_rn (rn_pure (.slice A29 r20.2.1.length c30) rfl) ?_
 refine wl_rn (rn_pure (.int .i64 r20.2.2) rfl) ?_
 refine wl_alloc H24 zr23 ?_
 intro b32 w35 H33
 refine wl_store (z := r20.1) H33 (i := 0) rfl (Lens.id kTAuto) ty23 rfl rfl hv28 ?_
 intro w37 H36
 refine wl_rn (rn_pure (.slice A29 r20.2.1.length c30) rfl) ?_
 refine wl_rn (rn_pure (.int .i64 r20.2.2) rfl) ?_
 refine wl_nil (then_n ?_)
 refine wp_seq ?_
 refine wp_seq (wc_region ?_)
 refine wl_rn (rn_pure (.int .i64 r20.2.2) rfl) ?_
 refine wl_rn (rn_pure (.bool (r20.2.2 != 0)) rfl) ?_
 refine wl_nil (then_n ?_)
 rcases bcases (r20.2.2 != 0) with hb38 | hb38
 ·replace hF := ifT hF hb38
  refine wc_true (vb hb38) ?_
  refine wp_seq (wc_region ?_)
  refine wl_rn (rn_pure (.slice none 0 0) rfl) ?_
  refine wl_nil (then_n ?_)
  refine wp_ret ?_
  refine then_r ?_
  have hF := Option.some.inj hF
  subst hF
  exact ret_mk rfl (RV.tmp rfl RV.nil) ⟨_, none, 0, g4, A5, c6, g9, A10, c11, hG23, rfl, (St.pick [(.box b32 23 (kTAuto.at_ r20.1)), (.box b14 32 (kTPkt.at_ a2)), (.box b0 63 (kTnego_workV.at_ (Tnego_workV.mk x2 (.slice A5 x3.length c6) (.slice A10 x8.length c11) x13))), (.row kTPkt g4 A5 c6 32 x3), (.row kI g9 A10 c11 3 x8)] [(.box b0 63 (kTnego_workV.at_ (Tnego_workV.mk x2 (.slice A5 x3.length c6) (.slice A10 x8.length c11) x13))), (.row kTPkt g4 A5 c6 32 x3), (.row kI g9 A10 c11 3 x8)] [2, 3, 4] H36 (by decide) rfl), (SlR.nil _ _)⟩
 ·replace hF := ifF hF hb38
  refine wc_false (vb hb38) ?_
  refine wp_skip ?_
  refine then_n ?_
  refine wp_seq (wc_region ?_)
  refine wl_rn (rn_pure (pt b0) rfl) ?_
  refine wl_load H36 (i := 0) rfl (Lens.id kTAuto) ty23 rfl ?_
  intro v39 hv40
  refine wl_rn (rn_nilCheck rfl) ?_
  refine wl_rn (rn_field fo63_0 rfl) ?_
  refine wl_rn (rn_field fo29_0 rfl) ?_
  refine wl_store (z := r20.1) H36 (i := 2) rfl (Lens.then lTnego_workV_Nego lTNego_A) ty23 rfl rfl hv40 ?_
  intro w42 H41
  refine wl_nil (then_n (wp_seq (wc_region ?_)))
  refine wl_rn (rn_pure (pt b0) rfl) ?_
  refine wl_rn (rn_pure (.int .i64 x2.A.State) rfl) ?_
  refine wl_rn (rn_pure (.slice A29 r20.2.1.length c30) rfl) ?_
  refine wl_load H41 (i := 1) rfl (Lens.id kTPkt) ty32 rfl ?_
  intro v43 hv44
  obtain ⟨r45, hr46, hF⟩ := bindS hF
  refine wl_call (vs := [(pt b0), (.int .i64 x2.A.State), (.slice A29 r20.2.1.length c30), v43]) en33 rfl (nego_work_acts_ok hc hs31 hv44 (St.pick [(.box b32 23 (kTAuto.at_ r20.1)), (.box b14 32 (kTPkt.at_ a2)), (.box b0 63 (kTnego_workV.at_ (Tnego_workV.mk (TNego.mk r20.1 x2.R x2.Ours x2.Naks x2.Peer) (.slice A5 x3.length c6) (.slice A10 x8.length c11) x13))), (.row kTPkt g4 A5 c6 32 x3), (.row kI g9 A10 c11 3 x8)] [(.box b0 63 (kTnego_workV.at_ (Tnego_workV.mk (TNego.mk r20.1 x2.R x2.Ours x2.Naks x2.Peer) (.slice A5 x3.length c6) (.slice A10 x8.length c11) x13))), (.row kTPkt g4 A5 c6 32 x3), (.row kI g9 A10 c11 3 x8), (.box b32 23 (kTAuto.at_ r20.1)), (.box b14 32 (kTPkt.at_ a2))] [2, 3, 4, 0, 1] H41 (by decide) rfl) hr46) ?_
  rintro v51 w50 ⟨G47, g52, A53, c54, g55, A56, c57, hG48, rfl, H49⟩
  refine wl_nil (then_n (wp_seq (wc_region ?_)))
  iterate 2 refine wl_rn (rn_pure (.slice A29 r20.2.1.length c30) rfl) ?_
  refine wl_nil (then_n ?_)
  refine wp_ret ?_
  have hF := Option.some.inj hF
  subst hF
  exact ret_mk rfl (RV.tmp rfl RV.nil) ⟨_, A29, c30, g52, A53, c54, g55, A56, c57, (hG23.trans hG48), rfl, (St.pick [(.box b0 63 (kTnego_workV.at_ (Tnego_workV.mk r45.1 (.slice A53 r45.2.1.length c54) (.slice A56 r45.2.2.1.length c57) r45.2.2.2))), (.row kTPkt g52 A53 c54 32 r45.2.1), (.row kI g55 A56 c57 3 r45.2.2.1), (.box b32 23 (kTAuto.at_ r20.1)), (.box b14 32 (kTPkt.at_ a2))] [(.box b0 63 (kTnego_workV.at_ (Tnego_workV.mk r45.1 (.slice A53 r45.2.1.length c54) (.slice A56 r45.2.2.1.length c57) r45.2.2.2))), (.row kTPkt g52 A53 c54 32 r45.2.1), (.row kI g55 A56 c57 3 r45.2.2.1)] [0, 1, 2] H49 (by decide) rfl), (hs31.mono hG48)⟩

theorem nego_work_told_ok {c : World} (hc : Hc c) {G : Ghost} {w : World} {σ : List Ent} {b0 : Nat} {x2 : TNego} {x3 : (List TPkt)} {x8 : (List Int)} {x13 : TPkt} {g4 : Option Nat} {A5 : Option Addr} {c6 : Nat} {g9 : Option Nat} {A10 : Option Addr} {c11 : Nat}  (H : St c G w ((.box b0 63 (kTnego_workV.at_ (Tnego_workV.mk x2 (.slice A5 x3.length c6) (.slice A10 x8.length c11) x13))) :: (.row kTPkt g4 A5 c6 32 x3) :: (.row kI g9 A10 c11 3 x8) :: σ)) {r : (TNego × (List TPkt) × (List Int))} (hF : nego_work_told x2 x3 x8 x13 = some r) :
  Calls Tryd.prog 31 ([(pt b0)] : List Value).toArray w (Ends fun v w' => ∃ (G' : Ghost) (v1' : Value) (A2' : Option Addr) (c3' : Nat) (A4' : Option Addr) (c5' : Nat), GLe G G' ∧ tup [v1', (.slice A2' r.2.1.length c3'), (.slice A4' r.2.2.length c5')] = v ∧ St c G' w' (σ) ∧ kTNego.V G' v1' r.1 ∧ SlR kTPkt G' A2' c3' r.2.1 ∧ SlR kI G' A4' c5' r.2.2) := by
 unfold nego_work_told at hF
 refine calls_mk Tryd.func31 rfl rfl rfl ?_
 refine wp_seq (wc_region ?_)
 refine wl_alloc H zr29 ?_
 intro b14 w17 H15
 iterate 2 refine wl_rn (rn_pure (.slice none 0 0) rfl) ?_
 refine wl_nil (then_n ?_)
 refine wp_seq ?_
 refine wc_anyS (f := 15) H15 mixed ?_
 intro w18 H19
 refine any_pf (by repeat (first | exact PF.base | apply PF.then_ | apply PF.blk)) ?_
 intro hPF hns
 refine any_memo (fuel := 1) (m := 16383) (fun a w => ∃ (T0 : Fr) (G1 : Ghost), a = mk 17 (upds T0 [(2, (pt b14)), (3, (.slice A5 x3.length c6)), (16, (.slice A10 x8.length c11))]) ∧ GLe G G1 ∧ St c G1 w ((.box b14 29 (kTNego.at_ x2)) :: (.row kTPkt g4 A5 c6 32 x3) :: (.row kI g9 A10 c11 3 x8) :: (.box b0 63 (kTnego_workV.at_ (Tnego_workV.mk x2 (.slice A5 x3.length c6) (.slice A10 x8.length c11) x13))) :: σ)) ?_ ?_
 ·rintro a w ⟨T0, G87, rfl, hG85, H86⟩
  refine any_rn (i := 14) (m' := 32767) rfl (rn_pure (.slice A10 x8.length c11) rfl) hPF hns ?_
  refine any_end ?_
  refine then_n ?_
  refine wp_ret ?_
  obtain ⟨G91, hG92, H93, hs94⟩ := H86.stay (i := 1) rfl (H86.capA (i := 1) rfl)
  obtain ⟨G95, hG96, H97, hs98⟩ := H93.stay (i := 1) rfl (H93.capA (i := 1) rfl)
  obtain ⟨v88, hv89, hl90⟩ := H97.loadv (i := 0) rfl ty29
  have hF := Option.some.inj hF
  subst hF
  exact ret_mk rfl (RV.cell rfl hl90 (RV.tmp rfl (RV.tmp rfl RV.nil))) ⟨_, v88, A5, c6, A10, c11, ((hG85.trans hG92).trans hG96), rfl, (St.pick [(.box b14 29 (kTNego.at_ x2)), (.box b0 63 (kTnego_workV.at_ (Tnego_workV.mk x2 (.slice A5 x3.length c6) (.slice A10 x8.length c11) x13)))] [] [] H97 (by decide) rfl), hv89, (hs94.mono hG96), hs98⟩
 intro hM84
 refine any_memo (fuel := 2) (m := 8191) (fun a w => ∃ (T0 : Fr) (G1 : Ghost), a = mk 17 (upds T0 [(2, (pt b14)), (12, (.slice A5 x3.length c6)), (16, (.slice A10 x8.length c11))]) ∧ GLe G G1 ∧ St c G1 w ((.box b14 29 (kTNego.at_ x2)) :: (.row kTPkt g4 A5 c6 32 x3) :: (.row kI g9 A10 c11 3 x8) :: (.box b0 63 (kTnego_workV.at_ (Tnego_workV.mk x2 (.slice A5 x3.length c6) (.slice A10 x8.length c11) x13))) :: σ)) ?_ ?_
 ·rintro a w ⟨T0, G83, rfl, hG81, H82⟩
  refine any_rn (i := 13) (m' := 16383) rfl (rn_pure (.slice A5 x3.length c6) rfl) hPF hns ?_
  exact hM84 _ _ ⟨_, _, frame_eq [(2, (pt b14)), (3, (.slice A5 x3.length c6)), (16, (.slice A10 x8.length c11))] ⟨rfl, rfl, rfl, trivial⟩, hG81, H82⟩
 intro hM80
 refine any_memo (fuel := 3) (m := 8063) (fun a w => ∃ (T0 : Fr) (G1 : Ghost), a = mk 17 (upds T0 [(2, (pt b14)), (11, (pu b0 12)), (16, (.slice A10 x8.length c11))]) ∧ GLe G G1 ∧ St c G1 w ((.box b14 29 (kTNego.at_ x2)) :: (.box b0 63 (kTnego_workV.at_ (Tnego_workV.mk x2 (.slice A5 x3.length c6) (.slice A10 x8.length c11) x13))) :: (.row kTPkt g4 A5 c6 32 x3) :: (.row kI g9 A10 c11 3 x8) :: σ)) ?_ ?_
 ·rintro a w ⟨T0, G79, rfl, hG77, H78⟩
  refine any_alls [7] ⟨any_ops (m' := 8191) fun Q' hN => ?_, trivial⟩
  refine wl_load H78 (i := 1) rfl lTnego_workV_Out ty35 rfl ?_
  intro v99 hv100
  obtain rfl := val_V hv100
  refine wl_nil (hN _ _ ?_)
  exact hM80 _ _ ⟨_, _, frame_eq [(2, (pt b14)), (12, (.slice A5 x3.length c6)), (16, (.slice A10 x8.length c11))] ⟨rfl, rfl, rfl, trivial⟩, hG77, (St.pick [(.box b14 29 (kTNego.at_ x2)), (.box b0 63 (kTnego_workV.at_ (Tnego_workV.mk x2 (.slice A5 x3.length c6) (.slice A10 x8.length c11) x13))), (.row kTPkt g4 A5 c6 32 x3), (.row kI g9 A10 c11 3 x8)] [(.box b14 29 (kTNego.at_ x2)), (.row kTPkt g4 A5 c6 32 x3), (.row kI g9 A10 c11 3 x8), (.box b0 63 (kTnego_workV.at_ (Tnego_workV.mk x2 (.slice A5 x3.length c6) (.slice A10 x8.length c11) x13)))] [0, 2, 3, 1] H78 (by decide) rfl)⟩
 intro hM76
 refine any_memo (fuel := 3) (m := 6143) (fun a w => ∃ (T0 : Fr) (G1 : Ghost), a = mk 17 (upds T0 [(2, (pt b14)), (12, (.slice A5 x3.length c6)), (15, (pu b0 13))]) ∧ GLe G G1 ∧ St c G1 w ((.box b14 29 (kTNego.at_ x2)) :: (.row kTPkt g4 A5 c6 32 x3) :: (.box b0 63 (kTnego_workV.at_ (Tnego_workV.mk x2 (.slice A5 x3.length c6) (.slice A10 x8.length c11) x13))) :: (.row kI g9 A10 c11 3 x8) :: σ)) ?_ ?_
 ·rintro a w ⟨T0, G75, rfl, hG73, H74⟩
  refine any_rn (i := 13) (m' := 14335) rfl (rn_pure (.slice A5 x3.length c6) rfl) hPF hns ?_
  refine any_alls [11] ⟨any_ops (m' := 16383) fun Q' hN => ?_, trivial⟩
  refine wl_load H74 (i := 2) rfl lTnego_workV_Tell ty36 rfl ?_
  intro v101 hv102
  obtain rfl := val_V hv102
  refine wl_nil (hN _ _ ?_)
  exact hM84 _ _ ⟨_, _, frame_eq [(2, (pt b14)), (3, (.slice A5 x3.length c6)), (16, (.slice A10 x8.length c11))] ⟨rfl, rfl, rfl, trivial⟩, hG73, (St.pick [(.box b14 29 (kTNego.at_ x2)), (.row kTPkt g4 A5 c6 32 x3), (.box b0 63 (kTnego_workV.at_ (Tnego_workV.mk x2 (.slice A5 x3.length c6) (.slice A10 x8.length c11) x13))), (.row kI g9 A10 c11 3 x8)] [(.box b14 29 (kTNego.at_ x2)), (.row kTPkt g4 A5 c6 32 x3), (.row kI g9 A10 c11 3 x8), (.box b0 63 (kTnego_workV.at_ (Tnego_workV.mk x2 (.slice A5 x3.length c6) (.slice A10 x8.length c11) x13)))] [0, 1, 3, 2] H74 (by decide) rfl)⟩
 intro hM72
 refine any_memo (fuel := 3) (m := 4095) (fun a w => ∃ (T0 : Fr) (G1 : Ghost) (v68 : Value), a = mk 17 (upds T0 [(2, (pt b14)), (8, v68), (12, (.slice A5 x3.length c6)), (16, (.slice A10 x8.length c11))]) ∧ GLe G G1 ∧ St c G1 w ((.box b14 29 (kTNego.at_ zTNego)) :: (.row kTPkt g4 A5 c6 32 x3) :: (.row kI g9 A10 c11 3 x8) :: (.box b0 63 (kTnego_workV.at_ (Tnego_workV.mk x2 (.slice A5 x3.length c6) (.slice A10 x8.length c11) x13))) :: σ) ∧ kTNego.V G1 v68 x2) ?_ ?_
 ·rintro a w ⟨T0, G67, v68, rfl, hG65, H66, hv69⟩
  refine any_alls [12] ⟨any_ops (m' := 8191) fun Q' hN => ?_, trivial⟩
  refine wl_store (z := x2) H66 (i := 0) rfl (Lens.id kTNego) ty29 rfl rfl hv69 ?_
  intro w104 H103
  refine wl_nil (hN _ _ ?_)
  exact hM80 _ _ ⟨_, _, frame_eq [(2, (pt b14)), (12, (.slice A5 x3.length c6)), (16, (.slice A10 x8.length c11))] ⟨rfl, rfl, rfl, trivial⟩, hG65, H103⟩
 intro hM64
 refine any_memo (fuel := 4) (m := 4087) (fun a w => ∃ (T0 : Fr) (G1 : Ghost), a = mk 17 (upds T0 [(2, (pt b14)), (7, (pt b0)), (12, (.slice A5 x3.length c6)), (16, (.slice A10 x8.length c11))]) ∧ GLe G G1 ∧ St c G1 w ((.box b14 29 (kTNego.at_ zTNego)) :: (.box b0 63 (kTnego_workV.at_ (Tnego_workV.mk x2 (.slice A5 x3.length c6) (.slice A10 x8.length c11) x13))) :: (.row kTPkt g4 A5 c6 32 x3) :: (.row kI g9 A10 c11 3 x8) :: σ)) ?_ ?_
 ·rintro a w ⟨T0, G63, rfl, hG61, H62⟩
  refine any_alls [3] ⟨any_ops (m' := 4095) fun Q' hN => ?_, trivial⟩
  refine wl_load H62 (i := 1) rfl lTnego_workV_Nego ty29 rfl ?_
  intro v105 hv106
  refine wl_nil (hN _ _ ?_)
  exact hM64 _ _ ⟨_, _, v105, frame_eq [(2, (pt b14)), (8, v105), (12, (.slice A5 x3.length c6)), (16, (.slice A10 x8.length c11))] ⟨rfl, rfl, rfl, rfl, trivial⟩, hG61, (St.pick [(.box b14 29 (kTNego.at_ zTNego)), (.box b0 63 (kTnego_workV.at_ (Tnego_workV.mk x2 (.slice A5 x3.length c6) (.slice A10 x8.length c11) x13))), (.row kTPkt g4 A5 c6 32 x3), (.row kI g9 A10 c11 3 x8)] [(.box b14 29 (kTNego.at_ zTNego)), (.row kTPkt g4 A5 c6 32 x3), (.row kI g9 A10 c11 3 x8), (.box b0 63 (kTnego_workV.at_ (Tnego_workV.mk x2 (.slice A5 x3.length c6) (.slice A10 x8.length c11) x13)))] [0, 2, 3, 1] H62 (by decide) rfl), hv106⟩
 intro hM60
 refine any_memo (fuel := 4) (m := 3967) (fun a w => ∃ (T0 : Fr) (G1 : Ghost) (v56 : Value), a = mk 17 (upds T0 [(2, (pt b14)), (8, v56), (11, (pu b0 12)), (16, (.slice A10 x8.length c11))]) ∧ GLe G G1 ∧ St c G1 w ((.box b14 29 (kTNego.at_ zTNego)) :: (.box b0 63 (kTnego_workV.at_ (Tnego_workV.mk x2 (.slice A5 x3.length c6) (.slice A10 x8.length c11) x13))) :: (.row kTPkt g4 A5 c6 32 x3) :: (.row kI g9 A10 c11 3 x8) :: σ) ∧ kTNego.V G1 v56 x2) ?_ ?_
 ·rintro a w ⟨T0, G55, v56, rfl, hG53, H54, hv57⟩
  refine any_alls [7, 12] ⟨?_, ?_, trivial⟩
  ·refine any_ops (m' := 4095) fun Q' hN => ?_
   refine wl_load H54 (i := 1) rfl lTnego_workV_Out ty35 rfl ?_
   intro v107 hv108
   obtain rfl := val_V hv108
   refine wl_nil (hN _ _ ?_)
   exact hM64 _ _ ⟨_, _, v56, frame_eq [(2, (pt b14)), (8, v56), (12, (.slice A5 x3.length c6)), (16, (.slice A10 x8.length c11))] ⟨rfl, rfl, rfl, rfl, trivial⟩, hG53, (St.pick [(.box b14 29 (kTNego.at_ zTNego)), (.box b0 63 (kTnego_workV.at_ (Tnego_workV.mk x2 (.slice A5 x3.length c6) (.slice A10 x8.length c11) x13))), (.row kTPkt g4 A5 c6 32 x3), (.row kI g9 A10 c11 3 x8)] [(.box b14 29 (kTNego.at_ zTNego)), (.row kTPkt g4 A5 c6 32 x3), (.row kI g9 A10 c11 3 x8), (.box b0 63 (kTnego_workV.at_ (Tnego_workV.mk x2 (.slice A5 x3.length c6) (.slice A10 x8.length c11) x13)))] [0, 2, 3, 1] H54 (by decide) rfl), hv57⟩
  ·refine any_ops (m' := 8063) fun Q' hN => ?_
   refine wl_store (z := x2) H54 (i := 0) rfl (Lens.id kTNego) ty29 rfl rfl hv57 ?_
   intro w110 H109
   refine wl_nil (hN _ _ ?_)
   exact hM76 _ _ ⟨_, _, frame_eq [(2, (pt b14)), (11, (pu b0 12)), (16, (.slice A10 x8.length c11))] ⟨rfl, rfl, rfl, trivial⟩, hG53, H109⟩
 intro hM52
 refine any_memo (fuel := 4) (m := 2047) (fun a w => ∃ (T0 : Fr) (G1 : Ghost) (v46 : Value), a = mk 17 (upds T0 [(2, (pt b14)), (8, v46), (12, (.slice A5 x3.length c6)), (15, (pu b0 13))]) ∧ GLe G G1 ∧ St c G1 w ((.box b14 29 (kTNego.at_ zTNego)) :: (.row kTPkt g4 A5 c6 32 x3) :: (.box b0 63 (kTnego_workV.at_ (Tnego_workV.mk x2 (.slice A5 x3.length c6) (.slice A10 x8.length c11) x13))) :: (.row kI g9 A10 c11 3 x8) :: σ) ∧ kTNego.V G1 v46 x2) ?_ ?_
 ·rintro a w ⟨T0, G45, v46, rfl, hG43, H44, hv47⟩
  refine any_alls [11, 12] ⟨?_, ?_, trivial⟩
  ·refine any_ops (m' := 4095) fun Q' hN => ?_
   refine wl_load H44 (i := 2) rfl lTnego_workV_Tell ty36 rfl ?_
   intro v111 hv112
   obtain rfl := val_V hv112
   refine wl_nil (hN _ _ ?_)
   exact hM64 _ _ ⟨_, _, v46, frame_eq [(2, (pt b14)), (8, v46), (12, (.slice A5 x3.length c6)), (16, (.slice A10 x8.length c11))] ⟨rfl, rfl, rfl, rfl, trivial⟩, hG43, (St.pick [(.box b14 29 (kTNego.at_ zTNego)), (.row kTPkt g4 A5 c6 32 x3), (.box b0 63 (kTnego_workV.at_ (Tnego_workV.mk x2 (.slice A5 x3.length c6) (.slice A10 x8.length c11) x13))), (.row kI g9 A10 c11 3 x8)] [(.box b14 29 (kTNego.at_ zTNego)), (.row kTPkt g4 A5 c6 32 x3), (.row kI g9 A10 c11 3 x8), (.box b0 63 (kTnego_workV.at_ (Tnego_workV.mk x2 (.slice A5 x3.length c6) (.slice A10 x8.length c11) x13)))] [0, 1, 3, 2] H44 (by decide) rfl), hv47⟩
  ·refine any_ops (m' := 6143) fun Q' hN => ?_
   refine wl_store (z := x2) H44 (i := 0) rfl (Lens.id kTNego) ty29 rfl rfl hv47 ?_
   intro w114 H113
   refine wl_nil (hN _ _ ?_)
   exact hM72 _ _ ⟨_, _, frame_eq [(2, (pt b14)), (12, (.slice A5 x3.length c6)), (15, (pu b0 13))] ⟨rfl, rfl, rfl, trivial⟩, hG43, H113⟩
 intro hM42
 refine any_rn (i := 0) (m' := 1) rfl (rn_pure (pt b0) rfl) hPF hns ?_
 refine any_rn (i := 1) (m' := 3) rfl (rn_nilCheck rfl) hPF hns ?_
 refine any_rn (i := 2) (m' := 7) rfl (rn_field fo63_0 rfl) hPF hns ?_
 refine any_rn (i := 4) (m' := 23) rfl (rn_pure (pt b0) rfl) hPF hns ?_
 refine any_rn (i := 5) (m' := 55) rfl (rn_nilCheck rfl) hPF hns ?_
 refine any_rn (i := 6) (m' := 119) rfl (rn_field fo63_1 rfl) hPF hns ?_
 refine any_rn (i := 8) (m' := 375) rfl (rn_pure (pt b0) rfl) hPF hns ?_
 refine any_rn (i := 9) (m' := 887) rfl (rn_nilCheck rfl) hPF hns ?_
 refine any_rn (i := 10) (m' := 1911) rfl (rn_field fo63_2 rfl) hPF hns ?_
 refine any_alls [3, 7, 11] ⟨?_, ?_, ?_, trivial⟩
 ·refine any_ops (m' := 1919) fun Q' hN => ?_
  refine wl_load H19 (i := 1) rfl lTnego_workV_Nego ty29 rfl ?_
  intro v115 hv116
  refine wl_nil (hN _ _ ?_)
  refine any_alls [7, 11, 12] ⟨?_, ?_, ?_, trivial⟩
  ·refine any_ops (m' := 2047) fun Q' hN => ?_
   refine wl_load H19 (i := 1) rfl lTnego_workV_Out ty35 rfl ?_
   intro v117 hv118
   obtain rfl := val_V hv118
   refine wl_nil (hN _ _ ?_)
   exact hM42 _ _ ⟨_, _, v115, frame_eq [(2, (pt b14)), (8, v115), (12, (.slice A5 x3.length c6)), (15, (pu b0 13))] ⟨rfl, rfl, rfl, rfl, trivial⟩, GLe.refl _, (St.pick [(.box b14 29 (kTNego.at_ zTNego)), (.box b0 63 (kTnego_workV.at_ (Tnego_workV.mk x2 (.slice A5 x3.length c6) (.slice A10 x8.length c11) x13))), (.row kTPkt g4 A5 c6 32 x3), (.row kI g9 A10 c11 3 x8)] [(.box b14 29 (kTNego.at_ zTNego)), (.row kTPkt g4 A5 c6 32 x3), (.box b0 63 (kTnego_workV.at_ (Tnego_workV.mk x2 (.slice A5 x3.length c6) (.slice A10 x8.length c11) x13))), (.row kI g9 A10 c11 3 x8)] [0, 2, 1, 3] H19 (by decide) rfl), hv116⟩
  ·refine any_ops (m' := 3967) fun Q' hN => ?_
   refine wl_load H19 (i := 1) rfl lTnego_workV_Tell ty36 rfl ?_
   intro v119 hv120
   obtain rfl := val_V hv120
   refine wl_nil (hN _ _ ?_)
   exact hM52 _ _ ⟨_, _, v115, frame_eq [(2, (pt b14)), (8, v115), (11, (pu b0 12)), (16, (.slice A10 x8.length c11))] ⟨rfl, rfl, rfl, rfl, trivial⟩, GLe.refl _, H19, hv116⟩
  ·refine any_ops (m' := 6015) fun Q' hN => ?_
   refine wl_store (z := x2) H19 (i := 0) rfl (Lens.id kTNego) ty29 rfl rfl hv116 ?_
   intro w122 H121
   refine wl_nil (hN _ _ ?_)
   refine any_alls [7, 11] ⟨?_, ?_, trivial⟩
   ·refine any_ops (m' := 6143) fun Q' hN => ?_
    refine wl_load H121 (i := 1) rfl lTnego_workV_Out ty35 rfl ?_
    intro v123 hv124
    obtain rfl := val_V hv124
    refine wl_nil (hN _ _ ?_)
    exact hM72 _ _ ⟨_, _, frame_eq [(2, (pt b14)), (12, (.slice A5 x3.length c6)), (15, (pu b0 13))] ⟨rfl, rfl, rfl, trivial⟩, GLe.refl _, (St.pick [(.box b14 29 (kTNego.at_ x2)), (.box b0 63 (kTnego_workV.at_ (Tnego_workV.mk x2 (.slice A5 x3.length c6) (.slice A10 x8.length c11) x13))), (.row kTPkt g4 A5 c6 32 x3), (.row kI g9 A10 c11 3 x8)] [(.box b14 29 (kTNego.at_ x2)), (.row kTPkt g4 A5 c6 32 x3), (.box b0 63 (kTnego_workV.at_ (Tnego_workV.mk x2 (.slice A5 x3.length c6) (.slice A10 x8.length c11) x13))), (.row kI g9 A10 c11 3 x8)] [0, 2, 1, 3] H121 (by decide) rfl)⟩
   ·refine any_ops (m' := 8063) fun Q' hN => ?_
    refine wl_load H121 (i := 1) rfl lTnego_workV_Tell ty36 rfl ?_
    intro v125 hv126
    obtain rfl := val_V hv126
    refine wl_nil (hN _ _ ?_)
    exact hM76 _ _ ⟨_, _, frame_eq [(2, (pt b14)), (11, (pu b0 12)), (16, (.slice A10 x8.length c11))] ⟨rfl, rfl, rfl, trivial⟩, GLe.refl _, H121⟩
 ·refine any_ops (m' := 2039) fun Q' hN => ?_
  refine wl_load H19 (i := 1) rfl lTnego_workV_Out ty35 rfl ?_
  intro v127 hv128
  obtain rfl := val_V hv128
  refine wl_nil (hN _ _ ?_)
  refine any_alls [3, 11] ⟨?_, ?_, trivial⟩
  ·refine any_ops (m' := 2047) fun Q' hN => ?_
   refine wl_load H19 (i := 1) rfl lTnego_workV_Nego ty29 rfl ?_
   intro v129 hv130
   refine wl_nil (hN _ _ ?_)
   exact hM42 _ _ ⟨_, _, v129, frame_eq [(2, (pt b14)), (8, v129), (12, (.slice A5 x3.length c6)), (15, (pu b0 13))] ⟨rfl, rfl, rfl, rfl, trivial⟩, GLe.refl _, (St.pick [(.box b14 29 (kTNego.at_ zTNego)), (.box b0 63 (kTnego_workV.at_ (Tnego_workV.mk x2 (.slice A5 x3.length c6) (.slice A10 x8.length c11) x13))), (.row kTPkt g4 A5 c6 32 x3), (.row kI g9 A10 c11 3 x8)] [(.box b14 29 (kTNego.at_ zTNego)), (.row kTPkt g4 A5 c6 32 x3), (.box b0 63 (kTnego_workV.at_ (Tnego_workV.mk x2 (.slice A5 x3.length c6) (.slice A10 x8.length c11) x13))), (.row kI g9 A10 c11 3 x8)] [0, 2, 1, 3] H19 (by decide) rfl), hv130⟩
  ·refine any_ops (m' := 4087) fun Q' hN => ?_
   refine wl_load H19 (i := 1) rfl lTnego_workV_Tell ty36 rfl ?_
   intro v131 hv132
   obtain rfl := val_V hv132
   refine wl_nil (hN _ _ ?_)
   exact hM60 _ _ ⟨_, _, frame_eq [(2, (pt b14)), (7, (pt b0)), (12, (.slice A5 x3.length c6)), (16, (.slice A10 x8.length c11))] ⟨rfl, rfl, rfl, rfl, trivial⟩, GLe.refl _, H19⟩
 ·refine any_ops (m' := 3959) fun Q' hN => ?_
  refine wl_load H19 (i := 1) rfl lTnego_workV_Tell ty36 rfl ?_
  intro v133 hv134
  obtain rfl := val_V hv134
  refine wl_nil (hN _ _ ?_)
  refine any_alls [3, 7] ⟨?_, ?_, trivial⟩
  ·refine any_ops (m' := 3967) fun Q' hN => ?_
   refine wl_load H19 (i := 1) rfl lTnego_workV_Nego ty29 rfl ?_
   intro v135 hv136
   refine wl_nil (hN _ _ ?_)
   exact hM52 _ _ ⟨_, _, v135, frame_eq [(2, (pt b14)), (8, v135), (11, (pu b0 12)), (16, (.slice A10 x8.length c11))] ⟨rfl, rfl, rfl, rfl, trivial⟩, GLe.refl _, H19, hv136⟩
  ·refine any_ops (m' := 4087) fun Q' hN => ?_
   refine wl_load H19 (i := 1) rfl lTnego_workV_Out ty35 rfl ?_
   intro v137 hv138
   obtain rfl := val_V hv138
   refine wl_nil (hN _ _ ?_)
   exact hM60 _ _ ⟨_, _, frame_eq [(2, (pt b14)), (7, (pt b0)), (12, (.slice A5 x3.length c6)), (16, (.slice A10 x8.length c11))] ⟨rfl, rfl, rfl, rfl, trivial⟩, GLe.refl _, H19⟩

theorem nego_Do_ok {c : World} (hc : Hc c) {G : Ghost} {w : World} {σ : List Ent} {a0 : TNego} {v0_ : Value} {a1 : Int} (h0_ : kTNego.V G v0_ a0) (H : St c G w (σ)) {r : (TNego × (List TPkt) × (List Int))} (hF : nego_Do a0 a1 = some r) :
  Calls Tryd.prog 11 ([v0_, (.int .i64 a1)] : List Value).toArray w (Ends fun v w' => ∃ (G' : Ghost) (v1' : Value) (A2' : Option Addr) (c3' : Nat) (A4' : Option Addr) (c5' : Nat), GLe G G' ∧ tup [v1', (.slice A2' r.2.1.length c3'), (.slice A4' r.2.2.length c5')] = v ∧ St c G' w' (σ) ∧ kTNego.V G' v1' r.1 ∧ SlR kTPkt G' A2' c3' r.2.1 ∧ SlR kI G' A4' c5' r.2.2) := by
 unfold nego_Do at hF
 refine calls_mk Tryd.func11 rfl rfl rfl ?_
 refine wp_seq (wc_region ?_)
 refine wl_box (K := kTNego) (x := a0) H rfl h0_ ?_
 intro b1 w4 H2
 refine wl_alloc H2 zr29 ?_
 intro b5 w8 H6
 iterate 2 refine wl_rn (rn_pure (.slice none 0 0) rfl) ?_
 refine wl_nil (then_n (wp_seq (wc_region ?_)))
 refine wl_load H6 (i := 1) rfl (Lens.id kTNego) ty29 rfl ?_
 intro v9 hv10
 refine wl_rnE (rn_build (G := G) zr63V rfl bs63 rfl (Parts.cons fo63_0 lTnego_workV_Nego hv10 (Parts.nil _))) ?_
 intro v11 hv12
 refine wl_box (K := kTnego_workV) (x := (Tnego_workV.mk a0 (.slice none 0 0) (.slice none 0 0) zTPkt)) H6 rfl hv12 ?_
 intro b13 w16 H14
 refine wl_rn (rn_pure (pt b13) rfl) ?_
 refine wl_nil (then_n ?_)
 refine wp_seq (join (fun a w => ∃ (T0 : Fr) (G1 : Ghost) (x50 : TNego) (x51 : (List TPkt)) (x56 : (List Int)) (x61 : TPkt) (g52 : Option Nat) (A53 : Option Addr) (c54 : Nat) (g57 : Option Nat) (A58 : Option Addr) (c59 : Nat), a = mk 26 (upds T0 [(4, (pt b5)), (7, (pt b13))]) ∧ GLe G G1 ∧ St c G1 w ((.box b13 63 (kTnego_workV.at_ (Tnego_workV.mk x50 (.slice A53 x51.length c54) (.slice A58 x56.length c59) x61))) :: (.row kTPkt g52 A53 c54 32 x51) :: (.row kI g57 A58 c59 3 x56) :: (.box b5 29 (kTNego.at_ zTNego)) :: σ) ∧ nego_Do_j1 x50 x51 x56 x61 = some r) ?_ ?_)
 ·rintro a w ⟨T0, G64, x50, x51, x56, x61, g52, A53, c54, g57, A58, c59, rfl, hG62, H63, hF⟩
  refine wp_seq (wc_region ?_)
  refine wl_rn (rn_pure (pt b13) rfl) ?_
  obtain ⟨r65, hr66, hF⟩ := bindS hF
  refine wl_call (vs := [(pt b13)]) en31 rfl (nego_work_told_ok hc H63 hr66) ?_
  rintro v71 w70 ⟨G67, v72, A74, c75, A77, c78, hG68, rfl, H69, hv73, hs76, hs79⟩
  refine wl_rn (rn_pure v72 rfl) ?_
  refine wl_rn (rn_pure (.slice A74 r65.2.1.length c75) rfl) ?_
  refine wl_rn (rn_pure (.slice A77 r65.2.2.length c78) rfl) ?_
  refine wl_store (z := r65.1) H69 (i := 0) rfl (Lens.id kTNego) ty29 rfl rfl hv73 ?_
  intro w81 H80
  refine wl_rn (rn_pure (.slice A74 r65.2.1.length c75) rfl) ?_
  refine wl_rn (rn_pure (.slice A77 r65.2.2.length c78) rfl) ?_
  refine wl_nil (then_n ?_)
  refine wp_ret ?_
  obtain ⟨v82, hv83, hl84⟩ := H80.loadv (i := 0) rfl ty29
  have hF := Option.some.inj hF
  subst hF
  exact ret_mk rfl (RV.cell rfl hl84 (RV.tmp rfl (RV.tmp rfl RV.nil))) ⟨_, v82, A74, c75, A77, c78, (hG62.trans hG68), rfl, (St.pick [(.box b5 29 (kTNego.at_ r65.1))] [] [] H80 (by decide) rfl), hv83, hs76, hs79⟩
 ·refine wp_seq (join (fun a w => ∃ (T0 : Fr) (G1 : Ghost) (x86 : Bool) (x87 : TNego) (x88 : (List TPkt)) (x93 : (List Int)) (x98 : TPkt) (g89 : Option Nat) (A90 : Option Addr) (c91 : Nat) (g94 : Option Nat) (A95 : Option Addr) (c96 : Nat), a = mk 26 (upds T0 [(1, (.int .i64 a1)), (4, (pt b5)), (7, (pt b13)), (16, (.bool x86))]) ∧ GLe G G1 ∧ St c G1 w ((.box b13 63 (kTnego_workV.at_ (Tnego_workV.mk x87 (.slice A90 x88.length c91) (.slice A95 x93.length c96) x98))) :: (.row kTPkt g89 A90 c91 32 x88) :: (.row kI g94 A95 c96 3 x93) :: (.box b5 29 (kTNego.at_ zTNego)) :: σ) ∧ nego_Do_j2 a1 x86 x87 x88 x93 x98 = some r) ?_ ?_)
  ·rintro a w ⟨T0, G101, x86, x87, x88, x93, x98, g89, A90, c91, g94, A95, c96, rfl, hG99, H100, hF⟩
   rcases bcases x86 with hb102 | hb102
   ·replace hF := ifT hF hb102
    refine wc_true (vb hb102) ?_
    refine wc_region ?_
    refine wl_rn (rn_pure (pt b13) rfl) ?_
    refine wl_rn (rn_pure (.int .i64 a1) rfl) ?_
    refine wl_rnE (rn_build (G := G101) zr32 rfl bs32 rfl (Parts.nil _)) ?_
    intro v103 hv104
    obtain ⟨r105, hr106, hF⟩ := bindS hF
    refine wl_call (vs := [(pt b13), (.int .i64 a1), v103]) en30 rfl (nego_work_event_ok hc hv104 H100 hr106) ?_
    rintro v111 w110 ⟨G107, A112, c113, g115, A116, c117, g118, A119, c120, hG108, rfl, H109, hs114⟩
    refine wl_nil (then_n ?_)
    exact ⟨_, _, r105.2.1, r105.2.2.1, r105.2.2.2.1, r105.2.2.2.2, g115, A116, c117, g118, A119, c120, frame_eq [(4, (pt b5)), (7, (pt b13))] ⟨rfl, rfl, trivial⟩, (hG99.trans hG108), H109, hF⟩
   ·replace hF := ifF hF hb102
    refine wc_false (vb hb102) ?_
    refine wp_skip ?_
    refine then_n ?_
    exact ⟨_, _, x87, x88, x93, x98, g89, A90, c91, g94, A95, c96, frame_eq [(4, (pt b5)), (7, (pt b13))] ⟨rfl, rfl, trivial⟩, hG99, H100, hF⟩
  ·refine wc_region ?_
   refine wl_rn (rn_pure (.int .i64 a1) rfl) ?_
   iterate 2 refine wl_rn (rn_pure (.bool (decide (a1 ≥ 0))) rfl) ?_
   rcases bcases (decide (a1 ≥ 0)) with hb121 | hb121
   ·replace hF := ifT hF hb121
    refine wl_yes rfl rfl rfl (vb hb121) ?_
    refine wl_rn (rn_pure (.int .i64 a1) rfl) ?_
    refine wl_yes rfl rfl rfl (vb hb121) ?_
    refine wl_rn (rn_pure (.bool (decide (a1 ≤ 3))) rfl) ?_
    refine wl_rn (rn_pickT (.bool (decide (a1 ≤ 3))) (vb hb121) rfl) ?_
    refine wl_nil ?_
    have H122 := H14.nilrow kTPkt none 32
    have H124 := H122.nilrow kI none 3
    refine then_n ?_
    exact ⟨_, _, (decide (a1 ≤ 3)), a0, ([] : (List TPkt)), ([] : (List Int)), zTPkt, none, none, 0, none, none, 0, frame_eq [(1, (.int .i64 a1)), (4, (pt b5)), (7, (pt b13)), (16, (.bool (decide (a1 ≤ 3))))] ⟨rfl, rfl, rfl, rfl, trivial⟩, GLe.refl _, (St.pick [(.row kI none none 0 3 ([] : (List Int))), (.row kTPkt none none 0 32 ([] : (List TPkt))), (.box b13 63 (kTnego_workV.at_ (Tnego_workV.mk a0 (.slice none 0 0) (.slice none 0 0) zTPkt))), (.box b5 29 (kTNego.at_ zTNego)), (.box b1 29 (kTNego.at_ a0))] [(.box b13 63 (kTnego_workV.at_ (Tnego_workV.mk a0 (.slice none 0 0) (.slice none 0 0) zTPkt))), (.row kTPkt none none 0 32 ([] : (List TPkt))), (.row kI none none 0 3 ([] : (List Int))), (.box b5 29 (kTNego.at_ zTNego))] [2, 1, 0, 3] H124 (by decide) rfl), hF⟩
   ·replace hF := ifF hF hb121
    iterate 2 refine wl_no rfl rfl rfl (vb hb121) ?_
    refine wl_rn (rn_pickF (.bool false) (vb hb121) rfl) ?_
    refine wl_nil ?_
    have H126 := H14.nilrow kTPkt none 32
    have H128 := H126.nilrow kI none 3
    refine then_n ?_
    exact ⟨_, _, false, a0, ([] : (List TPkt)), ([] : (List Int)), zTPkt, none, none, 0, none, none, 0, frame_eq [(1, (.int .i64 a1)), (4, (pt b5)), (7, (pt b13)), (16, (.bool false))] ⟨rfl, rfl, rfl, rfl, trivial⟩, GLe.refl _, (St.pick [(.row kI none none 0 3 ([] : (List Int))), (.row kTPkt none none 0 32 ([] : (List TPkt))), (.box b13 63 (kTnego_workV.at_ (Tnego_workV.mk a0 (.slice none 0 0) (.slice none 0 0) zTPkt))), (.box b5 29 (kTNego.at_ zTNego)), (.box b1 29 (kTNego.at_ a0))] [(.box b13 63 (kTnego_workV.at_ (Tnego_workV.mk a0 (.slice none 0 0) (.slice none 0 0) zTPkt))), (.row kTPkt none none 0 32 ([] : (List TPkt))), (.row kI none none 0 3 ([] : (List Int))), (.box b5 29 (kTNego.at_ zTNego))] [2, 1, 0, 3] H128 (by decide) rfl), hF⟩

theorem pack_codes_ok {c : World} (hc : Hc c) {G : Ghost} {w : World} {σ : List Ent}   (H : St c G w (σ)) {r : Unit} (hF : pack_codes = some r) :
  Calls Tryd.prog 49 ([] : List Value).toArray w (Ends fun v w' => ∃ (G' : Ghost) (r1' : Nat) (v2' : Value) (v3' : Value) (v4' : Value), GLe G G' ∧ tup [(.map (some r1'))] = v ∧ St c G' w' ((.mp r1' [⟨.int .u16 49185, v2', 0⟩, ⟨.int .u16 49699, v3', 1⟩, ⟨.int .u16 32801, v4', 2⟩] 3) :: σ) ∧ (Kd.arr 2 kB).V G' v2' ([1, 11] : (List Int)) ∧ (Kd.arr 2 kB).V G' v3' ([1, 4] : (List Int)) ∧ (Kd.arr 2 kB).V G' v4' ([1, 7] : (List Int))) := by
 unfold pack_codes at hF
 refine calls_mk Tryd.func49 rfl rfl rfl ?_
 refine wp_seq (wc_region ?_)
 refine wl_rn (rn_pure (.map none) rfl) ?_
 refine wl_nil (then_n (wp_seq (wc_region ?_)))
 refine wl_makeMap H ?_
 intro r1 w2 H3
 refine wl_rnE (rn_arr (G := G) (K := kB) (vs := [(.int .u8 1), (.int .u8 11)]) (xs := ([1, 11] : (List Int))) zr88 ar88 ty5 rfl ⟨((dInt .u8).toV _ _), ((dInt .u8).toV _ _), trivial⟩ rfl) ?_
 intro v5 hv6
 refine wl_insert (key := (.int .u16 49185)) (val := v5) H3 (i := 0) rfl mt90 un69 rfl rfl rfl (by simp [Go.MapKept.IsKey]) rfl ?_
 intro w7 H8
 have H9 : St c G w7 ((.mp r1 [⟨.int .u16 49185, v5, 0⟩] 1) :: σ) := H8
 refine wl_rnE (rn_arr (G := G) (K := kB) (vs := [(.int .u8 1), (.int .u8 4)]) (xs := ([1, 4] : (List Int))) zr88 ar88 ty5 rfl ⟨((dInt .u8).toV _ _), ((dInt .u8).toV _ _), trivial⟩ rfl) ?_
 intro v10 hv11
 refine wl_insert (key := (.int .u16 49699)) (val := v10) H9 (i := 0) rfl mt90 un69 rfl rfl rfl (by simp [Go.MapKept.IsKey]) rfl ?_
 intro w12 H13
 have H14 : St c G w12 ((.mp r1 [⟨.int .u16 49185, v5, 0⟩, ⟨.int .u16 49699, v10, 1⟩] 2) :: σ) := H13
 refine wl_rnE (rn_arr (G := G) (K := kB) (vs := [(.int .u8 1), (.int .u8 7)]) (xs := ([1, 7] : (List Int))) zr88 ar88 ty5 rfl ⟨((dInt .u8).toV _ _), ((dInt .u8).toV _ _), trivial⟩ rfl) ?_
 intro v15 hv16
 refine wl_insert (key := (.int .u16 32801)) (val := v15) H14 (i := 0) rfl mt90 un69 rfl rfl rfl (by simp [Go.MapKept.IsKey]) rfl ?_
 intro w17 H18
 have H19 : St c G w17 ((.mp r1 [⟨.int .u16 49185, v5, 0⟩, ⟨.int .u16 49699, v10, 1⟩, ⟨.int .u16 32801, v15, 2⟩] 3) :: σ) := H18
 iterate 2 refine wl_rn (rn_pure (.map (some r1)) rfl) ?_
 refine wl_nil (then_n ?_)
 refine wp_ret ?_
 have hF := Option.some.inj hF
 subst hF
 exact ret_mk rfl (RV.tmp rfl RV.nil) ⟨_, r1, v5, v10, v15, GLe.refl _, rfl, H19, hv6, hv11, hv16⟩

theorem pack_Known_ok {c : World} (hc : Hc c) {G : Ghost} {w : World} {σ : List Ent} {a0 : Int} {a1 : Int}  (H : St c G w (σ)) {r : Bool} (hF : pack_Known a0 a1 = some r) :
  Calls Tryd.prog 34 ([(.int .u16 a0), (.int .u8 a1)] : List Value).toArray w (Ends fun v w' => ∃ (G' : Ghost), GLe G G' ∧ tup [(.bool r)] = v ∧ St c G' w' (σ)) := by
 unfold pack_Known at hF
 refine calls_mk Tryd.func34 rfl rfl rfl ?_
 refine wp_seq (wc_region ?_)
 refine wl_rn (rn_pure (.bool false) rfl) ?_
 refine wl_nil (then_n (wp_seq (wc_region ?_)))
 obtain ⟨r24, hr25, hF⟩ := bindS hF
 refine wl_call (vs := []) en49 rfl (pack_codes_ok hc H hr25) ?_
 rintro v30 w29 ⟨G26, r31, v33, v35, v37, hG27, rfl, H28, hv34, hv36, hv38⟩
 refine wl_rn (rn_pure (.int .u16 a0) rfl) ?_
 refine wl_lookupK (K := (Kd.arr 2 kB)) (vs := [v33, v35, v37]) (xs := [(49185, ([1, 11] : (List Int))), (49699, ([1, 4] : (List Int))), (32801, ([1, 7] : (List Int)))]) H28 ⟨hv34, hv36, hv38, trivial⟩ (i := 0) rfl mt90 un69 rfl rfl zr88 ?_
 intro v39 hv40
 refine wl_rn (rn_pure (.tuple #[v39, (.bool ((lkK ([(49185, ([1, 11] : (List Int))), (49699, ([1, 4] : (List Int))), (32801, ([1, 7] : (List Int)))] : List (Int × (List Int))) a0).isSome))]) rfl) ?_
 refine wl_rn (rn_pure v39 rfl) ?_
 refine wl_rn (rn_pure (.bool ((lkK ([(49185, ([1, 11] : (List Int))), (49699, ([1, 4] : (List Int))), (32801, ([1, 7] : (List Int)))] : List (Int × (List Int))) a0).isSome)) rfl) ?_
 refine wl_alloc H28 zr88 ?_
 intro b41 w44 H42
 refine wl_store (z := ((lkK ([(49185, ([1, 11] : (List Int))), (49699, ([1, 4] : (List Int))), (32801, ([1, 7] : (List Int)))] : List (Int × (List Int))) a0).getD (List.replicate 2 0))) H42 (i := 0) rfl (Lens.id (Kd.arr 2 kB)) ty88 rfl rfl hv40 ?_
 intro w46 H45
 refine wl_rn (rn_pure (.bool ((lkK ([(49185, ([1, 11] : (List Int))), (49699, ([1, 4] : (List Int))), (32801, ([1, 7] : (List Int)))] : List (Int × (List Int))) a0).isSome)) rfl) ?_
 refine wl_nil (then_n (wp_seq (wc_region ?_)))
 iterate 2 refine wl_rn (rn_pure (.bool ((lkK ([(49185, ([1, 11] : (List Int))), (49699, ([1, 4] : (List Int))), (32801, ([1, 7] : (List Int)))] : List (Int × (List Int))) a0).isSome)) rfl) ?_
 rcases bcases ((lkK ([(49185, ([1, 11] : (List Int))), (49699, ([1, 4] : (List Int))), (32801, ([1, 7] : (List Int)))] : List (Int × (List Int))) a0).isSome) with hb47 | hb47
 ·replace hF := ifT hF hb47
  refine wl_yes rfl rfl rfl (vb hb47) ?_
  refine wl_rn (rn_pure (.int .u8 a1) rfl) ?_
  refine wl_yes rfl rfl rfl (vb hb47) ?_
  refine wl_rn (rn_indexA ar88 ty5 rfl rfl (by decide) (by decide)) ?_
  refine wl_yes rfl rfl rfl (vb hb47) ?_
  refine wl_loadd H45 (i := 0) rfl (Lens.elt kB 2 0 0 rfl) (dInt .u8) ty5 rfl ?_
  refine wl_yes rfl rfl rfl (vb hb47) ?_
  refine wl_rn (rn_pure (.bool (decide (a1 ≥ (((lkK ([(49185, ([1, 11] : (List Int))), (49699, ([1, 4] : (List Int))), (32801, ([1, 7] : (List Int)))] : List (Int × (List Int))) a0).getD (List.replicate 2 0)).getD 0 0)))) rfl) ?_
  refine wl_rn (rn_pickT (.bool (decide (a1 ≥ (((lkK ([(49185, ([1, 11] : (List Int))), (49699, ([1, 4] : (List Int))), (32801, ([1, 7] : (List Int)))] : List (Int × (List Int))) a0).getD (List.replicate 2 0)).getD 0 0)))) (vb hb47) rfl) ?_
  refine wl_rn (rn_pure (.bool (decide (a1 ≥ (((lkK ([(49185, ([1, 11] : (List Int))), (49699, ([1, 4] : (List Int))), (32801, ([1, 7] : (List Int)))] : List (Int × (List Int))) a0).getD (List.replicate 2 0)).getD 0 0)))) rfl) ?_
  rcases bcases (decide (a1 ≥ (((lkK ([(49185, ([1, 11] : (List Int))), (49699, ([1, 4] : (List Int))), (32801, ([1, 7] : (List Int)))] : List (Int × (List Int))) a0).getD (List.replicate 2 0)).getD 0 0))) with hb48 | hb48
  ·replace hF := ifT hF hb48
   refine wl_yes rfl rfl rfl (vb hb48) ?_
   refine wl_rn (rn_pure (.int .u8 a1) rfl) ?_
   refine wl_yes rfl rfl rfl (vb hb48) ?_
   refine wl_rn (rn_indexA ar88 ty5 rfl rfl (by decide) (by decide)) ?_
   refine wl_yes rfl rfl rfl (vb hb48) ?_
   refine wl_loadd H45 (i := 0) rfl (Lens.elt kB 2 1 0 rfl) (dInt .u8) ty5 rfl ?_
   refine wl_yes rfl rfl rfl (vb hb48) ?_
   refine wl_rn (rn_pure (.bool (decide (a1 ≤ (((lkK ([(49185, ([1, 11] : (List Int))), (49699, ([1, 4] : (List Int))), (32801, ([1, 7] : (List Int)))] : List (Int × (List Int))) a0).getD (List.replicate 2 0)).getD 1 0)))) rfl) ?_
   refine wl_rn (rn_pickT (.bool (decide (a1 ≤ (((lkK ([(49185, ([1, 11] : (List Int))), (49699, ([1, 4] : (List Int))), (32801, ([1, 7] : (List Int)))] : List (Int × (List Int))) a0).getD (List.replicate 2 0)).getD 1 0)))) (vb hb48) rfl) ?_
   refine wl_rn (rn_pure (.bool (decide (a1 ≤ (((lkK ([(49185, ([1, 11] : (List Int))), (49699, ([1, 4] : (List Int))), (32801, ([1, 7] : (List Int)))] : List (Int × (List Int))) a0).getD (List.replicate 2 0)).getD 1 0)))) rfl) ?_
   refine wl_nil (then_n ?_)
   refine wp_ret ?_
   have hF := Option.some.inj hF
   subst hF
   exact ret_mk rfl (RV.tmp rfl RV.nil) ⟨_, hG27, rfl, (St.pick [(.box b41 88 ((Kd.arr 2 kB).at_ ((lkK ([(49185, ([1, 11] : (List Int))), (49699, ([1, 4] : (List Int))), (32801, ([1, 7] : (List Int)))] : List (Int × (List Int))) a0).getD (List.replicate 2 0)))), (.mp r31 [⟨.int .u16 49185, v33, 0⟩, ⟨.int .u16 49699, v35, 1⟩, ⟨.int .u16 32801, v37, 2⟩] 3)] [] [] H45 (by decide) rfl)⟩
  ·replace hF := ifF hF hb48
   iterate 4 refine wl_no rfl rfl rfl (vb hb48) ?_
   refine wl_rn (rn_pickF (.bool false) (vb hb48) rfl) ?_
   refine wl_rn (rn_pure (.bool false) rfl) ?_
   refine wl_nil (then_n ?_)
   refine wp_ret ?_
   have hF := Option.some.inj hF
   subst hF
   exact ret_mk rfl (RV.tmp rfl RV.nil) ⟨_, hG27, rfl, (St.pick [(.box b41 88 ((Kd.arr 2 kB).at_ ((lkK ([(49185, ([1, 11] : (List Int))), (49699, ([1, 4] : (List Int))), (32801, ([1, 7] : (List Int)))] : List (Int × (List Int))) a0).getD (List.replicate 2 0)))), (.mp r31 [⟨.int .u16 49185, v33, 0⟩, ⟨.int .u16 49699, v35, 1⟩, ⟨.int .u16 32801, v37, 2⟩] 3)] [] [] H45 (by decide) rfl)⟩
 ·replace hF := ifF hF hb47
  iterate 4 refine wl_no rfl rfl rfl (vb hb47) ?_
  refine wl_rn (rn_pickF (.bool false) (vb hb47) rfl) ?_
  refine wl_rn (rn_pure (.bool false) rfl) ?_
  iterate 4 refine wl_no rfl rfl rfl rfl ?_
  refine wl_rn (rn_pickF (.bool false) rfl rfl) ?_
  refine wl_rn (rn_pure (.bool false) rfl) ?_
  refine wl_nil (then_n ?_)
  refine wp_ret ?_
  have hF := Option.some.inj hF
  subst hF
  exact ret_mk rfl (RV.tmp rfl RV.nil) ⟨_, hG27, rfl, (St.pick [(.box b41 88 ((Kd.arr 2 kB).at_ ((lkK ([(49185, ([1, 11] : (List Int))), (49699, ([1, 4] : (List Int))), (32801, ([1, 7] : (List Int)))] : List (Int × (List Int))) a0).getD (List.replicate 2 0)))), (.mp r31 [⟨.int .u16 49185, v33, 0⟩, ⟨.int .u16 49699, v35, 1⟩, ⟨.int .u16 32801, v37, 2⟩] 3)] [] [] H45 (by decide) rfl)⟩

theorem pack_Bytes_ok {c : World} (hc : Hc c) {G : Ghost} {w : World} {σ : List Ent} {a0 : TPkt} {v0_ : Value} (h0_ : kTPkt.V G v0_ a0) (H : St c G w (σ)) {r : ((List Int) × Int)} (hF : pack_Bytes a0 = some r) :
  Calls Tryd.prog 50 ([v0_] : List Value).toArray w (Ends fun v w' => ∃ (G' : Ghost) (A1' : Option Addr) (c2' : Nat), GLe G G' ∧ tup [(.slice A1' r.1.length c2'), (.int .i64 r.2)] = v ∧ St c G' w' (σ) ∧ SlR kB G' A1' c2' r.1) := by
 unfold pack_Bytes at hF
 refine calls_mk Tryd.func50 rfl rfl rfl ?_
 refine wp_seq (wc_region ?_)
 refine wl_box (K := kTPkt) (x := a0) H rfl h0_ ?_
 intro b1 w4 H2
 refine wl_rn (rn_pure (.slice none 0 0) rfl) ?_
 refine wl_rn (rn_pure (.int .i64 0) rfl) ?_
 refine wl_nil (then_n (wp_seq (wc_region ?_)))
 refine wl_rn (rn_field fo32_2 rfl) ?_
 refine wl_load H2 (i := 0) rfl lTPkt_Data ty30 rfl ?_
 intro v5 hv6
 obtain ⟨A7, c8, rfl, hs9⟩ := slice_V hv6
 refine wl_rn (rn_len sl30 rfl) ?_
 iterate 2 refine wl_rn (rn_pure (.int .i64 (IntKind.i64.wrap ((a0.Data.length : Int) + 4))) rfl) ?_
 refine wl_nil (then_n ?_)
 refine wp_seq ?_
 refine wp_seq (wc_region ?_)
 refine wl_rn (rn_pure (.int .i64 (IntKind.i64.wrap ((a0.Data.length : Int) + 4))) rfl) ?_
 refine wl_rn (rn_pure (.bool (decide ((IntKind.i64.wrap ((a0.Data.length : Int) + 4)) > 1500))) rfl) ?_
 refine wl_nil (then_n ?_)
 rcases bcases (decide ((IntKind.i64.wrap ((a0.Data.length : Int) + 4)) > 1500)) with hb10 | hb10
 ·replace hF := ifT hF hb10
  refine wc_true (vb hb10) ?_
  refine wp_seq (wc_region ?_)
  refine wl_rn (rn_pure (.slice none 0 0) rfl) ?_
  refine wl_rn (rn_pure (.int .i64 1) rfl) ?_
  refine wl_nil (then_n ?_)
  refine wp_ret ?_
  refine then_r ?_
  have hF := Option.some.inj hF
  subst hF
  exact ret_mk rfl (RV.tmp rfl (RV.tmp rfl RV.nil)) ⟨_, none, 0, GLe.refl _, rfl, (St.pick [(.box b1 32 (kTPkt.at_ a0))] [] [] H2 (by decide) rfl), (SlR.nil _ _)⟩
 ·replace hF := ifF hF hb10
  refine wc_false (vb hb10) ?_
  refine wp_skip ?_
  refine then_n ?_
  refine wp_seq (wc_region ?_)
  refine wl_rn (rn_field fo32_0 rfl) ?_
  refine wl_loadd H2 (i := 0) rfl lTPkt_Code (dInt .u8) ty5 rfl ?_
  refine wl_rn (rn_field fo32_1 rfl) ?_
  refine wl_loadd H2 (i := 0) rfl lTPkt_Id (dInt .u8) ty5 rfl ?_
  refine wl_rn (rn_pure (.int .i64 (IntKind.i64.wrap ((a0.Data.length : Int) + 4))) rfl) ?_
  refine wl_rn (rn_pure (.int .i64 (sShr .i64 (IntKind.i64.wrap ((a0.Data.length : Int) + 4)) 8)) rfl) ?_
  refine wl_rn (rn_convert un3 un5 rfl) ?_
  refine wl_rn (rn_pure (.int .i64 (IntKind.i64.wrap ((a0.Data.length : Int) + 4))) rfl) ?_
  refine wl_rn (rn_convert un3 un5 rfl) ?_
  refine wl_lit (K := kB) (vs := [(.int .u8 a0.Code), (.int .u8 a0.Id), (.int .u8 (IntKind.u8.wrap ((sShr .i64 (IntKind.i64.wrap ((a0.Data.length : Int) + 4)) 8)))), (.int .u8 (IntKind.u8.wrap ((IntKind.i64.wrap ((a0.Data.length : Int) + 4)))))]) (xs := ([a0.Code, a0.Id, (IntKind.u8.wrap ((sShr .i64 (IntKind.i64.wrap ((a0.Data.length : Int) + 4)) 8))), (IntKind.u8.wrap ((IntKind.i64.wrap ((a0.Data.length : Int) + 4))))] : (List Int))) H2 sl30 el5 rfl ⟨((dInt .u8).toV _ _), ((dInt .u8).toV _ _), ((dInt .u8).toV _ _), ((dInt .u8).toV _ _), trivial⟩ rfl (by decide) ?_
  intro g11 w13 H12
  refine wl_rn (rn_field fo32_2 rfl) ?_
  refine wl_load H12 (i := 1) rfl lTPkt_Data ty30 rfl ?_
  intro v15 hv16
  obtain ⟨A17, c18, rfl, hs19⟩ := slice_V hv16
  obtain ⟨r20, hr21, hF⟩ := bindS hF
  refine wl_append H12 sl30 el5 (i := 0) rfl rfl rfl (hs19.src H12.ag) hr21 ?_
  intro g22 A23 c24 w25 H26
  refine wl_rn (rn_pure (.slice A23 r20.length c24) rfl) ?_
  refine wl_rn (rn_pure (.int .i64 0) rfl) ?_
  refine wl_nil (then_n ?_)
  refine wp_ret ?_
  obtain ⟨G27, hG28, H29, hs30⟩ := H26.stay (i := 0) rfl (H26.capA (i := 0) rfl)
  have hF := Option.some.inj hF
  subst hF
  exact ret_mk rfl (RV.tmp rfl (RV.tmp rfl RV.nil)) ⟨_, A23, c24, hG28, rfl, (St.pick [(.box b1 32 (kTPkt.at_ a0))] [] [] H29 (by decide) rfl), hs30⟩

theorem pack_short_ok {c : World} (hc : Hc c) {G : Ghost} {w : World} {σ : List Ent} {a0 : (List Int)} {A0_ : Option Addr} {c0_ : Nat} (h0_ : SlR kB G A0_ c0_ a0) (H : St c G w (σ)) {r : (List Int)} (hF : pack_short a0 = some r) :
  Calls Tryd.prog 51 ([(.slice A0_ a0.length c0_)] : List Value).toArray w (Ends fun v w' => ∃ (G' : Ghost) (A1' : Option Addr) (c2' : Nat), GLe G G' ∧ tup [(.slice A1' r.length c2')] = v ∧ St c G' w' (σ) ∧ SlR kB G' A1' c2' r) := by
 unfold pack_short at hF
 refine calls_mk Tryd.func51 rfl rfl rfl ?_
 refine wp_seq (wc_region ?_)
 refine wl_rn (rn_pure (.slice none 0 0) rfl) ?_
 refine wl_nil (then_n (wp_seq (wc_region ?_)))
 refine wl_rn (rn_pure (.slice A0_ a0.length c0_) rfl) ?_
 refine wl_rn (rn_len sl30 rfl) ?_
 refine wl_rn (rn_min rfl rfl) ?_
 refine wl_rn (rn_pure (.int .i64 (if 1496 < (a0.length : Int) then 1496 else (a0.length : Int))) rfl) ?_
 refine wl_nil (then_n (wp_seq (wc_region ?_)))
 refine wl_rn (rn_pure (.slice A0_ a0.length c0_) rfl) ?_
 iterate 2 refine wl_rn (rn_pure (.int .i64 (if 1496 < (a0.length : Int) then 1496 else (a0.length : Int))) rfl) ?_
 obtain ⟨r1, hr2, hF⟩ := bindS hF
 refine wl_rnE (rn_cutm (lo := none) h0_ sl30 ty5 rfl trivial rfl rfl hr2) ?_
 intro z3 hs4
 refine wl_rn (rn_pure (.slice z3.1 r1.length z3.2) rfl) ?_
 refine wl_nil (then_n ?_)
 refine wp_ret ?_
 have hF := Option.some.inj hF
 subst hF
 exact ret_mk rfl (RV.tmp rfl RV.nil) ⟨_, z3.1, z3.2, GLe.refl _, rfl, H, hs4⟩

theorem pack_Reject_ok {c : World} (hc : Hc c) {G : Ghost} {w : World} {σ : List Ent} {a0 : TPkt} {v0_ : Value} {a1 : Int} (h0_ : kTPkt.V G v0_ a0) (H : St c G w (σ)) {r : TPkt} (hF : pack_Reject a0 a1 = some r) :
  Calls Tryd.prog 35 ([v0_, (.int .u8 a1)] : List Value).toArray w (Ends fun v w' => ∃ (G' : Ghost) (v1' : Value), GLe G G' ∧ tup [v1'] = v ∧ St c G' w' (σ) ∧ kTPkt.V G' v1' r) := by
 unfold pack_Reject at hF
 refine calls_mk Tryd.func35 rfl rfl rfl ?_
 refine wp_seq (wc_region ?_)
 refine wl_box (K := kTPkt) (x := a0) H rfl h0_ ?_
 intro b1 w4 H2
 refine wl_alloc H2 zr32 ?_
 intro b5 w8 H6
 refine wl_nil (then_n (wp_seq (wc_region ?_)))
 refine wl_load H6 (i := 1) rfl (Lens.id kTPkt) ty32 rfl ?_
 intro v9 hv10
 obtain ⟨r11, hr12, hF⟩ := bindS hF
 refine wl_call (vs := [v9]) en50 rfl (pack_Bytes_ok hc hv10 H6 hr12) ?_
 rintro v17 w16 ⟨G13, A18, c19, hG14, rfl, H15, hs20⟩
 refine wl_rn (rn_pure (.tuple #[(.slice A18 r11.1.length c19), (.int .i64 r11.2)]) rfl) ?_
 refine wl_rn (rn_pure (.slice A18 r11.1.length c19) rfl) ?_
 refine wl_rn (rn_pure (.int .i64 r11.2) rfl) ?_
 refine wl_rn (rn_pure (.slice A18 r11.1.length c19) rfl) ?_
 refine wl_rn (rn_pure (.int .i64 r11.2) rfl) ?_
 refine wl_nil (then_n (wp_seq (wc_region ?_)))
 refine wl_rn (rn_pure (.int .u8 a1) rfl) ?_
 refine wl_rn (rn_pure (.slice A18 r11.1.length c19) rfl) ?_
 obtain ⟨r21, hr22, hF⟩ := bindS hF
 refine wl_call (vs := [(.slice A18 r11.1.length c19)]) en51 rfl (pack_short_ok hc hs20 H15 hr22) ?_
 rintro v27 w26 ⟨G23, A28, c29, hG24, rfl, H25, hs30⟩
 refine wl_rnE (rn_build (G := G23) zr32 rfl bs32 rfl (Parts.cons fo32_0 lTPkt_Code ((dInt .u8).toV _ _) (Parts.cons fo32_1 lTPkt_Id ((dInt .u8).toV _ _) (Parts.cons fo32_2 lTPkt_Data (slice_toV hs30) (Parts.nil _))))) ?_
 intro v31 hv32
 refine wl_store (z := (TPkt.mk 7 a1 r21)) H25 (i := 0) rfl (Lens.id kTPkt) ty32 rfl rfl hv32 ?_
 intro w34 H33
 refine wl_nil (then_n ?_)
 refine wp_ret ?_
 obtain ⟨v35, hv36, hl37⟩ := H33.loadv (i := 0) rfl ty32
 have hF := Option.some.inj hF
 subst hF
 exact ret_mk rfl (RV.cell rfl hl37 RV.nil) ⟨_, v35, (hG14.trans hG24), rfl, (St.pick [(.box b5 32 (kTPkt.at_ (TPkt.mk 7 a1 r21))), (.box b1 32 (kTPkt.at_ a0))] [] [] H33 (by decide) rfl), hv36⟩

theorem nego_codes_ok {c : World} (hc : Hc c) {G : Ghost} {w : World} {σ : List Ent}   (H : St c G w (σ)) {r : Unit} (hF : nego_codes = some r) :
  Calls Tryd.prog 36 ([] : List Value).toArray w (Ends fun v w' => ∃ (G' : Ghost) (r1' : Nat), GLe G G' ∧ tup [(.map (some r1'))] = v ∧ St c G' w' ((.mp r1' [⟨.int .u8 1, (.func (.func 52) #[] #[]), 0⟩, ⟨.int .u8 2, (.func (.func 53) #[] #[]), 1⟩, ⟨.int .u8 3, (.func (.func 54) #[] #[]), 2⟩, ⟨.int .u8 4, (.func (.func 54) #[] #[]), 3⟩, ⟨.int .u8 5, (.func (.func 55) #[] #[]), 4⟩, ⟨.int .u8 6, (.func (.func 56) #[] #[]), 5⟩, ⟨.int .u8 7, (.func (.func 57) #[] #[]), 6⟩, ⟨.int .u8 8, (.func (.func 58) #[] #[]), 7⟩, ⟨.int .u8 9, (.func (.func 59) #[] #[]), 8⟩, ⟨.int .u8 10, (.func (.func 60) #[] #[]), 9⟩, ⟨.int .u8 11, (.func (.func 60) #[] #[]), 10⟩] 11) :: σ)) := by
 unfold nego_codes at hF
 refine calls_mk Tryd.func36 rfl rfl rfl ?_
 refine wp_seq (wc_region ?_)
 refine wl_rn (rn_pure (.map none) rfl) ?_
 refine wl_nil (then_n (wp_seq (wc_region ?_)))
 refine wl_makeMap H ?_
 intro r1 w2 H3
 refine wl_insert (key := (.int .u8 1)) (val := (.func (.func 52) #[] #[])) H3 (i := 0) rfl mt73 un5 rfl rfl rfl (by simp [Go.MapKept.IsKey]) rfl ?_
 intro w5 H6
 have H7 : St c G w5 ((.mp r1 [⟨.int .u8 1, (.func (.func 52) #[] #[]), 0⟩] 1) :: σ) := H6
 refine wl_insert (key := (.int .u8 2)) (val := (.func (.func 53) #[] #[])) H7 (i := 0) rfl mt73 un5 rfl rfl rfl (by simp [Go.MapKept.IsKey]) rfl ?_
 intro w8 H9
 have H10 : St c G w8 ((.mp r1 [⟨.int .u8 1, (.func (.func 52) #[] #[]), 0⟩, ⟨.int .u8 2, (.func (.func 53) #[] #[]), 1⟩] 2) :: σ) := H9
 refine wl_insert (key := (.int .u8 3)) (val := (.func (.func 54) #[] #[])) H10 (i := 0) rfl mt73 un5 rfl rfl rfl (by simp [Go.MapKept.IsKey]) rfl ?_
 intro w11 H12
 have H13 : St c G w11 ((.mp r1 [⟨.int .u8 1, (.func (.func 52) #[] #[]), 0⟩, ⟨.int .u8 2, (.func (.func 53) #[] #[]), 1⟩, ⟨.int .u8 3, (.func (.func 54) #[] #[]), 2⟩] 3) :: σ) := H12
 refine wl_insert (key := (.int .u8 4)) (val := (.func (.func 54) #[] #[])) H13 (i := 0) rfl mt73 un5 rfl rfl rfl (by simp [Go.MapKept.IsKey]) rfl ?_
 intro w14 H15
 have H16 : St c G w14 ((.mp r1 [⟨.int .u8 1, (.func (.func 52) #[] #[]), 0⟩, ⟨.int .u8 2, (.func (.func 53) #[] #[]), 1⟩, ⟨.int .u8 3, (.func (.func 54) #[] #[]), 2⟩, ⟨.int .u8 4, (.func (.func 54) #[] #[]), 3⟩] 4) :: σ) := H15
 refine wl_insert (key := (.int .u8 5)) (val := (.func (.func 55) #[] #[])) H16 (i := 0) rfl mt73 un5 rfl rfl rfl (by simp [Go.MapKept.IsKey]) rfl ?_
 intro w17 H18
 have H19 : St c G w17 ((.mp r1 [⟨.int .u8 1, (.func (.func 52) #[] #[]), 0⟩, ⟨.int .u8 2, (.func (.func 53) #[] #[]), 1⟩, ⟨.int .u8 3, (.func (.func 54) #[] #[]), 2⟩, ⟨.int .u8 4, (.func (.func 54) #[] #[]), 3⟩, ⟨.int .u8 5, (.func (.func 55) #[] #[]), 4⟩] 5) :: σ) := H18
 refine wl_insert (key := (.int .u8 6)) (val := (.func (.func 56) #[] #[])) H19 (i := 0) rfl mt73 un5 rfl rfl rfl (by simp [Go.MapKept.IsKey]) rfl ?_
 intro w20 H21
 have H22 : St c G w20 ((.mp r1 [⟨.int .u8 1, (.func (.func 52) #[] #[]), 0⟩, ⟨.int .u8 2, (.func (.func 53) #[] #[]), 1⟩, ⟨.int .u8 3, (.func (.func 54) #[] #[]), 2⟩, ⟨.int .u8 4, (.func (.func 54) #[] #[]), 3⟩, ⟨.int .u8 5, (.func (.func 55) #[] #[]), 4⟩, ⟨.int .u8 6, (.func (.func 56) #[] #[]), 5⟩] 6) :: σ) := H21
 refine wl_insert (key := (.int .u8 7)) (val := (.func (.func 57) #[] #[])) H22 (i := 0) rfl mt73 un5 rfl rfl rfl (by simp [Go.MapKept.IsKey]) rfl ?_
 intro w23 H24
 have H25 : St c G w23 ((.mp r1 [⟨.int .u8 1, (.func (.func 52) #[] #[]), 0⟩, ⟨.int .u8 2, (.func (.func 53) #[] #[]), 1⟩, ⟨.int .u8 3, (.func (.func 54) #[] #[]), 2⟩, ⟨.int .u8 4, (.func (.func 54) #[] #[]), 3⟩, ⟨.int .u8 5, (.func (.func 55) #[] #[]), 4⟩, ⟨.int .u8 6, (.func (.func 56) #[] #[]), 5⟩, ⟨.int .u8 7, (.func (.func 57) #[] #[]), 6⟩] 7) :: σ) := H24
 refine wl_insert (key := (.int .u8 8)) (val := (.func (.func 58) #[] #[])) H25 (i := 0) rfl mt73 un5 rfl rfl rfl (by simp [Go.MapKept.IsKey]) rfl ?_
 intro w26 H27
 have H28 : St c G w26 ((.mp r1 [⟨.int .u8 1, (.func (.func 52) #[] #[]), 0⟩, ⟨.int .u8 2, (.func (.func 53) #[] #[]), 1⟩, ⟨.int .u8 3, (.func (.func 54) #[] #[]), 2⟩, ⟨.int .u8 4, (.func (.func 54) #[] #[]), 3⟩, ⟨.int .u8 5, (.func (.func 55) #[] #[]), 4⟩, ⟨.int .u8 6, (.func (.func 56) #[] #[]), 5⟩, ⟨.int .u8 7, (.func (.func 57) #[] #[]), 6⟩, ⟨.int .u8 8, (.func (.func 58) #[] #[]), 7⟩] 8) :: σ) := H27
 refine wl_insert (key := (.int .u8 9)) (val := (.func (.func 59) #[] #[])) H28 (i := 0) rfl mt73 un5 rfl rfl rfl (by simp [Go.MapKept.IsKey]) rfl ?_
 intro w29 H30
 have H31 : St c G w29 ((.mp r1 [⟨.int .u8 1, (.func (.func 52) #[] #[]), 0⟩, ⟨.int .u8 2, (.func (.func 53) #[] #[]), 1⟩, ⟨.int .u8 3, (.func (.func 54) #[] #[]), 2⟩, ⟨.int .u8 4, (.func (.func 54) #[] #[]), 3⟩, ⟨.int .u8 5, (.func (.func 55) #[] #[]), 4⟩, ⟨.int .u8 6, (.func (.func 56) #[] #[]), 5⟩, ⟨.int .u8 7, (.func (.func 57) #[] #[]), 6⟩, ⟨.int .u8 8, (.func (.func 58) #[] #[]), 7⟩, ⟨.int .u8 9, (.func (.func 59) #[] #[]), 8⟩] 9) :: σ) := H30
 refine wl_insert (key := (.int .u8 10)) (val := (.func (.func 60) #[] #[])) H31 (i := 0) rfl mt73 un5 rfl rfl rfl (by simp [Go.MapKept.IsKey]) rfl ?_
 intro w32 H33
 have H34 : St c G w32 ((.mp r1 [⟨.int .u8 1, (.func (.func 52) #[] #[]), 0⟩, ⟨.int .u8 2, (.func (.func 53) #[] #[]), 1⟩, ⟨.int .u8 3, (.func (.func 54) #[] #[]), 2⟩, ⟨.int .u8 4, (.func (.func 54) #[] #[]), 3⟩, ⟨.int .u8 5, (.func (.func 55) #[] #[]), 4⟩, ⟨.int .u8 6, (.func (.func 56) #[] #[]), 5⟩, ⟨.int .u8 7, (.func (.func 57) #[] #[]), 6⟩, ⟨.int .u8 8, (.func (.func 58) #[] #[]), 7⟩, ⟨.int .u8 9, (.func (.func 59) #[] #[]), 8⟩, ⟨.int .u8 10, (.func (.func 60) #[] #[]), 9⟩] 10) :: σ) := H33
 refine wl_insert (key := (.int .u8 11)) (val := (.func (.func 60) #[] #[])) H34 (i := 0) rfl mt73 un5 rfl rfl rfl (by simp [Go.MapKept.IsKey]) rfl ?_
 intro w35 H36
 have H37 : St c G w35 ((.mp r1 [⟨.int .u8 1, (.func (.func 52) #[] #[]), 0⟩, ⟨.int .u8 2, (.func (.func 53) #[] #[]), 1⟩, ⟨.int .u8 3, (.func (.func 54) #[] #[]), 2⟩, ⟨.int .u8 4, (.func (.func 54) #[] #[]), 3⟩, ⟨.int .u8 5, (.func (.func 55) #[] #[]), 4⟩, ⟨.int .u8 6, (.func (.func 56) #[] #[]), 5⟩, ⟨.int .u8 7, (.func (.func 57) #[] #[]), 6⟩, ⟨.int .u8 8, (.func (.func 58) #[] #[]), 7⟩, ⟨.int .u8 9, (.func (.func 59) #[] #[]), 8⟩, ⟨.int .u8 10, (.func (.func 60) #[] #[]), 9⟩, ⟨.int .u8 11, (.func (.func 60) #[] #[]), 10⟩] 11) :: σ) := H36
 iterate 2 refine wl_rn (rn_pure (.map (some r1)) rfl) ?_
 refine wl_nil (then_n ?_)
 refine wp_ret ?_
 have hF := Option.some.inj hF
 subst hF
 exact ret_mk rfl (RV.tmp rfl RV.nil) ⟨_, r1, GLe.refl _, rfl, H37⟩

theorem opts_parts_ok {c : World} (hc : Hc c) {G : Ghost} {w : World} {σ : List Ent} {a0 : (List Int)} {A0_ : Option Addr} {c0_ : Nat} (h0_ : SlR kB G A0_ c0_ a0) (H : St c G w (σ)) {r : (List Int)} (hF : opts_parts a0 = some r) :
  Calls Tryd.prog 86 ([(.slice A0_ a0.length c0_)] : List Value).toArray w (Ends fun v w' => ∃ (G' : Ghost) (b1' : Nat), GLe G G' ∧ tup [(.func (.func 95) #[] #[(.pointer (some ⟨b1', 0, none⟩))])] = v ∧ St c G' w' ((.box b1' 30 (kBs.at_ r)) :: σ)) := by
 unfold opts_parts at hF
 refine calls_mk Tryd.func86 rfl rfl rfl ?_
 refine wp_seq (wc_region ?_)
 refine wl_box (K := kBs) (x := a0) H rfl (slice_toV h0_) ?_
 intro b1 w4 H2
 refine wl_rn (rn_pure (.nilFunc) rfl) ?_
 refine wl_nil (then_n (wp_seq (wc_region ?_)))
 iterate 2 refine wl_rn (rn_pure (.func (.func 95) #[] #[(pt b1)]) rfl) ?_
 refine wl_nil (then_n ?_)
 refine wp_ret ?_
 have hF := Option.some.inj hF
 subst hF
 exact ret_mk rfl (RV.tmp rfl RV.nil) ⟨_, b1, GLe.refl _, rfl, H2⟩

structure RdOk_opts_Read (c : World) (l fn : Nat) (tm : Array Value) (asg bdy : Code) (D bo br0 br1 : Nat) : Prop where
 yt : ∀ {G : Ghost} {w : World} {σ : List Ent} {u : Value} {o : TOpt} {g : Option Nat} {A : Option Addr} {cp : Nat} {x : (List TOpt)} {y0 : (List TOpt)} {y1 : Int} {r : ((List TOpt) × (List TOpt) × Int)}, kTOpt.V G u o → St c G w (.ob l (LR true fn tm 9 10 asg bdy D) :: .box bo 27 (Kd.val.at_ (.slice A x.length cp)) :: .row kTOpt g A cp 60 x :: .box br0 27 ((Kd.slice kTOpt).at_ y0) :: .box br1 79 (kI.at_ y1) :: σ) → rd_opts_Read_t o x y0 y1 = some r →
  RoundIn Fence.wide 0 Tryd.prog l (LRl true fn tm 9 10 asg bdy D).fn (((LRl true fn tm 9 10 asg bdy D).params.zip #[u, .bool true]).foldl (fun t (x : Nat × Value) => t.setIfInBounds x.1 x.2) (LRl true fn tm 9 10 asg bdy D).tmps) (LRl true fn tm 9 10 asg bdy D).assign (LRl true fn tm 9 10 asg bdy D).body w (fun e w' => ∃ v, e = .returned v ∧ (v = .bool true ∧ ∃ (G' : Ghost) (g' : Option Nat) (A' : Option Addr) (cp' : Nat), GLe G G' ∧ St c G' w' (.ob l (LR true fn tm 9 10 asg bdy D) :: .box bo 27 (Kd.val.at_ (.slice A' r.1.length cp')) :: .row kTOpt g' A' cp' 60 r.1 :: .box br0 27 ((Kd.slice kTOpt).at_ r.2.1) :: .box br1 79 (kI.at_ r.2.2) :: σ)))
 yf : ∀ {G : Ghost} {w : World} {σ : List Ent} {u : Value} {o : TOpt} {g : Option Nat} {A : Option Addr} {cp : Nat} {x : (List TOpt)} {y0 : (List TOpt)} {y1 : Int} {r : ((List TOpt) × (List TOpt) × Int)}, kTOpt.V G u o → St c G w (.ob l (LR true fn tm 9 10 asg bdy D) :: .box bo 27 (Kd.val.at_ (.slice A x.length cp)) :: .row kTOpt g A cp 60 x :: .box br0 27 ((Kd.slice kTOpt).at_ y0) :: .box br1 79 (kI.at_ y1) :: σ) → rd_opts_Read_f o x y0 y1 = some r →
  RoundIn Fence.wide 0 Tryd.prog l (LRl true fn tm 9 10 asg bdy D).fn (((LRl true fn tm 9 10 asg bdy D).params.zip #[u, .bool false]).foldl (fun t (x : Nat × Value) => t.setIfInBounds x.1 x.2) (LRl true fn tm 9 10 asg bdy D).tmps) (LRl true fn tm 9 10 asg bdy D).assign (LRl true fn tm 9 10 asg bdy D).body w (fun e w' => ∃ v, e = .returned v ∧ (v = .bool false ∧ ∃ (G' : Ghost) (g' : Option Nat) (A' : Option Addr) (cp' : Nat), GLe G G' ∧ St c G' w' (.ob l (LR false fn tm 9 10 asg bdy D) :: .box bo 27 (Kd.val.at_ (.slice A' r.1.length cp')) :: .row kTOpt g' A' cp' 60 r.1 :: .box br0 27 ((Kd.slice kTOpt).at_ r.2.1) :: .box br1 79 (kI.at_ r.2.2) :: σ)))
end Go.Proofs.YtadlndnagfnlgaaDoor.W
