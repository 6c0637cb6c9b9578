/- Calls come to what the plain functions say: written by a program (gen.py). -/
import Derived.Test.YtadlndnagfnlgaaDoorG
import Derived.Test.YtadlndnagfnlgaaDoorF1
import Derived.Test.YtadlndnagfnlgaaDoorF3
set_option linter.unusedVariables false
set_option maxRecDepth 20000
namespace Go.Proofs.YtadlndnagfnlgaaDoor.W
open Go
set_option maxHeartbeats 4000000
attribute [local irreducible] wpList wpAny Code.wp wpListIn wpAnyIn Code.wpIn
theorem portreeveref12_Right_ok {c : World} (hc : Hc c) {G : Ghost} {w : World} {σ : List Ent} {a0 : TAuto} {v0_ : Value} (h0_ : kTAuto.V G v0_ a0) (H : St c G w (σ)) {r : Bool} (hF : portreeveref12_Right a0 = some r) :
  Calls Tryd.prog 28 ([v0_] : List Value).toArray w (Ends fun v w' => ∃ (G' : Ghost), GLe G G' ∧ tup [(.bool r)] = v ∧ St c G' w' (σ)) := by
 unfold portreeveref12_Right at hF
 refine calls_mk Tryd.func28 rfl rfl rfl ?_
 refine wp_seq (wc_region ?_)
 refine wl_box (K := kTAuto) (x := a0) H rfl h0_ ?_
 intro b1 w4 H2
 refine wl_rn (rn_pure (.bool false) rfl) ?_
 refine wl_nil (then_n ?_)
 refine wp_seq ?_
 refine wp_seq (join (fun a w => ∃ (T0 : Fr) (G1 : Ghost) (x8 : Bool), a = mk 45 (upds T0 [(1, (pt b1)), (21, (.bool x8))]) ∧ GLe G G1 ∧ St c G1 w ((.box b1 23 (kTAuto.at_ a0)) :: σ) ∧ portreeveref12_Right_j1 a0 x8 = some r) ?_ ?_)
 ·rintro a w ⟨T0, G11, x8, rfl, hG9, H10, hF⟩
  rcases bcases x8 with hb12 | hb12
  ·replace hF := ifT hF hb12
   refine wc_true (vb hb12) ?_
   refine wp_seq (wc_region ?_)
   refine wl_rn (rn_pure (.bool false) rfl) ?_
   refine wl_nil (then_n ?_)
   refine wp_ret ?_
   refine then_r ?_
   have hF := Option.some.inj hF
   subst hF
   exact ret_mk rfl (RV.tmp rfl RV.nil) ⟨_, hG9, rfl, (St.pk [] 1 H10 rfl (by decide))⟩
  ·replace hF := ifF hF hb12
   refine wc_false (vb hb12) ?_
   refine wp_skip ?_
   refine then_n ?_
   refine wp_seq (wc_region ?_)
   refine wl_rn (rn_field fo23_0 rfl) ?_
   refine wl_loadd H10 (i := 0) rfl lTAuto_State (dInt .i64) ty3 rfl ?_
   obtain ⟨r13, hr14, hF⟩ := bindS hF
   refine wl_call (vs := [(.int .i64 a0.State)]) en46 rfl (portreeveref11_Timed_ok hc H10 hr14) ?_
   rintro v19 w18 ⟨G15, hG16, rfl, H17⟩
   refine wl_rn (rn_pure (.bool r13) rfl) ?_
   refine wl_nil (then_n (wp_seq (wc_region ?_)))
   iterate 2 refine wl_rn (rn_pure (.bool r13) rfl) ?_
   rcases bcases r13 with hb20 | hb20
   ·replace hF := ifT hF hb20
    refine wl_yes rfl rfl rfl (vb hb20) ?_
    refine wl_rn (rn_field fo23_2 rfl) ?_
    refine wl_yes rfl rfl rfl (vb hb20) ?_
    refine wl_loadd H17 (i := 0) rfl lTAuto_Left (dInt .i64) ty3 rfl ?_
    refine wl_yes rfl rfl rfl (vb hb20) ?_
    refine wl_rn (rn_pure (.bool (decide (a0.Left ≥ 1))) rfl) ?_
    refine wl_rn (rn_pickT (.bool (decide (a0.Left ≥ 1))) (vb hb20) rfl) ?_
    refine wl_rn (rn_pure (.bool (decide (a0.Left ≥ 1))) rfl) ?_
    rcases bcases (decide (a0.Left ≥ 1)) with hb21 | hb21
    ·replace hF := ifT hF hb21
     refine wl_yes rfl rfl rfl (vb hb21) ?_
     refine wl_rn (rn_field fo23_2 rfl) ?_
     refine wl_yes rfl rfl rfl (vb hb21) ?_
     refine wl_loadd H17 (i := 0) rfl lTAuto_Left (dInt .i64) ty3 rfl ?_
     refine wl_yes rfl rfl rfl (vb hb21) ?_
     refine wl_rn (rn_pure (.bool (decide (a0.Left ≤ 3))) rfl) ?_
     refine wl_rn (rn_pickT (.bool (decide (a0.Left ≤ 3))) (vb hb21) rfl) ?_
     refine wl_rn (rn_pure (.bool (decide (a0.Left ≤ 3))) rfl) ?_
     rcases bcases (decide (a0.Left ≤ 3)) with hb22 | hb22
     ·replace hF := ifT hF hb22
      iterate 3 refine wl_no rfl rfl rfl (vb hb22) ?_
      iterate 3 refine wl_nou rfl rfl rfl rfl ?_
      refine wl_no rfl rfl rfl (vb hb22) ?_
      refine wl_rn (rn_pickT (.bool true) (vb hb22) rfl) ?_
      refine wl_rn (rn_pure (.bool true) rfl) ?_
      refine wl_nil (then_n ?_)
      refine wp_ret ?_
      have hF := Option.some.inj hF
      subst hF
      exact ret_mk rfl (RV.tmp rfl RV.nil) ⟨_, (hG9.trans hG16), rfl, (St.pk [] 1 H17 rfl (by decide))⟩
     ·replace hF := ifF hF hb22
      refine wl_yes rfl rfl rfl (vb hb22) ?_
      refine wl_rn (rn_pure (.bool r13) rfl) ?_
      refine wl_yes rfl rfl rfl (vb hb22) ?_
      refine wl_rn (rn_pure (.bool (!r13)) rfl) ?_
      refine wl_yes rfl rfl rfl (vb hb22) ?_
      refine wl_rn (rn_pure (.bool (!r13)) rfl) ?_
      rcases bcases (!r13) with hb23 | hb23
      ·replace hF := ifT hF hb23
       refine wl_yes rfl rfl rfl (vb hb23) ?_
       refine wl_rn (rn_field fo23_2 rfl) ?_
       refine wl_yes rfl rfl rfl (vb hb23) ?_
       refine wl_loadd H17 (i := 0) rfl lTAuto_Left (dInt .i64) ty3 rfl ?_
       refine wl_yes rfl rfl rfl (vb hb23) ?_
       refine wl_rn (rn_pure (.bool (a0.Left == 0)) rfl) ?_
       refine wl_yes rfl rfl rfl (vb hb22) ?_
       refine wl_rn (rn_pickT (.bool (a0.Left == 0)) (vb hb23) rfl) ?_
       refine wl_rn (rn_pickF (.bool (a0.Left == 0)) (vb hb22) rfl) ?_
       refine wl_rn (rn_pure (.bool (a0.Left == 0)) rfl) ?_
       refine wl_nil (then_n ?_)
       refine wp_ret ?_
       have hF := Option.some.inj hF
       subst hF
       exact ret_mk rfl (RV.tmp rfl RV.nil) ⟨_, (hG9.trans hG16), rfl, (St.pk [] 1 H17 rfl (by decide))⟩
      ·replace hF := ifF hF hb23
       iterate 3 refine wl_no rfl rfl rfl (vb hb23) ?_
       refine wl_yes rfl rfl rfl (vb hb22) ?_
       refine wl_rn (rn_pickF (.bool false) (vb hb23) rfl) ?_
       refine wl_rn (rn_pickF (.bool false) (vb hb22) rfl) ?_
       refine wl_rn (rn_pure (.bool false) rfl) ?_
       refine wl_nil (then_n ?_)
       refine wp_ret ?_
       have hF := Option.some.inj hF
       subst hF
       exact ret_mk rfl (RV.tmp rfl RV.nil) ⟨_, (hG9.trans hG16), rfl, (St.pk [] 1 H17 rfl (by decide))⟩
    ·replace hF := ifF hF hb21
     iterate 3 refine wl_no rfl rfl rfl (vb hb21) ?_
     refine wl_rn (rn_pickF (.bool false) (vb hb21) rfl) ?_
     refine wl_rn (rn_pure (.bool false) rfl) ?_
     refine wl_yes rfl rfl rfl rfl ?_
     refine wl_rn (rn_pure (.bool r13) rfl) ?_
     refine wl_yes rfl rfl rfl rfl ?_
     refine wl_rn (rn_pure (.bool (!r13)) rfl) ?_
     refine wl_yes rfl rfl rfl rfl ?_
     refine wl_rn (rn_pure (.bool (!r13)) rfl) ?_
     rcases bcases (!r13) with hb24 | hb24
     ·replace hF := ifT hF hb24
      refine wl_yes rfl rfl rfl (vb hb24) ?_
      refine wl_rn (rn_field fo23_2 rfl) ?_
      refine wl_yes rfl rfl rfl (vb hb24) ?_
      refine wl_loadd H17 (i := 0) rfl lTAuto_Left (dInt .i64) ty3 rfl ?_
      refine wl_yes rfl rfl rfl (vb hb24) ?_
      refine wl_rn (rn_pure (.bool (a0.Left == 0)) rfl) ?_
      refine wl_yes rfl rfl rfl rfl ?_
      refine wl_rn (rn_pickT (.bool (a0.Left == 0)) (vb hb24) rfl) ?_
      refine wl_rn (rn_pickF (.bool (a0.Left == 0)) rfl rfl) ?_
      refine wl_rn (rn_pure (.bool (a0.Left == 0)) rfl) ?_
      refine wl_nil (then_n ?_)
      refine wp_ret ?_
      have hF := Option.some.inj hF
      subst hF
      exact ret_mk rfl (RV.tmp rfl RV.nil) ⟨_, (hG9.trans hG16), rfl, (St.pk [] 1 H17 rfl (by decide))⟩
     ·replace hF := ifF hF hb24
      iterate 3 refine wl_no rfl rfl rfl (vb hb24) ?_
      refine wl_yes rfl rfl rfl rfl ?_
      refine wl_rn (rn_pickF (.bool false) (vb hb24) rfl) ?_
      refine wl_rn (rn_pickF (.bool false) rfl rfl) ?_
      refine wl_rn (rn_pure (.bool false) rfl) ?_
      refine wl_nil (then_n ?_)
      refine wp_ret ?_
      have hF := Option.some.inj hF
      subst hF
      exact ret_mk rfl (RV.tmp rfl RV.nil) ⟨_, (hG9.trans hG16), rfl, (St.pk [] 1 H17 rfl (by decide))⟩
   ·replace hF := ifF hF hb20
    iterate 3 refine wl_no rfl rfl rfl (vb hb20) ?_
    refine wl_rn (rn_pickF (.bool false) (vb hb20) rfl) ?_
    refine wl_rn (rn_pure (.bool false) rfl) ?_
    iterate 3 refine wl_no rfl rfl rfl rfl ?_
    refine wl_rn (rn_pickF (.bool false) rfl rfl) ?_
    refine wl_rn (rn_pure (.bool false) rfl) ?_
    refine wl_yes rfl rfl rfl rfl ?_
    refine wl_rn (rn_pure (.bool r13) rfl) ?_
    refine wl_yes rfl rfl rfl rfl ?_
    refine wl_rn (rn_pure (.bool (!r13)) rfl) ?_
    refine wl_yes rfl rfl rfl rfl ?_
    refine wl_rn (rn_pure (.bool (!r13)) rfl) ?_
    rcases bcases (!r13) with hb25 | hb25
    ·replace hF := ifT hF hb25
     refine wl_yes rfl rfl rfl (vb hb25) ?_
     refine wl_rn (rn_field fo23_2 rfl) ?_
     refine wl_yes rfl rfl rfl (vb hb25) ?_
     refine wl_loadd H17 (i := 0) rfl lTAuto_Left (dInt .i64) ty3 rfl ?_
     refine wl_yes rfl rfl rfl (vb hb25) ?_
     refine wl_rn (rn_pure (.bool (a0.Left == 0)) rfl) ?_
     refine wl_yes rfl rfl rfl rfl ?_
     refine wl_rn (rn_pickT (.bool (a0.Left == 0)) (vb hb25) rfl) ?_
     refine wl_rn (rn_pickF (.bool (a0.Left == 0)) rfl rfl) ?_
     refine wl_rn (rn_pure (.bool (a0.Left == 0)) rfl) ?_
     refine wl_nil (then_n ?_)
     refine wp_ret ?_
     have hF := Option.some.inj hF
     subst hF
     exact ret_mk rfl (RV.tmp rfl RV.nil) ⟨_, (hG9.trans hG16), rfl, (St.pk [] 1 H17 rfl (by decide))⟩
    ·replace hF := ifF hF hb25
     iterate 3 refine wl_no rfl rfl rfl (vb hb25) ?_
     refine wl_yes rfl rfl rfl rfl ?_
     refine wl_rn (rn_pickF (.bool false) (vb hb25) rfl) ?_
     refine wl_rn (rn_pickF (.bool false) rfl rfl) ?_
     refine wl_rn (rn_pure (.bool false) rfl) ?_
     refine wl_nil (then_n ?_)
     refine wp_ret ?_
     have hF := Option.some.inj hF
     subst hF
     exact ret_mk rfl (RV.tmp rfl RV.nil) ⟨_, (hG9.trans hG16), rfl, (St.pk [] 1 H17 rfl (by decide))⟩
 ·refine wc_region ?_
  refine wl_rn (rn_field fo23_0 rfl) ?_
  refine wl_loadd H2 (i := 0) rfl lTAuto_State (dInt .i64) ty3 rfl ?_
  iterate 2 refine wl_rn (rn_pure (.bool (decide (a0.State < 0))) rfl) ?_
  rcases bcases (decide (a0.State < 0)) with hb26 | hb26
  ·replace hF := ifT hF hb26
   iterate 3 refine wl_no rfl rfl rfl (vb hb26) ?_
   refine wl_rn (rn_pickT (.bool true) (vb hb26) rfl) ?_
   refine wl_rn (rn_pure (.bool true) rfl) ?_
   iterate 3 refine wl_no rfl rfl rfl rfl ?_
   refine wl_rn (rn_pickT (.bool true) rfl rfl) ?_
   refine wl_rn (rn_pure (.bool true) rfl) ?_
   iterate 3 refine wl_no rfl rfl rfl rfl ?_
   refine wl_rn (rn_pickT (.bool true) rfl rfl) ?_
   refine wl_nil (then_n ?_)
   exact ⟨_, _, true, frame_eq _ ⟨rfl, rfl, trivial⟩, GLe.refl _, H2, hF⟩
  ·replace hF := ifF hF hb26
   refine wl_yes rfl rfl rfl (vb hb26) ?_
   refine wl_rn (rn_field fo23_0 rfl) ?_
   refine wl_yes rfl rfl rfl (vb hb26) ?_
   refine wl_loadd H2 (i := 0) rfl lTAuto_State (dInt .i64) ty3 rfl ?_
   refine wl_yes rfl rfl rfl (vb hb26) ?_
   refine wl_rn (rn_pure (.bool (decide (a0.State > 9))) rfl) ?_
   refine wl_rn (rn_pickF (.bool (decide (a0.State > 9))) (vb hb26) rfl) ?_
   refine wl_rn (rn_pure (.bool (decide (a0.State > 9))) rfl) ?_
   rcases bcases (decide (a0.State > 9)) with hb27 | hb27
   ·replace hF := ifT hF hb27
    iterate 3 refine wl_no rfl rfl rfl (vb hb27) ?_
    refine wl_rn (rn_pickT (.bool true) (vb hb27) rfl) ?_
    refine wl_rn (rn_pure (.bool true) rfl) ?_
    iterate 3 refine wl_no rfl rfl rfl rfl ?_
    refine wl_rn (rn_pickT (.bool true) rfl rfl) ?_
    refine wl_nil (then_n ?_)
    exact ⟨_, _, true, frame_eq _ ⟨rfl, rfl, trivial⟩, GLe.refl _, H2, hF⟩
   ·replace hF := ifF hF hb27
    refine wl_yes rfl rfl rfl (vb hb27) ?_
    refine wl_rn (rn_field fo23_1 rfl) ?_
    refine wl_yes rfl rfl rfl (vb hb27) ?_
    refine wl_loadd H2 (i := 0) rfl lTAuto_Count (dInt .i64) ty3 rfl ?_
    refine wl_yes rfl rfl rfl (vb hb27) ?_
    refine wl_rn (rn_pure (.bool (decide (a0.Count < 0))) rfl) ?_
    refine wl_rn (rn_pickF (.bool (decide (a0.Count < 0))) (vb hb27) rfl) ?_
    refine wl_rn (rn_pure (.bool (decide (a0.Count < 0))) rfl) ?_
    rcases bcases (decide (a0.Count < 0)) with hb28 | hb28
    ·replace hF := ifT hF hb28
     iterate 3 refine wl_no rfl rfl rfl (vb hb28) ?_
     refine wl_rn (rn_pickT (.bool true) (vb hb28) rfl) ?_
     refine wl_nil (then_n ?_)
     exact ⟨_, _, true, frame_eq _ ⟨rfl, rfl, trivial⟩, GLe.refl _, H2, hF⟩
    ·replace hF := ifF hF hb28
     refine wl_yes rfl rfl rfl (vb hb28) ?_
     refine wl_rn (rn_field fo23_1 rfl) ?_
     refine wl_yes rfl rfl rfl (vb hb28) ?_
     refine wl_loadd H2 (i := 0) rfl lTAuto_Count (dInt .i64) ty3 rfl ?_
     refine wl_yes rfl rfl rfl (vb hb28) ?_
     refine wl_rn (rn_pure (.bool (decide (a0.Count > 5))) rfl) ?_
     refine wl_rn (rn_pickF (.bool (decide (a0.Count > 5))) (vb hb28) rfl) ?_
     refine wl_nil (then_n ?_)
     exact ⟨_, _, (decide (a0.Count > 5)), frame_eq _ ⟨rfl, rfl, trivial⟩, GLe.refl _, H2, hF⟩

theorem portreeveref10_Bytes_ok {c : World} (hc : Hc c) {G : Ghost} {w : World} {σ : List Ent} {a0 : (List TOpt)} {A0_ : Option Addr} {c0_ : Nat} (h0_ : SlR kTOpt G A0_ c0_ a0) (H : St c G w (σ)) {r : ((List Int) × Int)} (hF : portreeveref10_Bytes a0 = some r) :
  Calls Tryd.prog 29 ([(.slice A0_ a0.length c0_)] : List Value).toArray w (Ends fun v w' => ∃ (G' : Ghost) (A1' : Option Addr) (c2' : Nat), GLe G G' ∧ tup [(.slice A1' r.1.length c2'), (.int .i64 r.2)] = v ∧ St c G' w' (σ) ∧ SlR kB G' A1' c2' r.1) := by
 unfold portreeveref10_Bytes at hF
 refine calls_mk Tryd.func29 rfl rfl rfl ?_
 refine wp_seq (wc_region ?_)
 refine wl_rn (rn_pure (.slice none 0 0) rfl) ?_
 refine wl_rn (rn_pure (.int .i64 0) rfl) ?_
 refine wl_nil (then_n (wp_seq (wc_region ?_)))
 refine wl_rn (rn_pure (.slice none 0 0) rfl) ?_
 refine wl_nil (then_n ?_)
 refine wp_seq ?_
 refine wp_seq (wc_region ?_)
 refine wl_rn (rn_pure (.int .i64 0) rfl) ?_
 refine wl_nil (then_n ?_)
 refine wp_block ?_
 have H230 := H.nilrow kB none 5
 refine wp_loopX (fun (s : ((List Int) × Int)) a w => ∃ (T0 : Fr) (G1 : Ghost) (g89 : Option Nat) (A90 : Option Addr) (c91 : Nat), a = mk 46 (upds T0 [(0, (.slice A0_ a0.length c0_)), (4, (.slice A90 s.1.length c91)), (5, (.int .i64 s.2))]) ∧ GLe G G1 ∧ St c G1 w ((.row kB g89 A90 c91 5 s.1) :: σ)) hF ?_ ?_
 ·exact ⟨_, _, none, none, 0, frame_eq _ ⟨rfl, rfl, rfl, trivial⟩, GLe.refl _, H230⟩
 ·rintro ⟨x88, x93⟩ a w y96 ⟨T0, G97, g89, A90, c91, rfl, hG94, H95⟩ hF hy1
  refine wp_seq ?_
  refine wp_seq (wc_region ?_)
  refine wl_rn (rn_pure (.int .i64 x93) rfl) ?_
  refine wl_rn (rn_pure (.slice A0_ a0.length c0_) rfl) ?_
  refine wl_rn (rn_len sl27 rfl) ?_
  refine wl_rn (rn_pure (.bool (decide (x93 < (a0.length : Int)))) rfl) ?_
  refine wl_nil (then_n ?_)
  rcases bcases (decide (x93 < (a0.length : Int))) with hb98 | hb98
  ·replace hF := ifT hF hb98
   refine wc_true (vb hb98) ?_
   refine wp_skip ?_
   refine then_n ?_
   refine wp_seq ?_
   refine wp_block ?_
   refine wp_seq ?_
   refine wp_seq (wc_region ?_)
   refine wl_rn (rn_pure (.slice A0_ a0.length c0_) rfl) ?_
   refine wl_rn (rn_pure (.int .i64 x93) rfl) ?_
   obtain ⟨x99, hx100, hF⟩ := bindS hF
   refine wl_rnE (rn_index (h0_.mono hG94) sl27 ty60 rfl rfl hx100) ?_
   intro a101 hp102
   refine wl_rn (rn_fieldp fo60_1 rfl) ?_
   refine wl_loadp H95 (hp102.lens lTOpt_Data) ty30 rfl ?_
   intro v103 hv104
   obtain ⟨A105, c106, rfl, hs107⟩ := slice_V hv104
   refine wl_rn (rn_len sl30 rfl) ?_
   refine wl_rn (rn_pure (.bool (decide ((x99.Data.length : Int) > 253))) rfl) ?_
   refine wl_nil (then_n ?_)
   rcases bcases (decide ((x99.Data.length : Int) > 253)) with hb108 | hb108
   ·replace hF := ifT hF hb108
    refine wc_true (vb hb108) ?_
    refine wp_seq (wc_region ?_)
    refine wl_rn (rn_pure (.slice none 0 0) rfl) ?_
    refine wl_rn (rn_pure (.int .i64 1) rfl) ?_
    refine wl_nil (then_n ?_)
    refine wp_ret ?_
    refine then_r ?_
    refine blk_r ?_
    iterate 2 refine then_r ?_
    replace hF := exitS hF hy1
    refine blk_r ?_
    refine then_r ?_
    have hF := Option.some.inj hF
    subst hF
    exact ret_mk rfl (RV.tmp rfl (RV.tmp rfl RV.nil)) ⟨_, none, 0, hG94, rfl, (St.pk [] 1 H95 rfl (by decide)), (SlR.nil _ _)⟩
   ·replace hF := ifF hF hb108
    refine wc_false (vb hb108) ?_
    refine wp_skip ?_
    refine then_n ?_
    refine wp_seq ?_
    refine wc_anyS (f := 17) H95 mixed ?_
    intro w133 H134
    refine any_pf (by repeat (first | exact PF.base | apply PF.then_ | apply PF.blk)) ?_
    intro hPF hns
    obtain ⟨x135, hx136, hF⟩ := bindS hF
    obtain ⟨x139, hx140, hF⟩ := bindS hF
    obtain ⟨r152, hr153, hF⟩ := bindS hF
    refine any_memo (fuel := 3) (m := 16383) (fun a w => ∃ (T0 : Fr) (G1 : Ghost), a = mk 46 (upds T0 [(0, (.slice A0_ a0.length c0_)), (5, (.int .i64 x93)), (19, (.slice A90 x88.length c91)), (24, (.int .u8 x135.Typ)), (32, (.int .u8 (IntKind.u8.wrap ((IntKind.i64.wrap (2 + (x139.Data.length : Int)))))))]) ∧ GLe G97 G1 ∧ St c G1 w ((.row kB g89 A90 c91 5 x88) :: σ)) ?_ ?_
    ·rintro a w ⟨T0, G176, rfl, hG174, H175⟩
     refine any_alls [14] ⟨any_ops (m' := 32767) fun Q' hN => ?_, trivial⟩
     refine wl_lit (K := kB) (vs := [(.int .u8 x135.Typ), (.int .u8 (IntKind.u8.wrap ((IntKind.i64.wrap (2 + (x139.Data.length : Int))))))]) (xs := ([x135.Typ, (IntKind.u8.wrap ((IntKind.i64.wrap (2 + (x139.Data.length : Int)))))] : (List Int))) H175 sl30 el5 rfl ⟨((dInt .u8).toV _ _), ((dInt .u8).toV _ _), trivial⟩ rfl (by decide) ?_
     intro g186 w188 H187
     refine wl_nil (hN _ _ ?_)
     refine any_alls [15] ⟨any_ops (m' := 65535) fun Q' hN => ?_, trivial⟩
     refine wl_append H187 sl30 el5 (i := 1) rfl rfl rfl ((H187.okAt (i := 0) rfl).src) hr153 ?_
     intro g190 A191 c192 w193 H194
     refine wl_nil (hN _ _ ?_)
     refine any_rn (i := 16) (m' := 131071) rfl (rn_pure (.slice A191 r152.length c192) rfl) hPF hns ?_
     refine any_end ?_
     refine then_n ?_
     refine wc_region ?_
     refine wl_rn (rn_pure (.slice A191 r152.length c192) rfl) ?_
     refine wl_rn (rn_pure (.slice A0_ a0.length c0_) rfl) ?_
     refine wl_rn (rn_pure (.int .i64 x93) rfl) ?_
     obtain ⟨x195, hx196, hF⟩ := bindS hF
     refine wl_rnE (rn_index (h0_.mono (hG94.trans hG174)) sl27 ty60 rfl rfl hx196) ?_
     intro a197 hp198
     refine wl_rn (rn_fieldp fo60_1 rfl) ?_
     refine wl_loadp H194 (hp198.lens lTOpt_Data) ty30 rfl ?_
     intro v199 hv200
     obtain ⟨A201, c202, rfl, hs203⟩ := slice_V hv200
     obtain ⟨r204, hr205, hF⟩ := bindS hF
     refine wl_append H194 sl30 el5 (i := 1) rfl rfl rfl (hs203.src H194.ag) hr205 ?_
     intro g206 A207 c208 w209 H210
     refine wl_rn (rn_pure (.slice A207 r204.length c208) rfl) ?_
     refine wl_nil (blk_n ?_)
     refine then_n ?_
     refine wc_region ?_
     refine wl_rn (rn_pure (.int .i64 x93) rfl) ?_
     iterate 2 refine wl_rn (rn_pure (.int .i64 (IntKind.i64.wrap (x93 + 1))) rfl) ?_
     refine wl_nil (then_n ?_)
     exact ⟨_, (Option.some.inj hF).symm, _, _, g206, A207, c208, frame_eq _ ⟨rfl, rfl, rfl, trivial⟩, (hG94.trans hG174), (St.pk [1] 2 H210 rfl (by decide))⟩
    intro hM173
    refine any_rn (i := 0) (m' := 1) rfl (rn_pure (.slice A90 x88.length c91) rfl) hPF hns ?_
    refine any_rn (i := 1) (m' := 3) rfl (rn_pure (.slice A0_ a0.length c0_) rfl) hPF hns ?_
    refine any_rn (i := 2) (m' := 7) rfl (rn_pure (.int .i64 x93) rfl) hPF hns ?_
    refine any_rnE (i := 3) (m' := 15) rfl (rn_index (h0_.mono hG94) sl27 ty60 rfl rfl hx136) hPF hns ?_
    intro a211 hp212
    refine any_rn (i := 4) (m' := 31) rfl (rn_fieldp fo60_0 rfl) hPF hns ?_
    refine any_rn (i := 6) (m' := 95) rfl (rn_pure (.slice A0_ a0.length c0_) rfl) hPF hns ?_
    refine any_rn (i := 7) (m' := 223) rfl (rn_pure (.int .i64 x93) rfl) hPF hns ?_
    refine any_rnE (i := 8) (m' := 479) rfl (rn_index (h0_.mono hG94) sl27 ty60 rfl rfl hx140) hPF hns ?_
    intro a213 hp214
    refine any_rn (i := 9) (m' := 991) rfl (rn_fieldp fo60_1 rfl) hPF hns ?_
    refine any_alls [5, 10] ⟨?_, ?_, trivial⟩
    ·refine any_ops (m' := 1023) fun Q' hN => ?_
     refine wl_loadpd H134 (hp212.lens lTOpt_Typ) (dInt .u8) ty5 rfl ?_
     refine wl_nil (hN _ _ ?_)
     refine any_alls [10] ⟨any_ops (m' := 2047) fun Q' hN => ?_, trivial⟩
     refine wl_loadp H134 (hp214.lens lTOpt_Data) ty30 rfl ?_
     intro v215 hv216
     obtain ⟨A217, c218, rfl, hs219⟩ := slice_V hv216
     refine wl_nil (hN _ _ ?_)
     refine any_rn (i := 11) (m' := 4095) rfl (rn_len sl30 rfl) hPF hns ?_
     refine any_rn (i := 12) (m' := 8191) rfl (rn_pure (.int .i64 (IntKind.i64.wrap (2 + (x139.Data.length : Int)))) rfl) hPF hns ?_
     refine any_rn (i := 13) (m' := 16383) rfl (rn_convert un3 un5 rfl) hPF hns ?_
     exact hM173 _ _ ⟨_, _, frame_eq _ ⟨rfl, rfl, rfl, rfl, rfl, trivial⟩, GLe.refl _, H134⟩
    ·refine any_ops (m' := 2015) fun Q' hN => ?_
     refine wl_loadp H134 (hp214.lens lTOpt_Data) ty30 rfl ?_
     intro v220 hv221
     obtain ⟨A222, c223, rfl, hs224⟩ := slice_V hv221
     refine wl_nil (hN _ _ ?_)
     refine any_rn (i := 11) (m' := 4063) rfl (rn_len sl30 rfl) hPF hns ?_
     refine any_rn (i := 12) (m' := 8159) rfl (rn_pure (.int .i64 (IntKind.i64.wrap (2 + (x139.Data.length : Int)))) rfl) hPF hns ?_
     refine any_rn (i := 13) (m' := 16351) rfl (rn_convert un3 un5 rfl) hPF hns ?_
     refine any_alls [5] ⟨any_ops (m' := 16383) fun Q' hN => ?_, trivial⟩
     refine wl_loadpd H134 (hp212.lens lTOpt_Typ) (dInt .u8) ty5 rfl ?_
     refine wl_nil (hN _ _ ?_)
     exact hM173 _ _ ⟨_, _, frame_eq _ ⟨rfl, rfl, rfl, rfl, rfl, trivial⟩, GLe.refl _, H134⟩
  ·replace hF := ifF hF hb98
   refine wc_false (vb hb98) ?_
   refine wp_exit ?_
   iterate 2 refine then_e ?_
   replace hF := exitS hF hy1
   refine blk_e ?_
   refine then_n ?_
   refine wp_seq ?_
   refine wp_seq (wc_region ?_)
   refine wl_rn (rn_pure (.slice A90 x88.length c91) rfl) ?_
   refine wl_rn (rn_len sl30 rfl) ?_
   refine wl_rn (rn_pure (.bool (decide ((x88.length : Int) > 1496))) rfl) ?_
   refine wl_nil (then_n ?_)
   rcases bcases (decide ((x88.length : Int) > 1496)) with hb225 | hb225
   ·replace hF := ifT hF hb225
    refine wc_true (vb hb225) ?_
    refine wp_seq (wc_region ?_)
    refine wl_rn (rn_pure (.slice none 0 0) rfl) ?_
    refine wl_rn (rn_pure (.int .i64 1) rfl) ?_
    refine wl_nil (then_n ?_)
    refine wp_ret ?_
    refine then_r ?_
    have hF := Option.some.inj hF
    subst hF
    exact ret_mk rfl (RV.tmp rfl (RV.tmp rfl RV.nil)) ⟨_, none, 0, hG94, rfl, (St.pk [] 1 H95 rfl (by decide)), (SlR.nil _ _)⟩
   ·replace hF := ifF hF hb225
    refine wc_false (vb hb225) ?_
    refine wp_skip ?_
    refine then_n ?_
    refine wp_seq (wc_region ?_)
    iterate 2 refine wl_rn (rn_pure (.slice A90 x88.length c91) rfl) ?_
    refine wl_rn (rn_pure (.int .i64 0) rfl) ?_
    refine wl_nil (then_n ?_)
    refine wp_ret ?_
    obtain ⟨G226, hG227, H228, hs229⟩ := H95.stay (i := 0) rfl (H95.capA (i := 0) rfl)
    have hF := Option.some.inj hF
    subst hF
    exact ret_mk rfl (RV.tmp rfl (RV.tmp rfl RV.nil)) ⟨_, A90, c91, (hG94.trans hG227), rfl, H228, hs229⟩

theorem portreeveref14_Right_ok {c : World} (hc : Hc c) {G : Ghost} {w : World} {σ : List Ent} {a0 : TNego} {v0_ : Value} (h0_ : kTNego.V G v0_ a0) (H : St c G w (σ)) {r : Bool} (hF : portreeveref14_Right a0 = some r) :
  Calls Tryd.prog 10 ([v0_] : List Value).toArray w (Ends fun v w' => ∃ (G' : Ghost), GLe G G' ∧ tup [(.bool r)] = v ∧ St c G' w' (σ)) := by
 unfold portreeveref14_Right at hF
 refine calls_mk Tryd.func10 rfl rfl rfl ?_
 refine wp_seq (wc_region ?_)
 refine wl_box (K := kTNego) (x := a0) H rfl h0_ ?_
 intro b1 w4 H2
 refine wl_rn (rn_pure (.bool false) rfl) ?_
 refine wl_nil (then_n (wp_seq (wc_region ?_)))
 refine wl_rn (rn_field fo29_0 rfl) ?_
 refine wl_load H2 (i := 0) rfl lTNego_A ty23 rfl ?_
 intro v5 hv6
 obtain ⟨r7, hr8, hF⟩ := bindS hF
 refine wl_call (vs := [v5]) en28 rfl (portreeveref12_Right_ok hc hv6 H2 hr8) ?_
 rintro v13 w12 ⟨G9, hG10, rfl, H11⟩
 refine wl_rn (rn_pure (.bool r7) rfl) ?_
 refine wl_nil (then_n (wp_seq (wc_region ?_)))
 refine wl_rn (rn_field fo29_2 rfl) ?_
 refine wl_load H11 (i := 0) rfl lTNego_Ours ty27 rfl ?_
 intro v14 hv15
 obtain ⟨A16, c17, rfl, hs18⟩ := slice_V hv15
 obtain ⟨r19, hr20, hF⟩ := bindS hF
 refine wl_call (vs := [(.slice A16 a0.Ours.length c17)]) en29 rfl (portreeveref10_Bytes_ok hc hs18 H11 hr20) ?_
 rintro v25 w24 ⟨G21, A26, c27, hG22, rfl, H23, hs28⟩
 refine wl_rn (rn_pure (.tuple #[(.slice A26 r19.1.length c27), (.int .i64 r19.2)]) rfl) ?_
 refine wl_rn (rn_pure (.slice A26 r19.1.length c27) rfl) ?_
 refine wl_rn (rn_pure (.int .i64 r19.2) rfl) ?_
 refine wl_rn (rn_pure (.slice A26 r19.1.length c27) rfl) ?_
 refine wl_rn (rn_pure (.int .i64 r19.2) rfl) ?_
 refine wl_nil (then_n ?_)
 refine wp_seq ?_
 refine wp_seq (wc_region ?_)
 refine wl_rn (rn_pure (.int .i64 0) rfl) ?_
 refine wl_nil (then_n ?_)
 refine wp_block ?_
 refine wp_loopX (fun (s : Int) a w => ∃ (T0 : Fr) (G1 : Ghost), a = mk 55 (upds T0 [(1, (pt b1)), (3, (.bool r7)), (5, (.int .i64 r19.2)), (6, (.int .i64 s))]) ∧ GLe G21 G1 ∧ St c G1 w ((.box b1 29 (kTNego.at_ a0)) :: σ)) hF ?_ ?_
 ·exact ⟨_, _, frame_eq _ ⟨rfl, rfl, rfl, rfl, trivial⟩, GLe.refl _, H23⟩
 ·rintro x66 a w y69 ⟨T0, G70, rfl, hG67, H68⟩ hF hy29
  refine wp_seq ?_
  refine wp_seq (wc_region ?_)
  refine wl_rn (rn_pure (.int .i64 x66) rfl) ?_
  refine wl_rn (rn_field fo29_2 rfl) ?_
  refine wl_load H68 (i := 0) rfl lTNego_Ours ty27 rfl ?_
  intro v71 hv72
  obtain ⟨A73, c74, rfl, hs75⟩ := slice_V hv72
  refine wl_rn (rn_len sl27 rfl) ?_
  refine wl_rn (rn_pure (.bool (decide (x66 < (a0.Ours.length : Int)))) rfl) ?_
  refine wl_nil (then_n ?_)
  rcases bcases (decide (x66 < (a0.Ours.length : Int))) with hb76 | hb76
  ·replace hF := ifT hF hb76
   refine wc_true (vb hb76) ?_
   refine wp_skip ?_
   refine then_n ?_
   refine wp_seq ?_
   refine wp_block ?_
   refine wp_seq (join (fun a w => ∃ (T0 : Fr) (G1 : Ghost) (x101 : Bool), a = mk 55 (upds T0 [(1, (pt b1)), (3, (.bool r7)), (5, (.int .i64 r19.2)), (6, (.int .i64 x66)), (39, (.bool x101))]) ∧ GLe G70 G1 ∧ St c G1 w ((.box b1 29 (kTNego.at_ a0)) :: σ) ∧ portreeveref14_Right_j2 x66 x101 = some y69) ?_ ?_)
   ·rintro a w ⟨T0, G104, x101, rfl, hG102, H103, hF⟩
    rcases bcases x101 with hb105 | hb105
    ·replace hF := ifT hF hb105
     refine wc_true (vb hb105) ?_
     refine wp_seq (wc_region ?_)
     refine wl_rn (rn_pure (.bool false) rfl) ?_
     refine wl_nil (then_n ?_)
     refine wp_ret ?_
     refine blk_r ?_
     iterate 2 refine then_r ?_
     replace hF := exitS hF hy29
     refine blk_r ?_
     refine then_r ?_
     have hF := Option.some.inj hF
     subst hF
     exact ret_mk rfl (RV.tmp rfl RV.nil) ⟨_, (((hG10.trans hG22).trans hG67).trans hG102), rfl, (St.pk [] 1 H103 rfl (by decide))⟩
    ·replace hF := ifF hF hb105
     refine wc_false (vb hb105) ?_
     refine wp_skip ?_
     refine blk_n ?_
     refine then_n ?_
     refine wc_region ?_
     refine wl_rn (rn_pure (.int .i64 x66) rfl) ?_
     iterate 2 refine wl_rn (rn_pure (.int .i64 (IntKind.i64.wrap (x66 + 1))) rfl) ?_
     refine wl_nil (then_n ?_)
     exact ⟨_, (Option.some.inj hF).symm, _, _, frame_eq _ ⟨rfl, rfl, rfl, rfl, trivial⟩, (hG67.trans hG102), H103⟩
   ·refine wc_region ?_
    refine wl_rn (rn_field fo29_2 rfl) ?_
    refine wl_load H68 (i := 0) rfl lTNego_Ours ty27 rfl ?_
    intro v106 hv107
    obtain ⟨A108, c109, rfl, hs110⟩ := slice_V hv107
    refine wl_rn (rn_pure (.int .i64 x66) rfl) ?_
    obtain ⟨x111, hx112, hF⟩ := bindS hF
    refine wl_rnE (rn_index hs110 sl27 ty60 rfl rfl hx112) ?_
    intro a113 hp114
    refine wl_rn (rn_fieldp fo60_0 rfl) ?_
    refine wl_loadpd H68 (hp114.lens lTOpt_Typ) (dInt .u8) ty5 rfl ?_
    iterate 2 refine wl_rn (rn_pure (.bool (x111.Typ == 5)) rfl) ?_
    rcases bcases (x111.Typ == 5) with hb115 | hb115
    ·replace hF := ifT hF hb115
     refine wl_yes rfl rfl rfl (vb hb115) ?_
     refine wl_rn (rn_field fo29_2 rfl) ?_
     refine wl_yes rfl rfl rfl (vb hb115) ?_
     refine wl_load H68 (i := 0) rfl lTNego_Ours ty27 rfl ?_
     intro v116 hv117
     obtain ⟨A118, c119, rfl, hs120⟩ := slice_V hv117
     refine wl_yes rfl rfl rfl (vb hb115) ?_
     refine wl_rn (rn_pure (.int .i64 x66) rfl) ?_
     refine wl_yes rfl rfl rfl (vb hb115) ?_
     obtain ⟨x121, hx122, hF⟩ := bindS hF
     refine wl_rnE (rn_index hs120 sl27 ty60 rfl rfl hx122) ?_
     intro a123 hp124
     refine wl_yes rfl rfl rfl (vb hb115) ?_
     refine wl_rn (rn_fieldp fo60_1 rfl) ?_
     refine wl_yes rfl rfl rfl (vb hb115) ?_
     refine wl_loadp H68 (hp124.lens lTOpt_Data) ty30 rfl ?_
     intro v125 hv126
     obtain ⟨A127, c128, rfl, hs129⟩ := slice_V hv126
     refine wl_yes rfl rfl rfl (vb hb115) ?_
     refine wl_rn (rn_len sl30 rfl) ?_
     refine wl_yes rfl rfl rfl (vb hb115) ?_
     refine wl_rn (rn_pure (.bool ((x121.Data.length : Int) != 4)) rfl) ?_
     refine wl_rn (rn_pickT (.bool ((x121.Data.length : Int) != 4)) (vb hb115) rfl) ?_
     refine wl_nil (then_n ?_)
     exact ⟨_, _, ((x121.Data.length : Int) != 4), frame_eq _ ⟨rfl, rfl, rfl, rfl, rfl, trivial⟩, GLe.refl _, H68, hF⟩
    ·replace hF := ifF hF hb115
     iterate 8 refine wl_no rfl rfl rfl (vb hb115) ?_
     refine wl_rn (rn_pickF (.bool false) (vb hb115) rfl) ?_
     refine wl_nil (then_n ?_)
     exact ⟨_, _, false, frame_eq _ ⟨rfl, rfl, rfl, rfl, rfl, trivial⟩, GLe.refl _, H68, hF⟩
  ·replace hF := ifF hF hb76
   refine wc_false (vb hb76) ?_
   refine wp_exit ?_
   iterate 2 refine then_e ?_
   replace hF := exitS hF hy29
   refine blk_e ?_
   refine then_n ?_
   refine wp_seq (wc_region ?_)
   iterate 2 refine wl_rn (rn_pure (.bool r7) rfl) ?_
   rcases bcases r7 with hb130 | hb130
   ·replace hF := ifT hF hb130
    refine wl_yes rfl rfl rfl (vb hb130) ?_
    refine wl_rn (rn_field fo29_3 rfl) ?_
    refine wl_yes rfl rfl rfl (vb hb130) ?_
    refine wl_loadd H68 (i := 0) rfl lTNego_Naks (dInt .i64) ty3 rfl ?_
    refine wl_yes rfl rfl rfl (vb hb130) ?_
    refine wl_rn (rn_pure (.bool (decide (a0.Naks ≥ 0))) rfl) ?_
    refine wl_rn (rn_pickT (.bool (decide (a0.Naks ≥ 0))) (vb hb130) rfl) ?_
    refine wl_rn (rn_pure (.bool (decide (a0.Naks ≥ 0))) rfl) ?_
    rcases bcases (decide (a0.Naks ≥ 0)) with hb131 | hb131
    ·replace hF := ifT hF hb131
     refine wl_yes rfl rfl rfl (vb hb131) ?_
     refine wl_rn (rn_field fo29_3 rfl) ?_
     refine wl_yes rfl rfl rfl (vb hb131) ?_
     refine wl_loadd H68 (i := 0) rfl lTNego_Naks (dInt .i64) ty3 rfl ?_
     refine wl_yes rfl rfl rfl (vb hb131) ?_
     refine wl_rn (rn_pure (.bool (decide (a0.Naks ≤ 3))) rfl) ?_
     refine wl_rn (rn_pickT (.bool (decide (a0.Naks ≤ 3))) (vb hb131) rfl) ?_
     refine wl_rn (rn_pure (.bool (decide (a0.Naks ≤ 3))) rfl) ?_
     rcases bcases (decide (a0.Naks ≤ 3)) with hb132 | hb132
     ·replace hF := ifT hF hb132
      refine wl_yes rfl rfl rfl (vb hb132) ?_
      refine wl_rn (rn_pure (.int .i64 r19.2) rfl) ?_
      refine wl_yes rfl rfl rfl (vb hb132) ?_
      refine wl_rn (rn_pure (.bool (r19.2 == 0)) rfl) ?_
      refine wl_rn (rn_pickT (.bool (r19.2 == 0)) (vb hb132) rfl) ?_
      refine wl_rn (rn_pure (.bool (r19.2 == 0)) rfl) ?_
      refine wl_nil (then_n ?_)
      refine wp_ret ?_
      have hF := Option.some.inj hF
      subst hF
      exact ret_mk rfl (RV.tmp rfl RV.nil) ⟨_, ((hG10.trans hG22).trans hG67), rfl, (St.pk [] 1 H68 rfl (by decide))⟩
     ·replace hF := ifF hF hb132
      iterate 2 refine wl_no rfl rfl rfl (vb hb132) ?_
      refine wl_rn (rn_pickF (.bool false) (vb hb132) rfl) ?_
      refine wl_rn (rn_pure (.bool false) rfl) ?_
      refine wl_nil (then_n ?_)
      refine wp_ret ?_
      have hF := Option.some.inj hF
      subst hF
      exact ret_mk rfl (RV.tmp rfl RV.nil) ⟨_, ((hG10.trans hG22).trans hG67), rfl, (St.pk [] 1 H68 rfl (by decide))⟩
    ·replace hF := ifF hF hb131
     iterate 3 refine wl_no rfl rfl rfl (vb hb131) ?_
     refine wl_rn (rn_pickF (.bool false) (vb hb131) rfl) ?_
     refine wl_rn (rn_pure (.bool false) rfl) ?_
     iterate 2 refine wl_no rfl rfl rfl rfl ?_
     refine wl_rn (rn_pickF (.bool false) rfl rfl) ?_
     refine wl_rn (rn_pure (.bool false) rfl) ?_
     refine wl_nil (then_n ?_)
     refine wp_ret ?_
     have hF := Option.some.inj hF
     subst hF
     exact ret_mk rfl (RV.tmp rfl RV.nil) ⟨_, ((hG10.trans hG22).trans hG67), rfl, (St.pk [] 1 H68 rfl (by decide))⟩
   ·replace hF := ifF hF hb130
    iterate 3 refine wl_no rfl rfl rfl (vb hb130) ?_
    refine wl_rn (rn_pickF (.bool false) (vb hb130) rfl) ?_
    refine wl_rn (rn_pure (.bool false) rfl) ?_
    iterate 3 refine wl_no rfl rfl rfl rfl ?_
    refine wl_rn (rn_pickF (.bool false) rfl rfl) ?_
    refine wl_rn (rn_pure (.bool false) rfl) ?_
    iterate 2 refine wl_no rfl rfl rfl rfl ?_
    refine wl_rn (rn_pickF (.bool false) rfl rfl) ?_
    refine wl_rn (rn_pure (.bool false) rfl) ?_
    refine wl_nil (then_n ?_)
    refine wp_ret ?_
    have hF := Option.some.inj hF
    subst hF
    exact ret_mk rfl (RV.tmp rfl RV.nil) ⟨_, ((hG10.trans hG22).trans hG67), rfl, (St.pk [] 1 H68 rfl (by decide))⟩

theorem portreevelaw14_up2_ok {c : World} (hc : Hc c) {G : Ghost} {w : World} {σ : List Ent} {a0 : Bool} {a1 : TNego} {v1_ : Value} {a2 : (List Int)} {A2_ : Option Addr} {c2_ : Nat} (h1_ : kTNego.V G v1_ a1) (h2_ : SlR kI G A2_ c2_ a2) (H : St c G w (σ)) {r : Bool} (hF : portreevelaw14_up2 a0 a1 a2 = some r) :
  Calls Tryd.prog 14 ([(.bool a0), v1_, (.slice A2_ a2.length c2_)] : List Value).toArray w (Ends fun v w' => ∃ (G' : Ghost), GLe G G' ∧ tup [(.bool r)] = v ∧ St c G' w' (σ)) := by
 unfold portreevelaw14_up2 at hF
 refine calls_mk Tryd.func14 rfl rfl rfl ?_
 refine wp_seq (wc_region ?_)
 refine wl_box (K := kTNego) (x := a1) H rfl h1_ ?_
 intro b1 w4 H2
 refine wl_rn (rn_pure (.bool false) rfl) ?_
 refine wl_nil (then_n (wp_seq (wc_region ?_)))
 refine wl_rn (rn_pure (.bool false) rfl) ?_
 refine wl_nil (then_n (wp_seq (wc_region ?_)))
 refine wl_rn (rn_pure (.bool false) rfl) ?_
 refine wl_nil (then_n ?_)
 refine wp_seq ?_
 refine wp_seq (wc_region ?_)
 refine wl_rn (rn_pure (.int .i64 0) rfl) ?_
 refine wl_nil (then_n ?_)
 refine wp_block ?_
 refine wp_loopX (fun (s : (Bool × Bool × Int)) a w => ∃ (T0 : Fr) (G1 : Ghost), a = mk 53 (upds T0 [(0, (.bool a0)), (2, (.slice A2_ a2.length c2_)), (4, (pt b1)), (7, (.bool s.1)), (8, (.bool s.2.1)), (9, (.int .i64 s.2.2))]) ∧ GLe G G1 ∧ St c G1 w ((.box b1 29 (kTNego.at_ a1)) :: σ)) hF ?_ ?_
 ·exact ⟨_, _, frame_eq _ ⟨rfl, rfl, rfl, rfl, rfl, rfl, trivial⟩, GLe.refl _, H2⟩
 ·rintro ⟨x28, x29, x30⟩ a w y33 ⟨T0, G34, rfl, hG31, H32⟩ hF hy5
  refine wp_seq ?_
  refine wp_seq (wc_region ?_)
  refine wl_rn (rn_pure (.int .i64 x30) rfl) ?_
  refine wl_rn (rn_pure (.slice A2_ a2.length c2_) rfl) ?_
  refine wl_rn (rn_len sl36 rfl) ?_
  refine wl_rn (rn_pure (.bool (decide (x30 < (a2.length : Int)))) rfl) ?_
  refine wl_nil (then_n ?_)
  rcases bcases (decide (x30 < (a2.length : Int))) with hb35 | hb35
  ·replace hF := ifT hF hb35
   refine wc_true (vb hb35) ?_
   refine wp_skip ?_
   refine then_n ?_
   refine wp_seq (join (fun a w => ∃ (T0 : Fr) (G1 : Ghost) (x47 : Bool) (x48 : Bool), a = mk 53 (upds T0 [(0, (.bool a0)), (2, (.slice A2_ a2.length c2_)), (4, (pt b1)), (7, (.bool x47)), (8, (.bool x48)), (9, (.int .i64 x30))]) ∧ GLe G34 G1 ∧ St c G1 w ((.box b1 29 (kTNego.at_ a1)) :: σ) ∧ portreevelaw14_up2_j2 x30 x47 x48 = some y33) ?_ ?_)
   ·rintro a w ⟨T0, G51, x47, x48, rfl, hG49, H50, hF⟩
    refine wc_region ?_
    refine wl_rn (rn_pure (.int .i64 x30) rfl) ?_
    iterate 2 refine wl_rn (rn_pure (.int .i64 (IntKind.i64.wrap (x30 + 1))) rfl) ?_
    refine wl_nil (then_n ?_)
    exact ⟨_, (Option.some.inj hF).symm, _, _, frame_eq _ ⟨rfl, rfl, rfl, rfl, rfl, rfl, trivial⟩, (hG31.trans hG49), H50⟩
   ·refine wp_block ?_
    refine wp_seq (join (fun a w => ∃ (T0 : Fr) (G1 : Ghost) (x57 : Bool), a = mk 53 (upds T0 [(0, (.bool a0)), (2, (.slice A2_ a2.length c2_)), (4, (pt b1)), (7, (.bool x57)), (8, (.bool x29)), (9, (.int .i64 x30))]) ∧ GLe G34 G1 ∧ St c G1 w ((.box b1 29 (kTNego.at_ a1)) :: σ) ∧ portreevelaw14_up2_j3 a2 x29 x30 x57 = some y33) ?_ ?_)
    ·rintro a w ⟨T0, G60, x57, rfl, hG58, H59, hF⟩
     refine wc_region ?_
     iterate 2 refine wl_rn (rn_pure (.bool x29) rfl) ?_
     rcases bcases x29 with hb61 | hb61
     ·replace hF := ifT hF hb61
      iterate 5 refine wl_no rfl rfl rfl (vb hb61) ?_
      refine wl_rn (rn_pickT (.bool true) (vb hb61) rfl) ?_
      refine wl_rn (rn_pure (.bool true) rfl) ?_
      refine wl_nil (blk_n ?_)
      refine then_n ?_
      exact ⟨_, _, x57, true, frame_eq _ ⟨rfl, rfl, rfl, rfl, rfl, rfl, trivial⟩, hG58, H59, hF⟩
     ·replace hF := ifF hF hb61
      refine wl_yes rfl rfl rfl (vb hb61) ?_
      refine wl_rn (rn_pure (.slice A2_ a2.length c2_) rfl) ?_
      refine wl_yes rfl rfl rfl (vb hb61) ?_
      refine wl_rn (rn_pure (.int .i64 x30) rfl) ?_
      refine wl_yes rfl rfl rfl (vb hb61) ?_
      obtain ⟨x62, hx63, hF⟩ := bindS hF
      refine wl_rnE (rn_index (h2_.mono (hG31.trans hG58)) sl36 ty3 rfl rfl hx63) ?_
      intro a64 hp65
      refine wl_yes rfl rfl rfl (vb hb61) ?_
      refine wl_loadpd H59 hp65 (dInt .i64) ty3 rfl ?_
      refine wl_yes rfl rfl rfl (vb hb61) ?_
      refine wl_rn (rn_pure (.bool (x62 == 2)) rfl) ?_
      refine wl_rn (rn_pickF (.bool (x62 == 2)) (vb hb61) rfl) ?_
      refine wl_rn (rn_pure (.bool (x62 == 2)) rfl) ?_
      refine wl_nil (blk_n ?_)
      refine then_n ?_
      exact ⟨_, _, x57, (x62 == 2), frame_eq _ ⟨rfl, rfl, rfl, rfl, rfl, rfl, trivial⟩, hG58, H59, hF⟩
    ·refine wc_region ?_
     iterate 2 refine wl_rn (rn_pure (.bool x28) rfl) ?_
     rcases bcases x28 with hb66 | hb66
     ·replace hF := ifT hF hb66
      iterate 5 refine wl_no rfl rfl rfl (vb hb66) ?_
      refine wl_rn (rn_pickT (.bool true) (vb hb66) rfl) ?_
      refine wl_rn (rn_pure (.bool true) rfl) ?_
      refine wl_nil (then_n ?_)
      exact ⟨_, _, true, frame_eq _ ⟨rfl, rfl, rfl, rfl, rfl, rfl, trivial⟩, GLe.refl _, H32, hF⟩
     ·replace hF := ifF hF hb66
      refine wl_yes rfl rfl rfl (vb hb66) ?_
      refine wl_rn (rn_pure (.slice A2_ a2.length c2_) rfl) ?_
      refine wl_yes rfl rfl rfl (vb hb66) ?_
      refine wl_rn (rn_pure (.int .i64 x30) rfl) ?_
      refine wl_yes rfl rfl rfl (vb hb66) ?_
      obtain ⟨x67, hx68, hF⟩ := bindS hF
      refine wl_rnE (rn_index (h2_.mono hG31) sl36 ty3 rfl rfl hx68) ?_
      intro a69 hp70
      refine wl_yes rfl rfl rfl (vb hb66) ?_
      refine wl_loadpd H32 hp70 (dInt .i64) ty3 rfl ?_
      refine wl_yes rfl rfl rfl (vb hb66) ?_
      refine wl_rn (rn_pure (.bool (x67 == 1)) rfl) ?_
      refine wl_rn (rn_pickF (.bool (x67 == 1)) (vb hb66) rfl) ?_
      refine wl_rn (rn_pure (.bool (x67 == 1)) rfl) ?_
      refine wl_nil (then_n ?_)
      exact ⟨_, _, (x67 == 1), frame_eq _ ⟨rfl, rfl, rfl, rfl, rfl, rfl, trivial⟩, GLe.refl _, H32, hF⟩
  ·replace hF := ifF hF hb35
   refine wc_false (vb hb35) ?_
   refine wp_exit ?_
   iterate 2 refine then_e ?_
   replace hF := exitS hF hy5
   refine blk_e ?_
   refine then_n ?_
   refine wp_seq (wc_region ?_)
   refine wl_rn (rn_field fo29_0 rfl) ?_
   refine wl_rn (rn_field fo23_0 rfl) ?_
   refine wl_loadd H32 (i := 0) rfl (Lens.then lTNego_A lTAuto_State) (dInt .i64) ty3 rfl ?_
   iterate 2 refine wl_rn (rn_pure (.bool (a1.A.State == 9)) rfl) ?_
   refine wl_nil (then_n (wp_seq (wc_region ?_)))
   refine wl_rn (rn_pure (.bool x28) rfl) ?_
   iterate 2 refine wl_rn (rn_pure (.bool (a1.A.State == 9)) rfl) ?_
   rcases bcases (a1.A.State == 9) with hb71 | hb71
   ·replace hF := ifT hF hb71
    refine wl_yes rfl rfl rfl (vb hb71) ?_
    refine wl_rn (rn_pure (.bool a0) rfl) ?_
    refine wl_yes rfl rfl rfl (vb hb71) ?_
    refine wl_rn (rn_pure (.bool (!a0)) rfl) ?_
    refine wl_rn (rn_pickT (.bool (!a0)) (vb hb71) rfl) ?_
    refine wl_rn (rn_eqlB un4 rfl rfl) ?_
    refine wl_rn (rn_pure (.bool (eqB x28 (!a0))) rfl) ?_
    rcases bcases (eqB x28 (!a0)) with hb72 | hb72
    ·replace hF := ifT hF hb72
     refine wl_yes rfl rfl rfl (vb hb72) ?_
     refine wl_rn (rn_pure (.bool x29) rfl) ?_
     refine wl_yes rfl rfl rfl (vb hb72) ?_
     refine wl_rn (rn_pure (.bool a0) rfl) ?_
     refine wl_yes rfl rfl rfl (vb hb72) ?_
     refine wl_rn (rn_pure (.bool a0) rfl) ?_
     rcases bcases a0 with hb73 | hb73
     ·replace hF := ifT hF hb73
      refine wl_yes rfl rfl rfl (vb hb73) ?_
      refine wl_rn (rn_pure (.bool (a1.A.State == 9)) rfl) ?_
      refine wl_yes rfl rfl rfl (vb hb73) ?_
      refine wl_rn (rn_pure (.bool (!(a1.A.State == 9))) rfl) ?_
      refine wl_yes rfl rfl rfl (vb hb72) ?_
      refine wl_rn (rn_pickT (.bool (!(a1.A.State == 9))) (vb hb73) rfl) ?_
      refine wl_yes rfl rfl rfl (vb hb72) ?_
      refine wl_rn (rn_eqlB un4 rfl rfl) ?_
      refine wl_rn (rn_pickT (.bool (eqB x29 (!(a1.A.State == 9)))) (vb hb72) rfl) ?_
      refine wl_rn (rn_pure (.bool (eqB x29 (!(a1.A.State == 9)))) rfl) ?_
      refine wl_nil (then_n ?_)
      refine wp_ret ?_
      have hF := Option.some.inj hF
      subst hF
      exact ret_mk rfl (RV.tmp rfl RV.nil) ⟨_, hG31, rfl, (St.pk [] 1 H32 rfl (by decide))⟩
     ·replace hF := ifF hF hb73
      iterate 2 refine wl_no rfl rfl rfl (vb hb73) ?_
      refine wl_yes rfl rfl rfl (vb hb72) ?_
      refine wl_rn (rn_pickF (.bool false) (vb hb73) rfl) ?_
      refine wl_yes rfl rfl rfl (vb hb72) ?_
      refine wl_rn (rn_eqlB un4 rfl rfl) ?_
      refine wl_rn (rn_pickT (.bool (eqB x29 false)) (vb hb72) rfl) ?_
      refine wl_rn (rn_pure (.bool (eqB x29 false)) rfl) ?_
      refine wl_nil (then_n ?_)
      refine wp_ret ?_
      have hF := Option.some.inj hF
      subst hF
      exact ret_mk rfl (RV.tmp rfl RV.nil) ⟨_, hG31, rfl, (St.pk [] 1 H32 rfl (by decide))⟩
    ·replace hF := ifF hF hb72
     iterate 3 refine wl_no rfl rfl rfl (vb hb72) ?_
     iterate 2 refine wl_nou rfl rfl rfl rfl ?_
     iterate 2 refine wl_no rfl rfl rfl (vb hb72) ?_
     refine wl_rn (rn_pickF (.bool false) (vb hb72) rfl) ?_
     refine wl_rn (rn_pure (.bool false) rfl) ?_
     refine wl_nil (then_n ?_)
     refine wp_ret ?_
     have hF := Option.some.inj hF
     subst hF
     exact ret_mk rfl (RV.tmp rfl RV.nil) ⟨_, hG31, rfl, (St.pk [] 1 H32 rfl (by decide))⟩
   ·replace hF := ifF hF hb71
    iterate 2 refine wl_no rfl rfl rfl (vb hb71) ?_
    refine wl_rn (rn_pickF (.bool false) (vb hb71) rfl) ?_
    refine wl_rn (rn_eqlB un4 rfl rfl) ?_
    refine wl_rn (rn_pure (.bool (eqB x28 false)) rfl) ?_
    rcases bcases (eqB x28 false) with hb74 | hb74
    ·replace hF := ifT hF hb74
     refine wl_yes rfl rfl rfl (vb hb74) ?_
     refine wl_rn (rn_pure (.bool x29) rfl) ?_
     refine wl_yes rfl rfl rfl (vb hb74) ?_
     refine wl_rn (rn_pure (.bool a0) rfl) ?_
     refine wl_yes rfl rfl rfl (vb hb74) ?_
     refine wl_rn (rn_pure (.bool a0) rfl) ?_
     rcases bcases a0 with hb75 | hb75
     ·replace hF := ifT hF hb75
      refine wl_yes rfl rfl rfl (vb hb75) ?_
      refine wl_rn (rn_pure (.bool (a1.A.State == 9)) rfl) ?_
      refine wl_yes rfl rfl rfl (vb hb75) ?_
      refine wl_rn (rn_pure (.bool (!(a1.A.State == 9))) rfl) ?_
      refine wl_yes rfl rfl rfl (vb hb74) ?_
      refine wl_rn (rn_pickT (.bool (!(a1.A.State == 9))) (vb hb75) rfl) ?_
      refine wl_yes rfl rfl rfl (vb hb74) ?_
      refine wl_rn (rn_eqlB un4 rfl rfl) ?_
      refine wl_rn (rn_pickT (.bool (eqB x29 (!(a1.A.State == 9)))) (vb hb74) rfl) ?_
      refine wl_rn (rn_pure (.bool (eqB x29 (!(a1.A.State == 9)))) rfl) ?_
      refine wl_nil (then_n ?_)
      refine wp_ret ?_
      have hF := Option.some.inj hF
      subst hF
      exact ret_mk rfl (RV.tmp rfl RV.nil) ⟨_, hG31, rfl, (St.pk [] 1 H32 rfl (by decide))⟩
     ·replace hF := ifF hF hb75
      iterate 2 refine wl_no rfl rfl rfl (vb hb75) ?_
      refine wl_yes rfl rfl rfl (vb hb74) ?_
      refine wl_rn (rn_pickF (.bool false) (vb hb75) rfl) ?_
      refine wl_yes rfl rfl rfl (vb hb74) ?_
      refine wl_rn (rn_eqlB un4 rfl rfl) ?_
      refine wl_rn (rn_pickT (.bool (eqB x29 false)) (vb hb74) rfl) ?_
      refine wl_rn (rn_pure (.bool (eqB x29 false)) rfl) ?_
      refine wl_nil (then_n ?_)
      refine wp_ret ?_
      have hF := Option.some.inj hF
      subst hF
      exact ret_mk rfl (RV.tmp rfl RV.nil) ⟨_, hG31, rfl, (St.pk [] 1 H32 rfl (by decide))⟩
    ·replace hF := ifF hF hb74
     iterate 3 refine wl_no rfl rfl rfl (vb hb74) ?_
     iterate 2 refine wl_nou rfl rfl rfl rfl ?_
     iterate 2 refine wl_no rfl rfl rfl (vb hb74) ?_
     refine wl_rn (rn_pickF (.bool false) (vb hb74) rfl) ?_
     refine wl_rn (rn_pure (.bool false) rfl) ?_
     refine wl_nil (then_n ?_)
     refine wp_ret ?_
     have hF := Option.some.inj hF
     subst hF
     exact ret_mk rfl (RV.tmp rfl RV.nil) ⟨_, hG31, rfl, (St.pk [] 1 H32 rfl (by decide))⟩

theorem portreevelaw14_NegoRight_ok {c : World} (hc : Hc c) {G : Ghost} {w : World} {σ : List Ent} {a0 : TNego} {v0_ : Value} {a1 : Int} {a2 : TPkt} {v2_ : Value} (h0_ : kTNego.V G v0_ a0) (h2_ : kTPkt.V G v2_ a2) (H : St c G w (σ)) {r : Bool} (hF : portreevelaw14_NegoRight a0 a1 a2 = some r) :
  Calls Tryd.prog 3 ([v0_, (.int .i64 a1), v2_] : List Value).toArray w (Ends fun v w' => ∃ (G' : Ghost), GLe G G' ∧ tup [(.bool r)] = v ∧ St c G' w' (σ)) := by
 unfold portreevelaw14_NegoRight at hF
 refine calls_mk Tryd.func3 rfl rfl rfl ?_
 refine wp_seq (wc_region ?_)
 refine wl_box (K := kTNego) (x := a0) H rfl h0_ ?_
 intro b1 w4 H2
 refine wl_box (K := kTPkt) (x := a2) H2 rfl h2_ ?_
 intro b5 w8 H6
 refine wl_rn (rn_pure (.bool false) rfl) ?_
 refine wl_nil (then_n (wp_seq (wc_region ?_)))
 obtain ⟨r9, hr10, hF⟩ := bindS hF
 refine wl_call (vs := []) en8 rfl (portreevelaw14_shown_ok hc H6 hr10) ?_
 rintro v15 w14 ⟨G11, hG12, rfl, H13⟩
 refine wl_rn (rn_pure (.bool r9) rfl) ?_
 refine wl_nil (then_n ?_)
 refine wp_seq ?_
 refine wp_seq (join (fun a w => ∃ (T0 : Fr) (G1 : Ghost) (x41 : Bool), a = mk 89 (upds T0 [(1, (.int .i64 a1)), (3, (pt b1)), (5, (pt b5)), (7, (.bool r9)), (32, (.bool x41))]) ∧ GLe G11 G1 ∧ St c G1 w ((.box b5 32 (kTPkt.at_ a2)) :: (.box b1 29 (kTNego.at_ a0)) :: σ) ∧ portreevelaw14_NegoRight_j1 a0 a1 a2 r9 x41 = some r) ?_ ?_)
 ·rintro a w ⟨T0, G44, x41, rfl, hG42, H43, hF⟩
  rcases bcases x41 with hb45 | hb45
  ·replace hF := ifT hF hb45
   refine wc_true (vb hb45) ?_
   refine wp_seq (wc_region ?_)
   iterate 2 refine wl_rn (rn_pure (.bool r9) rfl) ?_
   refine wl_nil (then_n ?_)
   refine wp_ret ?_
   refine then_r ?_
   have hF := Option.some.inj hF
   subst hF
   exact ret_mk rfl (RV.tmp rfl RV.nil) ⟨_, (hG12.trans hG42), rfl, (St.pk [] 2 H43 rfl (by decide))⟩
  ·replace hF := ifF hF hb45
   refine wc_false (vb hb45) ?_
   refine wp_skip ?_
   refine then_n ?_
   refine wp_seq (wc_region ?_)
   refine wl_load H43 (i := 1) rfl (Lens.id kTNego) ty29 rfl ?_
   intro v46 hv47
   refine wl_rn (rn_pure (.int .i64 a1) rfl) ?_
   obtain ⟨r48, hr49, hF⟩ := bindS hF
   refine wl_call (vs := [v46, (.int .i64 a1)]) en11 rfl (nego_Do_ok hc hv47 H43 hr49) ?_
   rintro v54 w53 ⟨G50, v55, A57, c58, A60, c61, hG51, rfl, H52, hv56, hs59, hs62⟩
   refine wl_rn (rn_pure (.tuple #[v55, (.slice A57 r48.2.1.length c58), (.slice A60 r48.2.2.length c61)]) rfl) ?_
   refine wl_rn (rn_pure v55 rfl) ?_
   refine wl_rn (rn_pure (.slice A57 r48.2.1.length c58) rfl) ?_
   refine wl_rn (rn_pure (.slice A60 r48.2.2.length c61) rfl) ?_
   refine wl_alloc H52 zr29 ?_
   intro b63 w66 H64
   refine wl_store (z := r48.1) H64 (i := 0) rfl (Lens.id kTNego) ty29 rfl rfl hv56 ?_
   intro w68 H67
   refine wl_rn (rn_pure (.slice A57 r48.2.1.length c58) rfl) ?_
   refine wl_rn (rn_pure (.slice A60 r48.2.2.length c61) rfl) ?_
   refine wl_nil (then_n (wp_seq (wc_region ?_)))
   refine wl_load H67 (i := 2) rfl (Lens.id kTNego) ty29 rfl ?_
   intro v69 hv70
   obtain ⟨r71, hr72, hF⟩ := bindS hF
   refine wl_call (vs := [v69]) en12 rfl (nego_Tick_ok hc hv70 H67 hr72) ?_
   rintro v77 w76 ⟨G73, v78, A80, c81, A83, c84, hG74, rfl, H75, hv79, hs82, hs85⟩
   refine wl_rn (rn_pure (.tuple #[v78, (.slice A80 r71.2.1.length c81), (.slice A83 r71.2.2.length c84)]) rfl) ?_
   refine wl_rn (rn_pure v78 rfl) ?_
   refine wl_rn (rn_pure (.slice A80 r71.2.1.length c81) rfl) ?_
   refine wl_rn (rn_pure (.slice A83 r71.2.2.length c84) rfl) ?_
   refine wl_alloc H75 zr29 ?_
   intro b86 w89 H87
   refine wl_store (z := r71.1) H87 (i := 0) rfl (Lens.id kTNego) ty29 rfl rfl hv79 ?_
   intro w91 H90
   refine wl_rn (rn_pure (.slice A80 r71.2.1.length c81) rfl) ?_
   refine wl_rn (rn_pure (.slice A83 r71.2.2.length c84) rfl) ?_
   refine wl_nil (then_n (wp_seq (wc_region ?_)))
   refine wl_load H90 (i := 3) rfl (Lens.id kTNego) ty29 rfl ?_
   intro v92 hv93
   refine wl_load H90 (i := 2) rfl (Lens.id kTPkt) ty32 rfl ?_
   intro v94 hv95
   obtain ⟨r96, hr97, hF⟩ := bindS hF
   refine wl_call (vs := [v92, v94]) en13 rfl (nego_Take_ok hc hv93 hv95 H90 hr97) ?_
   rintro v102 w101 ⟨G98, v103, A105, c106, A108, c109, hG99, rfl, H100, hv104, hs107, hs110⟩
   refine wl_rn (rn_pure (.tuple #[v103, (.slice A105 r96.2.1.length c106), (.slice A108 r96.2.2.length c109)]) rfl) ?_
   refine wl_rn (rn_pure v103 rfl) ?_
   refine wl_rn (rn_pure (.slice A105 r96.2.1.length c106) rfl) ?_
   refine wl_rn (rn_pure (.slice A108 r96.2.2.length c109) rfl) ?_
   refine wl_alloc H100 zr29 ?_
   intro b111 w114 H112
   refine wl_store (z := r96.1) H112 (i := 0) rfl (Lens.id kTNego) ty29 rfl rfl hv104 ?_
   intro w116 H115
   refine wl_rn (rn_pure (.slice A105 r96.2.1.length c106) rfl) ?_
   refine wl_rn (rn_pure (.slice A108 r96.2.2.length c109) rfl) ?_
   refine wl_nil (then_n (wp_seq (wc_region ?_)))
   refine wl_rn (rn_field fo29_0 rfl) ?_
   refine wl_rn (rn_field fo23_0 rfl) ?_
   refine wl_loadd H115 (i := 4) rfl (Lens.then lTNego_A lTAuto_State) (dInt .i64) ty3 rfl ?_
   iterate 2 refine wl_rn (rn_pure (.bool (a0.A.State == 9)) rfl) ?_
   refine wl_nil (then_n (wp_seq (wc_region ?_)))
   iterate 2 refine wl_rn (rn_pure (.bool r9) rfl) ?_
   rcases bcases r9 with hb117 | hb117
   ·replace hF := ifT hF hb117
    refine wl_yes rfl rfl rfl (vb hb117) ?_
    refine wl_load H115 (i := 2) rfl (Lens.id kTNego) ty29 rfl ?_
    intro v118 hv119
    refine wl_yes rfl rfl rfl (vb hb117) ?_
    obtain ⟨r120, hr121, hF⟩ := bindS hF
    refine wl_call (vs := [v118]) en10 rfl (portreeveref14_Right_ok hc hv119 H115 hr121) ?_
    rintro v126 w125 ⟨G122, hG123, rfl, H124⟩
    refine wl_rn (rn_pickT (.bool r120) (vb hb117) rfl) ?_
    refine wl_rn (rn_pure (.bool r120) rfl) ?_
    rcases bcases r120 with hb127 | hb127
    ·replace hF := ifT hF hb127
     refine wl_yes rfl rfl rfl (vb hb127) ?_
     refine wl_load H124 (i := 1) rfl (Lens.id kTNego) ty29 rfl ?_
     intro v128 hv129
     refine wl_yes rfl rfl rfl (vb hb127) ?_
     obtain ⟨r130, hr131, hF⟩ := bindS hF
     refine wl_call (vs := [v128]) en10 rfl (portreeveref14_Right_ok hc hv129 H124 hr131) ?_
     rintro v136 w135 ⟨G132, hG133, rfl, H134⟩
     refine wl_rn (rn_pickT (.bool r130) (vb hb127) rfl) ?_
     refine wl_rn (rn_pure (.bool r130) rfl) ?_
     rcases bcases r130 with hb137 | hb137
     ·replace hF := ifT hF hb137
      refine wl_yes rfl rfl rfl (vb hb137) ?_
      refine wl_load H134 (i := 0) rfl (Lens.id kTNego) ty29 rfl ?_
      intro v138 hv139
      refine wl_yes rfl rfl rfl (vb hb137) ?_
      obtain ⟨r140, hr141, hF⟩ := bindS hF
      refine wl_call (vs := [v138]) en10 rfl (portreeveref14_Right_ok hc hv139 H134 hr141) ?_
      rintro v146 w145 ⟨G142, hG143, rfl, H144⟩
      refine wl_rn (rn_pickT (.bool r140) (vb hb137) rfl) ?_
      refine wl_rn (rn_pure (.bool r140) rfl) ?_
      rcases bcases r140 with hb147 | hb147
      ·replace hF := ifT hF hb147
       refine wl_yes rfl rfl rfl (vb hb147) ?_
       refine wl_rn (rn_pure (.bool (a0.A.State == 9)) rfl) ?_
       refine wl_yes rfl rfl rfl (vb hb147) ?_
       refine wl_load H144 (i := 2) rfl (Lens.id kTNego) ty29 rfl ?_
       intro v148 hv149
       refine wl_yes rfl rfl rfl (vb hb147) ?_
       refine wl_rn (rn_pure (.slice A60 r48.2.2.length c61) rfl) ?_
       refine wl_yes rfl rfl rfl (vb hb147) ?_
       obtain ⟨r150, hr151, hF⟩ := bindS hF
       refine wl_call (vs := [(.bool (a0.A.State == 9)), v148, (.slice A60 r48.2.2.length c61)]) en14 rfl (portreevelaw14_up2_ok hc hv149 (hs62.mono ((((hG74.trans hG99).trans hG123).trans hG133).trans hG143)) H144 hr151) ?_
       rintro v156 w155 ⟨G152, hG153, rfl, H154⟩
       refine wl_rn (rn_pickT (.bool r150) (vb hb147) rfl) ?_
       refine wl_rn (rn_pure (.bool r150) rfl) ?_
       rcases bcases r150 with hb157 | hb157
       ·replace hF := ifT hF hb157
        refine wl_yes rfl rfl rfl (vb hb157) ?_
        refine wl_rn (rn_pure (.bool (a0.A.State == 9)) rfl) ?_
        refine wl_yes rfl rfl rfl (vb hb157) ?_
        refine wl_load H154 (i := 1) rfl (Lens.id kTNego) ty29 rfl ?_
        intro v158 hv159
        refine wl_yes rfl rfl rfl (vb hb157) ?_
        refine wl_rn (rn_pure (.slice A83 r71.2.2.length c84) rfl) ?_
        refine wl_yes rfl rfl rfl (vb hb157) ?_
        obtain ⟨r160, hr161, hF⟩ := bindS hF
        refine wl_call (vs := [(.bool (a0.A.State == 9)), v158, (.slice A83 r71.2.2.length c84)]) en14 rfl (portreevelaw14_up2_ok hc hv159 (hs85.mono ((((hG99.trans hG123).trans hG133).trans hG143).trans hG153)) H154 hr161) ?_
        rintro v166 w165 ⟨G162, hG163, rfl, H164⟩
        refine wl_rn (rn_pickT (.bool r160) (vb hb157) rfl) ?_
        refine wl_rn (rn_pure (.bool r160) rfl) ?_
        rcases bcases r160 with hb167 | hb167
        ·replace hF := ifT hF hb167
         refine wl_yes rfl rfl rfl (vb hb167) ?_
         refine wl_rn (rn_pure (.bool (a0.A.State == 9)) rfl) ?_
         refine wl_yes rfl rfl rfl (vb hb167) ?_
         refine wl_load H164 (i := 0) rfl (Lens.id kTNego) ty29 rfl ?_
         intro v168 hv169
         refine wl_yes rfl rfl rfl (vb hb167) ?_
         refine wl_rn (rn_pure (.slice A108 r96.2.2.length c109) rfl) ?_
         refine wl_yes rfl rfl rfl (vb hb167) ?_
         obtain ⟨r170, hr171, hF⟩ := bindS hF
         refine wl_call (vs := [(.bool (a0.A.State == 9)), v168, (.slice A108 r96.2.2.length c109)]) en14 rfl (portreevelaw14_up2_ok hc hv169 (hs110.mono ((((hG123.trans hG133).trans hG143).trans hG153).trans hG163)) H164 hr171) ?_
         rintro v176 w175 ⟨G172, hG173, rfl, H174⟩
         refine wl_rn (rn_pickT (.bool r170) (vb hb167) rfl) ?_
         refine wl_rn (rn_pure (.bool r170) rfl) ?_
         refine wl_nil (then_n ?_)
         refine wp_ret ?_
         have hF := Option.some.inj hF
         subst hF
         exact ret_mk rfl (RV.tmp rfl RV.nil) ⟨_, ((((((((((hG12.trans hG42).trans hG51).trans hG74).trans hG99).trans hG123).trans hG133).trans hG143).trans hG153).trans hG163).trans hG173), rfl, (St.pk [] 5 H174 rfl (by decide))⟩
        ·replace hF := ifF hF hb167
         iterate 4 refine wl_no rfl rfl rfl (vb hb167) ?_
         refine wl_rn (rn_pickF (.bool false) (vb hb167) rfl) ?_
         refine wl_rn (rn_pure (.bool false) rfl) ?_
         refine wl_nil (then_n ?_)
         refine wp_ret ?_
         have hF := Option.some.inj hF
         subst hF
         exact ret_mk rfl (RV.tmp rfl RV.nil) ⟨_, (((((((((hG12.trans hG42).trans hG51).trans hG74).trans hG99).trans hG123).trans hG133).trans hG143).trans hG153).trans hG163), rfl, (St.pk [] 5 H164 rfl (by decide))⟩
       ·replace hF := ifF hF hb157
        iterate 4 refine wl_no rfl rfl rfl (vb hb157) ?_
        refine wl_rn (rn_pickF (.bool false) (vb hb157) rfl) ?_
        refine wl_rn (rn_pure (.bool false) rfl) ?_
        iterate 4 refine wl_no rfl rfl rfl rfl ?_
        refine wl_rn (rn_pickF (.bool false) rfl rfl) ?_
        refine wl_rn (rn_pure (.bool false) rfl) ?_
        refine wl_nil (then_n ?_)
        refine wp_ret ?_
        have hF := Option.some.inj hF
        subst hF
        exact ret_mk rfl (RV.tmp rfl RV.nil) ⟨_, ((((((((hG12.trans hG42).trans hG51).trans hG74).trans hG99).trans hG123).trans hG133).trans hG143).trans hG153), rfl, (St.pk [] 5 H154 rfl (by decide))⟩
      ·replace hF := ifF hF hb147
       iterate 4 refine wl_no rfl rfl rfl (vb hb147) ?_
       refine wl_rn (rn_pickF (.bool false) (vb hb147) rfl) ?_
       refine wl_rn (rn_pure (.bool false) rfl) ?_
       iterate 4 refine wl_no rfl rfl rfl rfl ?_
       refine wl_rn (rn_pickF (.bool false) rfl rfl) ?_
       refine wl_rn (rn_pure (.bool false) rfl) ?_
       iterate 4 refine wl_no rfl rfl rfl rfl ?_
       refine wl_rn (rn_pickF (.bool false) rfl rfl) ?_
       refine wl_rn (rn_pure (.bool false) rfl) ?_
       refine wl_nil (then_n ?_)
       refine wp_ret ?_
       have hF := Option.some.inj hF
       subst hF
       exact ret_mk rfl (RV.tmp rfl RV.nil) ⟨_, (((((((hG12.trans hG42).trans hG51).trans hG74).trans hG99).trans hG123).trans hG133).trans hG143), rfl, (St.pk [] 5 H144 rfl (by decide))⟩
     ·replace hF := ifF hF hb137
      iterate 2 refine wl_no rfl rfl rfl (vb hb137) ?_
      refine wl_rn (rn_pickF (.bool false) (vb hb137) rfl) ?_
      refine wl_rn (rn_pure (.bool false) rfl) ?_
      iterate 4 refine wl_no rfl rfl rfl rfl ?_
      refine wl_rn (rn_pickF (.bool false) rfl rfl) ?_
      refine wl_rn (rn_pure (.bool false) rfl) ?_
      iterate 4 refine wl_no rfl rfl rfl rfl ?_
      refine wl_rn (rn_pickF (.bool false) rfl rfl) ?_
      refine wl_rn (rn_pure (.bool false) rfl) ?_
      iterate 4 refine wl_no rfl rfl rfl rfl ?_
      refine wl_rn (rn_pickF (.bool false) rfl rfl) ?_
      refine wl_rn (rn_pure (.bool false) rfl) ?_
      refine wl_nil (then_n ?_)
      refine wp_ret ?_
      have hF := Option.some.inj hF
      subst hF
      exact ret_mk rfl (RV.tmp rfl RV.nil) ⟨_, ((((((hG12.trans hG42).trans hG51).trans hG74).trans hG99).trans hG123).trans hG133), rfl, (St.pk [] 5 H134 rfl (by decide))⟩
    ·replace hF := ifF hF hb127
     iterate 2 refine wl_no rfl rfl rfl (vb hb127) ?_
     refine wl_rn (rn_pickF (.bool false) (vb hb127) rfl) ?_
     refine wl_rn (rn_pure (.bool false) rfl) ?_
     iterate 2 refine wl_no rfl rfl rfl rfl ?_
     refine wl_rn (rn_pickF (.bool false) rfl rfl) ?_
     refine wl_rn (rn_pure (.bool false) rfl) ?_
     iterate 4 refine wl_no rfl rfl rfl rfl ?_
     refine wl_rn (rn_pickF (.bool false) rfl rfl) ?_
     refine wl_rn (rn_pure (.bool false) rfl) ?_
     iterate 4 refine wl_no rfl rfl rfl rfl ?_
     refine wl_rn (rn_pickF (.bool false) rfl rfl) ?_
     refine wl_rn (rn_pure (.bool false) rfl) ?_
     iterate 4 refine wl_no rfl rfl rfl rfl ?_
     refine wl_rn (rn_pickF (.bool false) rfl rfl) ?_
     refine wl_rn (rn_pure (.bool false) rfl) ?_
     refine wl_nil (then_n ?_)
     refine wp_ret ?_
     have hF := Option.some.inj hF
     subst hF
     exact ret_mk rfl (RV.tmp rfl RV.nil) ⟨_, (((((hG12.trans hG42).trans hG51).trans hG74).trans hG99).trans hG123), rfl, (St.pk [] 5 H124 rfl (by decide))⟩
   ·replace hF := ifF hF hb117
    iterate 2 refine wl_no rfl rfl rfl (vb hb117) ?_
    refine wl_rn (rn_pickF (.bool false) (vb hb117) rfl) ?_
    refine wl_rn (rn_pure (.bool false) rfl) ?_
    iterate 2 refine wl_no rfl rfl rfl rfl ?_
    refine wl_rn (rn_pickF (.bool false) rfl rfl) ?_
    refine wl_rn (rn_pure (.bool false) rfl) ?_
    iterate 2 refine wl_no rfl rfl rfl rfl ?_
    refine wl_rn (rn_pickF (.bool false) rfl rfl) ?_
    refine wl_rn (rn_pure (.bool false) rfl) ?_
    iterate 4 refine wl_no rfl rfl rfl rfl ?_
    refine wl_rn (rn_pickF (.bool false) rfl rfl) ?_
    refine wl_rn (rn_pure (.bool false) rfl) ?_
    iterate 4 refine wl_no rfl rfl rfl rfl ?_
    refine wl_rn (rn_pickF (.bool false) rfl rfl) ?_
    refine wl_rn (rn_pure (.bool false) rfl) ?_
    iterate 4 refine wl_no rfl rfl rfl rfl ?_
    refine wl_rn (rn_pickF (.bool false) rfl rfl) ?_
    refine wl_rn (rn_pure (.bool false) rfl) ?_
    refine wl_nil (then_n ?_)
    refine wp_ret ?_
    have hF := Option.some.inj hF
    subst hF
    exact ret_mk rfl (RV.tmp rfl RV.nil) ⟨_, ((((hG12.trans hG42).trans hG51).trans hG74).trans hG99), rfl, (St.pk [] 5 H115 rfl (by decide))⟩
 ·refine wc_region ?_
  refine wl_load H13 (i := 1) rfl (Lens.id kTNego) ty29 rfl ?_
  intro v177 hv178
  obtain ⟨r179, hr180, hF⟩ := bindS hF
  refine wl_call (vs := [v177]) en9 rfl (portreeveref14_Small_ok hc hv178 H13 hr180) ?_
  rintro v185 w184 ⟨G181, hG182, rfl, H183⟩
  iterate 2 refine wl_rn (rn_pure (.bool (!r179)) rfl) ?_
  rcases bcases (!r179) with hb186 | hb186
  ·replace hF := ifT hF hb186
   iterate 3 refine wl_no rfl rfl rfl (vb hb186) ?_
   refine wl_rn (rn_pickT (.bool true) (vb hb186) rfl) ?_
   refine wl_rn (rn_pure (.bool true) rfl) ?_
   iterate 4 refine wl_no rfl rfl rfl rfl ?_
   refine wl_rn (rn_pickT (.bool true) rfl rfl) ?_
   refine wl_nil (then_n ?_)
   exact ⟨_, _, true, frame_eq _ ⟨rfl, rfl, rfl, rfl, rfl, trivial⟩, hG182, H183, hF⟩
  ·replace hF := ifF hF hb186
   refine wl_yes rfl rfl rfl (vb hb186) ?_
   refine wl_load H183 (i := 1) rfl (Lens.id kTNego) ty29 rfl ?_
   intro v187 hv188
   refine wl_yes rfl rfl rfl (vb hb186) ?_
   obtain ⟨r189, hr190, hF⟩ := bindS hF
   refine wl_call (vs := [v187]) en10 rfl (portreeveref14_Right_ok hc hv188 H183 hr190) ?_
   rintro v195 w194 ⟨G191, hG192, rfl, H193⟩
   refine wl_yes rfl rfl rfl (vb hb186) ?_
   refine wl_rn (rn_pure (.bool (!r189)) rfl) ?_
   refine wl_rn (rn_pickF (.bool (!r189)) (vb hb186) rfl) ?_
   refine wl_rn (rn_pure (.bool (!r189)) rfl) ?_
   rcases bcases (!r189) with hb196 | hb196
   ·replace hF := ifT hF hb196
    iterate 4 refine wl_no rfl rfl rfl (vb hb196) ?_
    refine wl_rn (rn_pickT (.bool true) (vb hb196) rfl) ?_
    refine wl_nil (then_n ?_)
    exact ⟨_, _, true, frame_eq _ ⟨rfl, rfl, rfl, rfl, rfl, trivial⟩, (hG182.trans hG192), H193, hF⟩
   ·replace hF := ifF hF hb196
    refine wl_yes rfl rfl rfl (vb hb196) ?_
    refine wl_rn (rn_field fo32_2 rfl) ?_
    refine wl_yes rfl rfl rfl (vb hb196) ?_
    refine wl_load H193 (i := 0) rfl lTPkt_Data ty30 rfl ?_
    intro v197 hv198
    obtain ⟨A199, c200, rfl, hs201⟩ := slice_V hv198
    refine wl_yes rfl rfl rfl (vb hb196) ?_
    refine wl_rn (rn_len sl30 rfl) ?_
    refine wl_yes rfl rfl rfl (vb hb196) ?_
    refine wl_rn (rn_pure (.bool (decide ((a2.Data.length : Int) > 1496))) rfl) ?_
    refine wl_rn (rn_pickF (.bool (decide ((a2.Data.length : Int) > 1496))) (vb hb196) rfl) ?_
    refine wl_nil (then_n ?_)
    exact ⟨_, _, (decide ((a2.Data.length : Int) > 1496)), frame_eq _ ⟨rfl, rfl, rfl, rfl, rfl, trivial⟩, (hG182.trans hG192), H193, hF⟩

theorem portreeveref01_Row_ok {c : World} (hc : Hc c) {G : Ghost} {w : World} {σ : List Ent} {a0 : (List Int)} {A0_ : Option Addr} {c0_ : Nat} {a1 : (List Int)} {A1_ : Option Addr} {c1_ : Nat} (h0_ : SlR kB G A0_ c0_ a0) (h1_ : SlR kB G A1_ c1_ a1) (H : St c G w (σ)) {r : Bool} (hF : portreeveref01_Row a0 a1 = some r) :
  Calls Tryd.prog 15 ([(.slice A0_ a0.length c0_), (.slice A1_ a1.length c1_)] : List Value).toArray w (Ends fun v w' => ∃ (G' : Ghost), GLe G G' ∧ tup [(.bool r)] = v ∧ St c G' w' (σ)) := by
 unfold portreeveref01_Row at hF
 refine calls_mk Tryd.func15 rfl rfl rfl ?_
 refine wp_seq (wc_region ?_)
 refine wl_rn (rn_pure (.bool false) rfl) ?_
 refine wl_nil (then_n ?_)
 refine wp_seq ?_
 refine wp_seq (wc_region ?_)
 refine wl_rn (rn_pure (.slice A0_ a0.length c0_) rfl) ?_
 refine wl_rn (rn_len sl30 rfl) ?_
 refine wl_rn (rn_pure (.slice A1_ a1.length c1_) rfl) ?_
 refine wl_rn (rn_len sl30 rfl) ?_
 refine wl_rn (rn_pure (.bool ((a0.length : Int) != (a1.length : Int))) rfl) ?_
 refine wl_nil (then_n ?_)
 rcases bcases ((a0.length : Int) != (a1.length : Int)) with hb1 | hb1
 ·replace hF := ifT hF hb1
  refine wc_true (vb hb1) ?_
  refine wp_seq (wc_region ?_)
  refine wl_rn (rn_pure (.bool false) rfl) ?_
  refine wl_nil (then_n ?_)
  refine wp_ret ?_
  refine then_r ?_
  have hF := Option.some.inj hF
  subst hF
  exact ret_mk rfl (RV.tmp rfl RV.nil) ⟨_, GLe.refl _, rfl, H⟩
 ·replace hF := ifF hF hb1
  refine wc_false (vb hb1) ?_
  refine wp_skip ?_
  refine then_n ?_
  refine wp_seq ?_
  refine wp_seq (wc_region ?_)
  refine wl_rn (rn_pure (.int .i64 0) rfl) ?_
  refine wl_nil (then_n ?_)
  refine wp_block ?_
  refine wp_loopX (fun (s : Int) a w => ∃ (T0 : Fr) (G1 : Ghost), a = mk 26 (upds T0 [(0, (.slice A0_ a0.length c0_)), (1, (.slice A1_ a1.length c1_)), (5, (.int .i64 s))]) ∧ GLe G G1 ∧ St c G1 w (σ)) hF ?_ ?_
  ·exact ⟨_, _, frame_eq _ ⟨rfl, rfl, rfl, trivial⟩, GLe.refl _, H⟩
  ·rintro x22 a w y25 ⟨T0, G26, rfl, hG23, H24⟩ hF hy2
   refine wp_seq ?_
   refine wp_seq (wc_region ?_)
   refine wl_rn (rn_pure (.int .i64 x22) rfl) ?_
   refine wl_rn (rn_pure (.slice A0_ a0.length c0_) rfl) ?_
   refine wl_rn (rn_len sl30 rfl) ?_
   refine wl_rn (rn_pure (.bool (decide (x22 < (a0.length : Int)))) rfl) ?_
   refine wl_nil (then_n ?_)
   rcases bcases (decide (x22 < (a0.length : Int))) with hb27 | hb27
   ·replace hF := ifT hF hb27
    refine wc_true (vb hb27) ?_
    refine wp_skip ?_
    refine then_n ?_
    refine wp_seq ?_
    refine wp_block ?_
    refine wp_seq ?_
    refine wc_anyS (f := 9) H24 mixed ?_
    intro w36 H37
    refine any_pf (by repeat (first | exact PF.base | apply PF.then_ | apply PF.blk)) ?_
    intro hPF hns
    obtain ⟨x38, hx39, hF⟩ := bindS hF
    obtain ⟨x42, hx43, hF⟩ := bindS hF
    refine any_memo (fuel := 1) (m := 255) (fun a w => ∃ (T0 : Fr) (G1 : Ghost), a = mk 26 (upds T0 [(0, (.slice A0_ a0.length c0_)), (1, (.slice A1_ a1.length c1_)), (5, (.int .i64 x22)), (20, (.int .u8 x38)), (24, (.int .u8 x42))]) ∧ GLe G26 G1 ∧ St c G1 w (σ)) ?_ ?_
    ·rintro a w ⟨T0, G53, rfl, hG51, H52⟩
     refine any_rn (i := 8) (m' := 511) rfl (rn_pure (.bool (x38 != x42)) rfl) hPF hns ?_
     refine any_end ?_
     refine then_n ?_
     rcases bcases (x38 != x42) with hb54 | hb54
     ·replace hF := ifT hF hb54
      refine wc_true (vb hb54) ?_
      refine wp_seq (wc_region ?_)
      refine wl_rn (rn_pure (.bool false) rfl) ?_
      refine wl_nil (then_n ?_)
      refine wp_ret ?_
      refine blk_r ?_
      iterate 2 refine then_r ?_
      replace hF := exitS hF hy2
      refine blk_r ?_
      refine then_r ?_
      have hF := Option.some.inj hF
      subst hF
      exact ret_mk rfl (RV.tmp rfl RV.nil) ⟨_, (hG23.trans hG51), rfl, H52⟩
     ·replace hF := ifF hF hb54
      refine wc_false (vb hb54) ?_
      refine wp_skip ?_
      refine blk_n ?_
      refine then_n ?_
      refine wc_region ?_
      refine wl_rn (rn_pure (.int .i64 x22) rfl) ?_
      iterate 2 refine wl_rn (rn_pure (.int .i64 (IntKind.i64.wrap (x22 + 1))) rfl) ?_
      refine wl_nil (then_n ?_)
      exact ⟨_, (Option.some.inj hF).symm, _, _, frame_eq _ ⟨rfl, rfl, rfl, trivial⟩, (hG23.trans hG51), H52⟩
    intro hM50
    refine any_rn (i := 0) (m' := 1) rfl (rn_pure (.slice A0_ a0.length c0_) rfl) hPF hns ?_
    refine any_rn (i := 1) (m' := 3) rfl (rn_pure (.int .i64 x22) rfl) hPF hns ?_
    refine any_rnE (i := 2) (m' := 7) rfl (rn_index (h0_.mono hG23) sl30 ty5 rfl rfl hx39) hPF hns ?_
    intro a55 hp56
    refine any_rn (i := 4) (m' := 23) rfl (rn_pure (.slice A1_ a1.length c1_) rfl) hPF hns ?_
    refine any_rn (i := 5) (m' := 55) rfl (rn_pure (.int .i64 x22) rfl) hPF hns ?_
    refine any_rnE (i := 6) (m' := 119) rfl (rn_index (h1_.mono hG23) sl30 ty5 rfl rfl hx43) hPF hns ?_
    intro a57 hp58
    refine any_alls [3, 7] ⟨?_, ?_, trivial⟩
    ·refine any_ops (m' := 127) fun Q' hN => ?_
     refine wl_loadpd H37 hp56 (dInt .u8) ty5 rfl ?_
     refine wl_nil (hN _ _ ?_)
     refine any_alls [7] ⟨any_ops (m' := 255) fun Q' hN => ?_, trivial⟩
     refine wl_loadpd H37 hp58 (dInt .u8) ty5 rfl ?_
     refine wl_nil (hN _ _ ?_)
     exact hM50 _ _ ⟨_, _, frame_eq _ ⟨rfl, rfl, rfl, rfl, rfl, trivial⟩, GLe.refl _, H37⟩
    ·refine any_ops (m' := 247) fun Q' hN => ?_
     refine wl_loadpd H37 hp58 (dInt .u8) ty5 rfl ?_
     refine wl_nil (hN _ _ ?_)
     refine any_alls [3] ⟨any_ops (m' := 255) fun Q' hN => ?_, trivial⟩
     refine wl_loadpd H37 hp56 (dInt .u8) ty5 rfl ?_
     refine wl_nil (hN _ _ ?_)
     exact hM50 _ _ ⟨_, _, frame_eq _ ⟨rfl, rfl, rfl, rfl, rfl, trivial⟩, GLe.refl _, H37⟩
   ·replace hF := ifF hF hb27
    refine wc_false (vb hb27) ?_
    refine wp_exit ?_
    iterate 2 refine then_e ?_
    replace hF := exitS hF hy2
    refine blk_e ?_
    refine then_n ?_
    refine wp_seq (wc_region ?_)
    refine wl_rn (rn_pure (.bool true) rfl) ?_
    refine wl_nil (then_n ?_)
    refine wp_ret ?_
    have hF := Option.some.inj hF
    subst hF
    exact ret_mk rfl (RV.tmp rfl RV.nil) ⟨_, hG23, rfl, H24⟩

theorem portreeveref10_Read_ok {c : World} (hc : Hc c) {G : Ghost} {w : World} {σ : List Ent} {a0 : (List Int)} {A0_ : Option Addr} {c0_ : Nat} (h0_ : SlR kB G A0_ c0_ a0) (H : St c G w (σ)) {r : ((List TOpt) × Int)} (hF : portreeveref10_Read a0 = some r) :
  Calls Tryd.prog 16 ([(.slice A0_ a0.length c0_)] : List Value).toArray w (Ends fun v w' => ∃ (G' : Ghost) (A1' : Option Addr) (c2' : Nat), GLe G G' ∧ tup [(.slice A1' r.1.length c2'), (.int .i64 r.2)] = v ∧ St c G' w' (σ) ∧ SlR kTOpt G' A1' c2' r.1) := by
 unfold portreeveref10_Read at hF
 refine calls_mk Tryd.func16 rfl rfl rfl ?_
 refine wp_seq (wc_region ?_)
 refine wl_rn (rn_pure (.slice none 0 0) rfl) ?_
 refine wl_rn (rn_pure (.int .i64 0) rfl) ?_
 refine wl_nil (then_n (wp_seq (wc_region ?_)))
 refine wl_rn (rn_pure (.slice none 0 0) rfl) ?_
 refine wl_nil (then_n (wp_seq (wc_region ?_)))
 refine wl_rn (rn_pure (.int .i64 0) rfl) ?_
 refine wl_nil (then_n ?_)
 refine wp_seq ?_
 refine wp_block ?_
 have H174 := H.nilrow kTOpt none 60
 refine wp_loopX (fun (s : ((List TOpt) × Int)) a w => ∃ (T0 : Fr) (G1 : Ghost) (g69 : Option Nat) (A70 : Option Addr) (c71 : Nat), a = mk 51 (upds T0 [(0, (.slice A0_ a0.length c0_)), (4, (.slice A70 s.1.length c71)), (5, (.int .i64 s.2))]) ∧ GLe G G1 ∧ St c G1 w ((.row kTOpt g69 A70 c71 60 s.1) :: σ)) hF ?_ ?_
 ·exact ⟨_, _, none, none, 0, frame_eq _ ⟨rfl, rfl, rfl, trivial⟩, GLe.refl _, H174⟩
 ·rintro ⟨x68, x73⟩ a w y76 ⟨T0, G77, g69, A70, c71, rfl, hG74, H75⟩ hF hy1
  refine wp_seq ?_
  refine wp_seq (wc_region ?_)
  refine wl_rn (rn_pure (.int .i64 x73) rfl) ?_
  refine wl_rn (rn_pure (.slice A0_ a0.length c0_) rfl) ?_
  refine wl_rn (rn_len sl30 rfl) ?_
  refine wl_rn (rn_pure (.bool (decide (x73 < (a0.length : Int)))) rfl) ?_
  refine wl_nil (then_n ?_)
  rcases bcases (decide (x73 < (a0.length : Int))) with hb78 | hb78
  ·replace hF := ifT hF hb78
   refine wc_true (vb hb78) ?_
   refine wp_skip ?_
   refine then_n ?_
   refine wp_block ?_
   refine wp_seq ?_
   refine wp_seq (wc_region ?_)
   refine wl_rn (rn_pure (.int .i64 x73) rfl) ?_
   refine wl_rn (rn_pure (.int .i64 (IntKind.i64.wrap (x73 + 1))) rfl) ?_
   refine wl_rn (rn_pure (.slice A0_ a0.length c0_) rfl) ?_
   refine wl_rn (rn_len sl30 rfl) ?_
   refine wl_rn (rn_pure (.bool ((IntKind.i64.wrap (x73 + 1)) == (a0.length : Int))) rfl) ?_
   refine wl_nil (then_n ?_)
   rcases bcases ((IntKind.i64.wrap (x73 + 1)) == (a0.length : Int)) with hb79 | hb79
   ·replace hF := ifT hF hb79
    refine wc_true (vb hb79) ?_
    refine wp_seq (wc_region ?_)
    refine wl_rn (rn_pure (.slice none 0 0) rfl) ?_
    refine wl_rn (rn_pure (.int .i64 2) rfl) ?_
    refine wl_nil (then_n ?_)
    refine wp_ret ?_
    refine then_r ?_
    refine blk_r ?_
    refine then_r ?_
    replace hF := exitS hF hy1
    refine blk_r ?_
    refine then_r ?_
    have hF := Option.some.inj hF
    subst hF
    exact ret_mk rfl (RV.tmp rfl (RV.tmp rfl RV.nil)) ⟨_, none, 0, hG74, rfl, (St.pk [] 1 H75 rfl (by decide)), (SlR.nil _ _)⟩
   ·replace hF := ifF hF hb79
    refine wc_false (vb hb79) ?_
    refine wp_skip ?_
    refine then_n ?_
    refine wp_seq (wc_region ?_)
    refine wl_rn (rn_pure (.slice A0_ a0.length c0_) rfl) ?_
    refine wl_rn (rn_pure (.int .i64 x73) rfl) ?_
    refine wl_rn (rn_pure (.int .i64 (IntKind.i64.wrap (x73 + 1))) rfl) ?_
    obtain ⟨x80, hx81, hF⟩ := bindS hF
    refine wl_rnE (rn_index (h0_.mono hG74) sl30 ty5 rfl rfl hx81) ?_
    intro a82 hp83
    refine wl_loadpd H75 hp83 (dInt .u8) ty5 rfl ?_
    refine wl_rn (rn_convert un5 un3 rfl) ?_
    refine wl_rn (rn_pure (.int .i64 (IntKind.i64.wrap (x80))) rfl) ?_
    refine wl_nil (then_n ?_)
    refine wp_seq ?_
    refine wp_seq (join (fun a w => ∃ (T0 : Fr) (G1 : Ghost) (x85 : (List TOpt)) (x90 : Bool) (g86 : Option Nat) (A87 : Option Addr) (c88 : Nat), a = mk 51 (upds T0 [(0, (.slice A0_ a0.length c0_)), (4, (.slice A87 x85.length c88)), (5, (.int .i64 x73)), (6, (.int .i64 (IntKind.i64.wrap (x80)))), (31, (.bool x90))]) ∧ GLe G77 G1 ∧ St c G1 w ((.row kTOpt g86 A87 c88 60 x85) :: σ) ∧ portreeveref10_Read_j2 a0 x73 x80 x85 x90 = some y76) ?_ ?_)
    ·rintro a w ⟨T0, G93, x85, x90, g86, A87, c88, rfl, hG91, H92, hF⟩
     rcases bcases x90 with hb94 | hb94
     ·replace hF := ifT hF hb94
      refine wc_true (vb hb94) ?_
      refine wp_seq (wc_region ?_)
      refine wl_rn (rn_pure (.slice none 0 0) rfl) ?_
      refine wl_rn (rn_pure (.int .i64 2) rfl) ?_
      refine wl_nil (then_n ?_)
      refine wp_ret ?_
      refine then_r ?_
      refine blk_r ?_
      refine then_r ?_
      replace hF := exitS hF hy1
      refine blk_r ?_
      refine then_r ?_
      have hF := Option.some.inj hF
      subst hF
      exact ret_mk rfl (RV.tmp rfl (RV.tmp rfl RV.nil)) ⟨_, none, 0, (hG74.trans hG91), rfl, (St.pk [] 1 H92 rfl (by decide)), (SlR.nil _ _)⟩
     ·replace hF := ifF hF hb94
      refine wc_false (vb hb94) ?_
      refine wp_skip ?_
      refine then_n ?_
      refine wp_seq ?_
      refine wc_anyS (f := 16) H92 mixed ?_
      intro w116 H117
      refine any_pf (by repeat (first | exact PF.base | apply PF.then_ | apply PF.blk)) ?_
      intro hPF hns
      obtain ⟨x118, hx119, hF⟩ := bindS hF
      obtain ⟨r122, hr123, hF⟩ := bindS hF
      obtain ⟨r132, hr133, hF⟩ := bindS hF
      refine any_rn (i := 0) (m' := 1) rfl (rn_pure (.slice A87 x85.length c88) rfl) hPF hns ?_
      refine any_rn (i := 1) (m' := 3) rfl (rn_pure (.slice A0_ a0.length c0_) rfl) hPF hns ?_
      refine any_rn (i := 2) (m' := 7) rfl (rn_pure (.int .i64 x73) rfl) hPF hns ?_
      refine any_rnE (i := 3) (m' := 15) rfl (rn_index (h0_.mono (hG74.trans hG91)) sl30 ty5 rfl rfl hx119) hPF hns ?_
      intro a154 hp155
      refine any_rn (i := 5) (m' := 47) rfl (rn_pure (.slice A0_ a0.length c0_) rfl) hPF hns ?_
      refine any_rn (i := 6) (m' := 111) rfl (rn_pure (.int .i64 x73) rfl) hPF hns ?_
      refine any_rn (i := 7) (m' := 239) rfl (rn_pure (.int .i64 (IntKind.i64.wrap (x73 + 2))) rfl) hPF hns ?_
      refine any_rn (i := 8) (m' := 495) rfl (rn_pure (.int .i64 x73) rfl) hPF hns ?_
      refine any_rn (i := 9) (m' := 1007) rfl (rn_pure (.int .i64 (IntKind.i64.wrap (x80))) rfl) hPF hns ?_
      refine any_rn (i := 10) (m' := 2031) rfl (rn_pure (.int .i64 (IntKind.i64.wrap (x73 + (IntKind.i64.wrap (x80))))) rfl) hPF hns ?_
      refine any_rnE (i := 11) (m' := 4079) rfl (rn_cut (lo := (some (IntKind.i64.wrap (x73 + 2)))) (hi := (some (IntKind.i64.wrap (x73 + (IntKind.i64.wrap (x80)))))) (h0_.mono (hG74.trans hG91)) sl30 ty5 rfl ⟨_, rfl⟩ ⟨_, rfl⟩ hr123) hPF hns ?_
      intro z156 hs157
      refine any_alls [4] ⟨any_ops (m' := 4095) fun Q' hN => ?_, trivial⟩
      refine wl_loadpd H117 hp155 (dInt .u8) ty5 rfl ?_
      refine wl_nil (hN _ _ ?_)
      refine any_rnE (i := 12) (m' := 8191) rfl (rn_build (G := G93) zr60 rfl bs60 rfl (Parts.cons fo60_0 lTOpt_Typ ((dInt .u8).toV _ _) (Parts.cons fo60_1 lTOpt_Data (slice_toV hs157) (Parts.nil _)))) hPF hns ?_
      intro v158 hv159
      refine any_alls [13] ⟨any_ops (m' := 16383) fun Q' hN => ?_, trivial⟩
      refine wl_lit (K := kTOpt) (vs := [v158]) (xs := ([(TOpt.mk x118 r122)] : (List TOpt))) H117 sl27 el60 rfl ⟨hv159, trivial⟩ rfl (by decide) ?_
      intro g160 w162 H161
      refine wl_nil (hN _ _ ?_)
      refine any_alls [14] ⟨any_ops (m' := 32767) fun Q' hN => ?_, trivial⟩
      refine wl_append H161 sl27 el60 (i := 1) rfl rfl rfl ((H161.okAt (i := 0) rfl).src) hr133 ?_
      intro g164 A165 c166 w167 H168
      refine wl_nil (hN _ _ ?_)
      refine any_rn (i := 15) (m' := 65535) rfl (rn_pure (.slice A165 r132.length c166) rfl) hPF hns ?_
      refine any_end ?_
      refine then_n ?_
      refine wc_region ?_
      refine wl_rn (rn_pure (.int .i64 x73) rfl) ?_
      refine wl_rn (rn_pure (.int .i64 (IntKind.i64.wrap (x80))) rfl) ?_
      iterate 2 refine wl_rn (rn_pure (.int .i64 (IntKind.i64.wrap (x73 + (IntKind.i64.wrap (x80))))) rfl) ?_
      refine wl_nil (blk_n ?_)
      refine then_n ?_
      exact ⟨_, (Option.some.inj hF).symm, _, _, g164, A165, c166, frame_eq _ ⟨rfl, rfl, rfl, trivial⟩, (hG74.trans hG91), (St.pk [1] 2 H168 rfl (by decide))⟩
    ·refine wc_region ?_
     refine wl_rn (rn_pure (.int .i64 (IntKind.i64.wrap (x80))) rfl) ?_
     iterate 2 refine wl_rn (rn_pure (.bool (decide ((IntKind.i64.wrap (x80)) < 2))) rfl) ?_
     rcases bcases (decide ((IntKind.i64.wrap (x80)) < 2)) with hb169 | hb169
     ·replace hF := ifT hF hb169
      iterate 6 refine wl_no rfl rfl rfl (vb hb169) ?_
      refine wl_rn (rn_pickT (.bool true) (vb hb169) rfl) ?_
      refine wl_nil (then_n ?_)
      exact ⟨_, _, x68, true, g69, A70, c71, frame_eq _ ⟨rfl, rfl, rfl, rfl, rfl, trivial⟩, GLe.refl _, H75, hF⟩
     ·replace hF := ifF hF hb169
      refine wl_yes rfl rfl rfl (vb hb169) ?_
      refine wl_rn (rn_pure (.int .i64 x73) rfl) ?_
      refine wl_yes rfl rfl rfl (vb hb169) ?_
      refine wl_rn (rn_pure (.int .i64 (IntKind.i64.wrap (x80))) rfl) ?_
      refine wl_yes rfl rfl rfl (vb hb169) ?_
      refine wl_rn (rn_pure (.int .i64 (IntKind.i64.wrap (x73 + (IntKind.i64.wrap (x80))))) rfl) ?_
      refine wl_yes rfl rfl rfl (vb hb169) ?_
      refine wl_rn (rn_pure (.slice A0_ a0.length c0_) rfl) ?_
      refine wl_yes rfl rfl rfl (vb hb169) ?_
      refine wl_rn (rn_len sl30 rfl) ?_
      refine wl_yes rfl rfl rfl (vb hb169) ?_
      refine wl_rn (rn_pure (.bool (decide ((IntKind.i64.wrap (x73 + (IntKind.i64.wrap (x80)))) > (a0.length : Int)))) rfl) ?_
      refine wl_rn (rn_pickF (.bool (decide ((IntKind.i64.wrap (x73 + (IntKind.i64.wrap (x80)))) > (a0.length : Int)))) (vb hb169) rfl) ?_
      refine wl_nil (then_n ?_)
      exact ⟨_, _, x68, (decide ((IntKind.i64.wrap (x73 + (IntKind.i64.wrap (x80)))) > (a0.length : Int))), g69, A70, c71, frame_eq _ ⟨rfl, rfl, rfl, rfl, rfl, trivial⟩, GLe.refl _, H75, hF⟩
  ·replace hF := ifF hF hb78
   refine wc_false (vb hb78) ?_
   refine wp_exit ?_
   iterate 2 refine then_e ?_
   replace hF := exitS hF hy1
   refine blk_e ?_
   refine then_n ?_
   refine wp_seq (wc_region ?_)
   iterate 2 refine wl_rn (rn_pure (.slice A70 x68.length c71) rfl) ?_
   refine wl_rn (rn_pure (.int .i64 0) rfl) ?_
   refine wl_nil (then_n ?_)
   refine wp_ret ?_
   obtain ⟨G170, hG171, H172, hs173⟩ := H75.stay (i := 0) rfl (H75.capA (i := 0) rfl)
   have hF := Option.some.inj hF
   subst hF
   exact ret_mk rfl (RV.tmp rfl (RV.tmp rfl RV.nil)) ⟨_, A70, c71, (hG74.trans hG171), rfl, H172, hs173⟩

theorem portreeveref10_One_ok {c : World} (hc : Hc c) {G : Ghost} {w : World} {σ : List Ent} {a0 : TOpt} {v0_ : Value} {a1 : TOpt} {v1_ : Value} (h0_ : kTOpt.V G v0_ a0) (h1_ : kTOpt.V G v1_ a1) (H : St c G w (σ)) {r : Bool} (hF : portreeveref10_One a0 a1 = some r) :
  Calls Tryd.prog 37 ([v0_, v1_] : List Value).toArray w (Ends fun v w' => ∃ (G' : Ghost), GLe G G' ∧ tup [(.bool r)] = v ∧ St c G' w' (σ)) := by
 unfold portreeveref10_One at hF
 refine calls_mk Tryd.func37 rfl rfl rfl ?_
 refine wp_seq (wc_region ?_)
 refine wl_box (K := kTOpt) (x := a0) H rfl h0_ ?_
 intro b1 w4 H2
 refine wl_box (K := kTOpt) (x := a1) H2 rfl h1_ ?_
 intro b5 w8 H6
 refine wl_rn (rn_pure (.bool false) rfl) ?_
 refine wl_nil (then_n (wp_seq (wc_region ?_)))
 refine wl_rn (rn_field fo60_1 rfl) ?_
 refine wl_load H6 (i := 1) rfl lTOpt_Data ty30 rfl ?_
 intro v9 hv10
 obtain ⟨A11, c12, rfl, hs13⟩ := slice_V hv10
 refine wl_rn (rn_field fo60_1 rfl) ?_
 refine wl_load H6 (i := 0) rfl lTOpt_Data ty30 rfl ?_
 intro v14 hv15
 obtain ⟨A16, c17, rfl, hs18⟩ := slice_V hv15
 obtain ⟨r19, hr20, hF⟩ := bindS hF
 refine wl_call (vs := [(.slice A11 a0.Data.length c12), (.slice A16 a1.Data.length c17)]) en15 rfl (portreeveref01_Row_ok hc hs13 hs18 H6 hr20) ?_
 rintro v25 w24 ⟨G21, hG22, rfl, H23⟩
 refine wl_rn (rn_pure (.bool r19) rfl) ?_
 refine wl_nil (then_n (wp_seq (wc_region ?_)))
 iterate 2 refine wl_rn (rn_pure (.bool r19) rfl) ?_
 rcases bcases r19 with hb26 | hb26
 ·replace hF := ifT hF hb26
  refine wl_yes rfl rfl rfl (vb hb26) ?_
  refine wl_rn (rn_field fo60_0 rfl) ?_
  refine wl_yes rfl rfl rfl (vb hb26) ?_
  refine wl_loadd H23 (i := 1) rfl lTOpt_Typ (dInt .u8) ty5 rfl ?_
  refine wl_yes rfl rfl rfl (vb hb26) ?_
  refine wl_rn (rn_field fo60_0 rfl) ?_
  refine wl_yes rfl rfl rfl (vb hb26) ?_
  refine wl_loadd H23 (i := 0) rfl lTOpt_Typ (dInt .u8) ty5 rfl ?_
  refine wl_yes rfl rfl rfl (vb hb26) ?_
  refine wl_rn (rn_pure (.bool (a0.Typ == a1.Typ)) rfl) ?_
  refine wl_rn (rn_pickT (.bool (a0.Typ == a1.Typ)) (vb hb26) rfl) ?_
  refine wl_rn (rn_pure (.bool (a0.Typ == a1.Typ)) rfl) ?_
  refine wl_nil (then_n ?_)
  refine wp_ret ?_
  have hF := Option.some.inj hF
  subst hF
  exact ret_mk rfl (RV.tmp rfl RV.nil) ⟨_, hG22, rfl, (St.pk [] 2 H23 rfl (by decide))⟩
 ·replace hF := ifF hF hb26
  iterate 5 refine wl_no rfl rfl rfl (vb hb26) ?_
  refine wl_rn (rn_pickF (.bool false) (vb hb26) rfl) ?_
  refine wl_rn (rn_pure (.bool false) rfl) ?_
  refine wl_nil (then_n ?_)
  refine wp_ret ?_
  have hF := Option.some.inj hF
  subst hF
  exact ret_mk rfl (RV.tmp rfl RV.nil) ⟨_, hG22, rfl, (St.pk [] 2 H23 rfl (by decide))⟩

theorem portreeveref10_Same_ok {c : World} (hc : Hc c) {G : Ghost} {w : World} {σ : List Ent} {a0 : (List TOpt)} {A0_ : Option Addr} {c0_ : Nat} {a1 : (List TOpt)} {A1_ : Option Addr} {c1_ : Nat} (h0_ : SlR kTOpt G A0_ c0_ a0) (h1_ : SlR kTOpt G A1_ c1_ a1) (H : St c G w (σ)) {r : Bool} (hF : portreeveref10_Same a0 a1 = some r) :
  Calls Tryd.prog 17 ([(.slice A0_ a0.length c0_), (.slice A1_ a1.length c1_)] : List Value).toArray w (Ends fun v w' => ∃ (G' : Ghost), GLe G G' ∧ tup [(.bool r)] = v ∧ St c G' w' (σ)) := by
 unfold portreeveref10_Same at hF
 refine calls_mk Tryd.func17 rfl rfl rfl ?_
 refine wp_seq (wc_region ?_)
 refine wl_rn (rn_pure (.bool false) rfl) ?_
 refine wl_nil (then_n ?_)
 refine wp_seq ?_
 refine wp_seq (wc_region ?_)
 refine wl_rn (rn_pure (.slice A0_ a0.length c0_) rfl) ?_
 refine wl_rn (rn_len sl27 rfl) ?_
 refine wl_rn (rn_pure (.slice A1_ a1.length c1_) rfl) ?_
 refine wl_rn (rn_len sl27 rfl) ?_
 refine wl_rn (rn_pure (.bool ((a0.length : Int) != (a1.length : Int))) rfl) ?_
 refine wl_nil (then_n ?_)
 rcases bcases ((a0.length : Int) != (a1.length : Int)) with hb1 | hb1
 ·replace hF := ifT hF hb1
  refine wc_true (vb hb1) ?_
  refine wp_seq (wc_region ?_)
  refine wl_rn (rn_pure (.bool false) rfl) ?_
  refine wl_nil (then_n ?_)
  refine wp_ret ?_
  refine then_r ?_
  have hF := Option.some.inj hF
  subst hF
  exact ret_mk rfl (RV.tmp rfl RV.nil) ⟨_, GLe.refl _, rfl, H⟩
 ·replace hF := ifF hF hb1
  refine wc_false (vb hb1) ?_
  refine wp_skip ?_
  refine then_n ?_
  refine wp_seq ?_
  refine wp_seq (wc_region ?_)
  refine wl_rn (rn_pure (.int .i64 0) rfl) ?_
  refine wl_nil (then_n ?_)
  refine wp_block ?_
  refine wp_loopX (fun (s : Int) a w => ∃ (T0 : Fr) (G1 : Ghost), a = mk 29 (upds T0 [(0, (.slice A0_ a0.length c0_)), (1, (.slice A1_ a1.length c1_)), (5, (.int .i64 s))]) ∧ GLe G G1 ∧ St c G1 w (σ)) hF ?_ ?_
  ·exact ⟨_, _, frame_eq _ ⟨rfl, rfl, rfl, trivial⟩, GLe.refl _, H⟩
  ·rintro x44 a w y47 ⟨T0, G48, rfl, hG45, H46⟩ hF hy2
   refine wp_seq ?_
   refine wp_seq (wc_region ?_)
   refine wl_rn (rn_pure (.int .i64 x44) rfl) ?_
   refine wl_rn (rn_pure (.slice A0_ a0.length c0_) rfl) ?_
   refine wl_rn (rn_len sl27 rfl) ?_
   refine wl_rn (rn_pure (.bool (decide (x44 < (a0.length : Int)))) rfl) ?_
   refine wl_nil (then_n ?_)
   rcases bcases (decide (x44 < (a0.length : Int))) with hb49 | hb49
   ·replace hF := ifT hF hb49
    refine wc_true (vb hb49) ?_
    refine wp_skip ?_
    refine then_n ?_
    refine wp_seq ?_
    refine wp_block ?_
    refine wp_seq ?_
    refine wc_anyS (f := 10) H46 mixed ?_
    intro w69 H70
    refine any_pf (by repeat (first | exact PF.base | apply PF.then_ | apply PF.blk)) ?_
    intro hPF hns
    obtain ⟨x71, hx72, hF⟩ := bindS hF
    obtain ⟨x77, hx78, hF⟩ := bindS hF
    obtain ⟨r83, hr84, hF⟩ := bindS hF
    refine any_memo (fuel := 2) (m := 255) (fun a w => ∃ (T0 : Fr) (G1 : Ghost) (v104 : Value) (v106 : Value), a = mk 29 (upds T0 [(0, (.slice A0_ a0.length c0_)), (1, (.slice A1_ a1.length c1_)), (5, (.int .i64 x44)), (21, v104), (25, v106)]) ∧ GLe G48 G1 ∧ St c G1 w (σ) ∧ kTOpt.V G1 v104 x71 ∧ kTOpt.V G1 v106 x77) ?_ ?_
    ·rintro a w ⟨T0, G103, v104, v106, rfl, hG101, H102, hv105, hv107⟩
     refine any_alls [8] ⟨any_ops (m' := 511) fun Q' hN => ?_, trivial⟩
     refine wl_call (vs := [v104, v106]) en37 rfl (portreeveref10_One_ok hc hv105 hv107 H102 hr84) ?_
     rintro v117 w116 ⟨G113, hG114, rfl, H115⟩
     refine wl_nil (hN _ _ ?_)
     refine any_rn (i := 9) (m' := 1023) rfl (rn_pure (.bool r83) rfl) hPF hns ?_
     refine any_end ?_
     refine then_n ?_
     refine wp_seq (wc_region ?_)
     refine wl_rn (rn_pure (.bool r83) rfl) ?_
     refine wl_rn (rn_pure (.bool (!r83)) rfl) ?_
     refine wl_nil (then_n ?_)
     rcases bcases (!r83) with hb118 | hb118
     ·replace hF := ifT hF hb118
      refine wc_true (vb hb118) ?_
      refine wp_seq (wc_region ?_)
      refine wl_rn (rn_pure (.bool false) rfl) ?_
      refine wl_nil (then_n ?_)
      refine wp_ret ?_
      refine blk_r ?_
      iterate 2 refine then_r ?_
      replace hF := exitS hF hy2
      refine blk_r ?_
      refine then_r ?_
      have hF := Option.some.inj hF
      subst hF
      exact ret_mk rfl (RV.tmp rfl RV.nil) ⟨_, ((hG45.trans hG101).trans hG114), rfl, H115⟩
     ·replace hF := ifF hF hb118
      refine wc_false (vb hb118) ?_
      refine wp_skip ?_
      refine blk_n ?_
      refine then_n ?_
      refine wc_region ?_
      refine wl_rn (rn_pure (.int .i64 x44) rfl) ?_
      iterate 2 refine wl_rn (rn_pure (.int .i64 (IntKind.i64.wrap (x44 + 1))) rfl) ?_
      refine wl_nil (then_n ?_)
      exact ⟨_, (Option.some.inj hF).symm, _, _, frame_eq _ ⟨rfl, rfl, rfl, trivial⟩, ((hG45.trans hG101).trans hG114), H115⟩
    intro hM100
    refine any_rn (i := 0) (m' := 1) rfl (rn_pure (.slice A0_ a0.length c0_) rfl) hPF hns ?_
    refine any_rn (i := 1) (m' := 3) rfl (rn_pure (.int .i64 x44) rfl) hPF hns ?_
    refine any_rnE (i := 2) (m' := 7) rfl (rn_index (h0_.mono hG45) sl27 ty60 rfl rfl hx72) hPF hns ?_
    intro a119 hp120
    refine any_rn (i := 4) (m' := 23) rfl (rn_pure (.slice A1_ a1.length c1_) rfl) hPF hns ?_
    refine any_rn (i := 5) (m' := 55) rfl (rn_pure (.int .i64 x44) rfl) hPF hns ?_
    refine any_rnE (i := 6) (m' := 119) rfl (rn_index (h1_.mono hG45) sl27 ty60 rfl rfl hx78) hPF hns ?_
    intro a121 hp122
    refine any_alls [3, 7] ⟨?_, ?_, trivial⟩
    ·refine any_ops (m' := 127) fun Q' hN => ?_
     refine wl_loadp H70 hp120 ty60 rfl ?_
     intro v123 hv124
     refine wl_nil (hN _ _ ?_)
     refine any_alls [7] ⟨any_ops (m' := 255) fun Q' hN => ?_, trivial⟩
     refine wl_loadp H70 hp122 ty60 rfl ?_
     intro v125 hv126
     refine wl_nil (hN _ _ ?_)
     exact hM100 _ _ ⟨_, _, v123, v125, frame_eq _ ⟨rfl, rfl, rfl, rfl, rfl, trivial⟩, GLe.refl _, H70, hv124, hv126⟩
    ·refine any_ops (m' := 247) fun Q' hN => ?_
     refine wl_loadp H70 hp122 ty60 rfl ?_
     intro v127 hv128
     refine wl_nil (hN _ _ ?_)
     refine any_alls [3] ⟨any_ops (m' := 255) fun Q' hN => ?_, trivial⟩
     refine wl_loadp H70 hp120 ty60 rfl ?_
     intro v129 hv130
     refine wl_nil (hN _ _ ?_)
     exact hM100 _ _ ⟨_, _, v129, v127, frame_eq _ ⟨rfl, rfl, rfl, rfl, rfl, trivial⟩, GLe.refl _, H70, hv130, hv128⟩
   ·replace hF := ifF hF hb49
    refine wc_false (vb hb49) ?_
    refine wp_exit ?_
    iterate 2 refine then_e ?_
    replace hF := exitS hF hy2
    refine blk_e ?_
    refine then_n ?_
    refine wp_seq (wc_region ?_)
    refine wl_rn (rn_pure (.bool true) rfl) ?_
    refine wl_nil (then_n ?_)
    refine wp_ret ?_
    have hF := Option.some.inj hF
    subst hF
    exact ret_mk rfl (RV.tmp rfl RV.nil) ⟨_, hG45, rfl, H46⟩

theorem portreevelaw14_NegoAcks_ok {c : World} (hc : Hc c) {G : Ghost} {w : World} {σ : List Ent} {a0 : TNego} {v0_ : Value} {a1 : TPkt} {v1_ : Value} (h0_ : kTNego.V G v0_ a0) (h1_ : kTPkt.V G v1_ a1) (H : St c G w (σ)) {r : Bool} (hF : portreevelaw14_NegoAcks a0 a1 = some r) :
  Calls Tryd.prog 4 ([v0_, v1_] : List Value).toArray w (Ends fun v w' => ∃ (G' : Ghost), GLe G G' ∧ tup [(.bool r)] = v ∧ St c G' w' (σ)) := by
 unfold portreevelaw14_NegoAcks at hF
 refine calls_mk Tryd.func4 rfl rfl rfl ?_
 refine wp_seq (wc_region ?_)
 refine wl_box (K := kTNego) (x := a0) H rfl h0_ ?_
 intro b1 w4 H2
 refine wl_box (K := kTPkt) (x := a1) H2 rfl h1_ ?_
 intro b5 w8 H6
 refine wl_rn (rn_pure (.bool false) rfl) ?_
 refine wl_nil (then_n (wp_seq (wc_region ?_)))
 obtain ⟨r9, hr10, hF⟩ := bindS hF
 refine wl_call (vs := []) en8 rfl (portreevelaw14_shown_ok hc H6 hr10) ?_
 rintro v15 w14 ⟨G11, hG12, rfl, H13⟩
 refine wl_rn (rn_pure (.bool r9) rfl) ?_
 refine wl_nil (then_n ?_)
 refine wp_seq ?_
 refine wp_seq (join (fun a w => ∃ (T0 : Fr) (G1 : Ghost) (x41 : Bool), a = mk 113 (upds T0 [(2, (pt b1)), (3, (pt b5)), (5, (.bool r9)), (27, (.bool x41))]) ∧ GLe G11 G1 ∧ St c G1 w ((.box b5 32 (kTPkt.at_ a1)) :: (.box b1 29 (kTNego.at_ a0)) :: σ) ∧ portreevelaw14_NegoAcks_j1 a0 a1 r9 x41 = some r) ?_ ?_)
 ·rintro a w ⟨T0, G44, x41, rfl, hG42, H43, hF⟩
  rcases bcases x41 with hb45 | hb45
  ·replace hF := ifT hF hb45
   refine wc_true (vb hb45) ?_
   refine wp_seq (wc_region ?_)
   iterate 2 refine wl_rn (rn_pure (.bool r9) rfl) ?_
   refine wl_nil (then_n ?_)
   refine wp_ret ?_
   refine then_r ?_
   have hF := Option.some.inj hF
   subst hF
   exact ret_mk rfl (RV.tmp rfl RV.nil) ⟨_, (hG12.trans hG42), rfl, (St.pk [] 2 H43 rfl (by decide))⟩
  ·replace hF := ifF hF hb45
   refine wc_false (vb hb45) ?_
   refine wp_skip ?_
   refine then_n ?_
   refine wp_seq (wc_region ?_)
   refine wl_load H43 (i := 1) rfl (Lens.id kTNego) ty29 rfl ?_
   intro v46 hv47
   refine wl_load H43 (i := 0) rfl (Lens.id kTPkt) ty32 rfl ?_
   intro v48 hv49
   obtain ⟨r50, hr51, hF⟩ := bindS hF
   refine wl_call (vs := [v46, v48]) en13 rfl (nego_Take_ok hc hv47 hv49 H43 hr51) ?_
   rintro v56 w55 ⟨G52, v57, A59, c60, A62, c63, hG53, rfl, H54, hv58, hs61, hs64⟩
   refine wl_rn (rn_pure (.tuple #[v57, (.slice A59 r50.2.1.length c60), (.slice A62 r50.2.2.length c63)]) rfl) ?_
   refine wl_rn (rn_pure v57 rfl) ?_
   refine wl_rn (rn_pure (.slice A59 r50.2.1.length c60) rfl) ?_
   refine wl_rn (rn_pure (.slice A62 r50.2.2.length c63) rfl) ?_
   refine wl_alloc H54 zr29 ?_
   intro b65 w68 H66
   refine wl_store (z := r50.1) H66 (i := 0) rfl (Lens.id kTNego) ty29 rfl rfl hv58 ?_
   intro w70 H69
   refine wl_rn (rn_pure (.slice A59 r50.2.1.length c60) rfl) ?_
   refine wl_rn (rn_pure (.slice A62 r50.2.2.length c63) rfl) ?_
   refine wl_nil (then_n ?_)
   refine wp_seq ?_
   refine wp_seq (wc_region ?_)
   refine wl_rn (rn_pure (.int .i64 0) rfl) ?_
   refine wl_nil (then_n ?_)
   refine wp_block ?_
   refine wp_loopX (fun (s : Int) a w => ∃ (T0 : Fr) (G1 : Ghost), a = mk 113 (upds T0 [(3, (pt b5)), (5, (.bool r9)), (6, (pt b65)), (7, (.slice A59 r50.2.1.length c60)), (9, (.int .i64 s))]) ∧ GLe G52 G1 ∧ St c G1 w ((.box b65 29 (kTNego.at_ r50.1)) :: (.box b5 32 (kTPkt.at_ a1)) :: σ)) hF ?_ ?_
   ·exact ⟨_, _, frame_eq _ ⟨rfl, rfl, rfl, rfl, rfl, trivial⟩, GLe.refl _, (St.pk [0, 1] 3 H69 rfl (by decide))⟩
   ·rintro x153 a w y156 ⟨T0, G157, rfl, hG154, H155⟩ hF hy71
    refine wp_seq ?_
    refine wp_seq (wc_region ?_)
    refine wl_rn (rn_pure (.int .i64 x153) rfl) ?_
    refine wl_rn (rn_pure (.slice A59 r50.2.1.length c60) rfl) ?_
    refine wl_rn (rn_len sl35 rfl) ?_
    refine wl_rn (rn_pure (.bool (decide (x153 < (r50.2.1.length : Int)))) rfl) ?_
    refine wl_nil (then_n ?_)
    rcases bcases (decide (x153 < (r50.2.1.length : Int))) with hb158 | hb158
    ·replace hF := ifT hF hb158
     refine wc_true (vb hb158) ?_
     refine wp_skip ?_
     refine then_n ?_
     refine wp_seq ?_
     refine wp_block ?_
     refine wp_seq (wc_region ?_)
     refine wl_rn (rn_pure (.slice A59 r50.2.1.length c60) rfl) ?_
     refine wl_rn (rn_pure (.int .i64 x153) rfl) ?_
     obtain ⟨x159, hx160, hF⟩ := bindS hF
     refine wl_rnE (rn_index (hs61.mono hG154) sl35 ty32 rfl rfl hx160) ?_
     intro a161 hp162
     refine wl_loadp H155 hp162 ty32 rfl ?_
     intro v163 hv164
     refine wl_alloc H155 zr32 ?_
     intro b165 w168 H166
     refine wl_store (z := x159) H166 (i := 0) rfl (Lens.id kTPkt) ty32 rfl rfl hv164 ?_
     intro w170 H169
     refine wl_nil (then_n ?_)
     refine wp_seq (join (fun a w => ∃ (T0 : Fr) (G1 : Ghost), a = mk 113 (upds T0 [(3, (pt b5)), (5, (.bool r9)), (6, (pt b65)), (7, (.slice A59 r50.2.1.length c60)), (9, (.int .i64 x153)), (10, (pt b165))]) ∧ GLe G157 G1 ∧ St c G1 w ((.box b165 32 (kTPkt.at_ x159)) :: (.box b65 29 (kTNego.at_ r50.1)) :: (.box b5 32 (kTPkt.at_ a1)) :: σ) ∧ portreevelaw14_NegoAcks_j3 x153 x159 = some y156) ?_ ?_)
     ·rintro a w ⟨T0, G233, rfl, hG231, H232, hF⟩
      refine wp_seq (wc_region ?_)
      refine wl_rn (rn_field fo32_2 rfl) ?_
      refine wl_load H232 (i := 0) rfl lTPkt_Data ty30 rfl ?_
      intro v234 hv235
      obtain ⟨A236, c237, rfl, hs238⟩ := slice_V hv235
      refine wl_rn (rn_len sl30 rfl) ?_
      refine wl_rn (rn_pure (.bool (decide ((x159.Data.length : Int) > 1496))) rfl) ?_
      refine wl_nil (then_n ?_)
      rcases bcases (decide ((x159.Data.length : Int) > 1496)) with hb239 | hb239
      ·replace hF := ifT hF hb239
       refine wc_true (vb hb239) ?_
       refine wp_seq (wc_region ?_)
       refine wl_rn (rn_pure (.bool false) rfl) ?_
       refine wl_nil (then_n ?_)
       refine wp_ret ?_
       refine blk_r ?_
       iterate 2 refine then_r ?_
       replace hF := exitS hF hy71
       refine blk_r ?_
       refine then_r ?_
       have hF := Option.some.inj hF
       subst hF
       exact ret_mk rfl (RV.tmp rfl RV.nil) ⟨_, ((((hG12.trans hG42).trans hG53).trans hG154).trans hG231), rfl, (St.pk [] 3 H232 rfl (by decide))⟩
      ·replace hF := ifF hF hb239
       refine wc_false (vb hb239) ?_
       refine wp_skip ?_
       refine blk_n ?_
       refine then_n ?_
       refine wc_region ?_
       refine wl_rn (rn_pure (.int .i64 x153) rfl) ?_
       iterate 2 refine wl_rn (rn_pure (.int .i64 (IntKind.i64.wrap (x153 + 1))) rfl) ?_
       refine wl_nil (then_n ?_)
       exact ⟨_, (Option.some.inj hF).symm, _, _, frame_eq _ ⟨rfl, rfl, rfl, rfl, rfl, trivial⟩, (hG154.trans hG231), (St.pk [1, 2] 3 H232 rfl (by decide))⟩
     ·refine wp_seq (wc_region ?_)
      refine wl_rn (rn_field fo32_0 rfl) ?_
      refine wl_loadd H169 (i := 0) rfl lTPkt_Code (dInt .u8) ty5 rfl ?_
      refine wl_nil (then_n ?_)
      refine wp_block ?_
      refine wp_seq (wc_region ?_)
      iterate 2 refine wl_rn (rn_pure (.bool (x159.Code == 2)) rfl) ?_
      refine wl_nil (then_n ?_)
      rcases bcases (x159.Code == 2) with hb240 | hb240
      ·replace hF := ifT hF hb240
       refine wc_true (vb hb240) ?_
       refine wp_seq (join (fun a w => ∃ (T0 : Fr) (G1 : Ghost) (x260 : Bool), a = mk 113 (upds T0 [(3, (pt b5)), (5, (.bool r9)), (6, (pt b65)), (7, (.slice A59 r50.2.1.length c60)), (9, (.int .i64 x153)), (10, (pt b165)), (67, (.bool x260))]) ∧ GLe G157 G1 ∧ St c G1 w ((.box b165 32 (kTPkt.at_ x159)) :: (.box b65 29 (kTNego.at_ r50.1)) :: (.box b5 32 (kTPkt.at_ a1)) :: σ) ∧ portreevelaw14_NegoAcks_j4 x153 x159 x260 = some y156) ?_ ?_)
       ·rintro a w ⟨T0, G263, x260, rfl, hG261, H262, hF⟩
        rcases bcases x260 with hb264 | hb264
        ·replace hF := ifT hF hb264
         refine wc_true (vb hb264) ?_
         refine wp_seq (wc_region ?_)
         refine wl_rn (rn_pure (.bool false) rfl) ?_
         refine wl_nil (then_n ?_)
         refine wp_ret ?_
         refine blk_r ?_
         refine then_r ?_
         refine blk_r ?_
         iterate 2 refine then_r ?_
         replace hF := exitS hF hy71
         refine blk_r ?_
         refine then_r ?_
         have hF := Option.some.inj hF
         subst hF
         exact ret_mk rfl (RV.tmp rfl RV.nil) ⟨_, ((((hG12.trans hG42).trans hG53).trans hG154).trans hG261), rfl, (St.pk [] 3 H262 rfl (by decide))⟩
        ·replace hF := ifF hF hb264
         refine wc_false (vb hb264) ?_
         refine wp_skip ?_
         refine blk_n ?_
         refine then_n ?_
         exact ⟨_, _, frame_eq _ ⟨rfl, rfl, rfl, rfl, rfl, rfl, trivial⟩, hG261, H262, hF⟩
       ·refine wc_region ?_
        refine wl_rn (rn_field fo32_0 rfl) ?_
        refine wl_loadd H169 (i := 2) rfl lTPkt_Code (dInt .u8) ty5 rfl ?_
        iterate 2 refine wl_rn (rn_pure (.bool (a1.Code != 1)) rfl) ?_
        rcases bcases (a1.Code != 1) with hb265 | hb265
        ·replace hF := ifT hF hb265
         iterate 5 refine wl_no rfl rfl rfl (vb hb265) ?_
         refine wl_rn (rn_pickT (.bool true) (vb hb265) rfl) ?_
         refine wl_rn (rn_pure (.bool true) rfl) ?_
         iterate 6 refine wl_no rfl rfl rfl rfl ?_
         refine wl_rn (rn_pickT (.bool true) rfl rfl) ?_
         refine wl_nil (then_n ?_)
         exact ⟨_, _, true, frame_eq _ ⟨rfl, rfl, rfl, rfl, rfl, rfl, rfl, trivial⟩, GLe.refl _, H169, hF⟩
        ·replace hF := ifF hF hb265
         refine wl_yes rfl rfl rfl (vb hb265) ?_
         refine wl_rn (rn_field fo32_1 rfl) ?_
         refine wl_yes rfl rfl rfl (vb hb265) ?_
         refine wl_loadd H169 (i := 0) rfl lTPkt_Id (dInt .u8) ty5 rfl ?_
         refine wl_yes rfl rfl rfl (vb hb265) ?_
         refine wl_rn (rn_field fo32_1 rfl) ?_
         refine wl_yes rfl rfl rfl (vb hb265) ?_
         refine wl_loadd H169 (i := 2) rfl lTPkt_Id (dInt .u8) ty5 rfl ?_
         refine wl_yes rfl rfl rfl (vb hb265) ?_
         refine wl_rn (rn_pure (.bool (x159.Id != a1.Id)) rfl) ?_
         refine wl_rn (rn_pickF (.bool (x159.Id != a1.Id)) (vb hb265) rfl) ?_
         refine wl_rn (rn_pure (.bool (x159.Id != a1.Id)) rfl) ?_
         rcases bcases (x159.Id != a1.Id) with hb266 | hb266
         ·replace hF := ifT hF hb266
          iterate 6 refine wl_no rfl rfl rfl (vb hb266) ?_
          refine wl_rn (rn_pickT (.bool true) (vb hb266) rfl) ?_
          refine wl_nil (then_n ?_)
          exact ⟨_, _, true, frame_eq _ ⟨rfl, rfl, rfl, rfl, rfl, rfl, rfl, trivial⟩, GLe.refl _, H169, hF⟩
         ·replace hF := ifF hF hb266
          refine wl_yes rfl rfl rfl (vb hb266) ?_
          refine wl_rn (rn_field fo32_2 rfl) ?_
          refine wl_yes rfl rfl rfl (vb hb266) ?_
          refine wl_load H169 (i := 0) rfl lTPkt_Data ty30 rfl ?_
          intro v267 hv268
          obtain ⟨A269, c270, rfl, hs271⟩ := slice_V hv268
          refine wl_yes rfl rfl rfl (vb hb266) ?_
          refine wl_rn (rn_field fo32_2 rfl) ?_
          refine wl_yes rfl rfl rfl (vb hb266) ?_
          refine wl_load H169 (i := 2) rfl lTPkt_Data ty30 rfl ?_
          intro v272 hv273
          obtain ⟨A274, c275, rfl, hs276⟩ := slice_V hv273
          refine wl_yes rfl rfl rfl (vb hb266) ?_
          obtain ⟨r277, hr278, hF⟩ := bindS hF
          refine wl_call (vs := [(.slice A269 x159.Data.length c270), (.slice A274 a1.Data.length c275)]) en15 rfl (portreeveref01_Row_ok hc hs271 hs276 H169 hr278) ?_
          rintro v283 w282 ⟨G279, hG280, rfl, H281⟩
          refine wl_yes rfl rfl rfl (vb hb266) ?_
          refine wl_rn (rn_pure (.bool (!r277)) rfl) ?_
          refine wl_rn (rn_pickF (.bool (!r277)) (vb hb266) rfl) ?_
          refine wl_nil (then_n ?_)
          exact ⟨_, _, (!r277), frame_eq _ ⟨rfl, rfl, rfl, rfl, rfl, rfl, rfl, trivial⟩, hG280, H281, hF⟩
      ·replace hF := ifF hF hb240
       refine wc_false (vb hb240) ?_
       refine wp_seq (wc_region ?_)
       iterate 2 refine wl_rn (rn_pure (.bool (x159.Code == 1)) rfl) ?_
       refine wl_nil (then_n ?_)
       rcases bcases (x159.Code == 1) with hb284 | hb284
       ·replace hF := ifT hF hb284
        refine wc_true (vb hb284) ?_
        refine wp_seq (wc_region ?_)
        refine wl_rn (rn_field fo32_2 rfl) ?_
        refine wl_load H169 (i := 0) rfl lTPkt_Data ty30 rfl ?_
        intro v285 hv286
        obtain ⟨A287, c288, rfl, hs289⟩ := slice_V hv286
        obtain ⟨r290, hr291, hF⟩ := bindS hF
        refine wl_call (vs := [(.slice A287 x159.Data.length c288)]) en16 rfl (portreeveref10_Read_ok hc hs289 H169 hr291) ?_
        rintro v296 w295 ⟨G292, A297, c298, hG293, rfl, H294, hs299⟩
        refine wl_rn (rn_pure (.tuple #[(.slice A297 r290.1.length c298), (.int .i64 r290.2)]) rfl) ?_
        refine wl_rn (rn_pure (.slice A297 r290.1.length c298) rfl) ?_
        refine wl_rn (rn_pure (.int .i64 r290.2) rfl) ?_
        refine wl_rn (rn_pure (.slice A297 r290.1.length c298) rfl) ?_
        refine wl_rn (rn_pure (.int .i64 r290.2) rfl) ?_
        refine wl_nil (then_n ?_)
        refine wp_seq (join (fun a w => ∃ (T0 : Fr) (G1 : Ghost) (x314 : Bool), a = mk 113 (upds T0 [(3, (pt b5)), (5, (.bool r9)), (6, (pt b65)), (7, (.slice A59 r50.2.1.length c60)), (9, (.int .i64 x153)), (10, (pt b165)), (92, (.bool x314))]) ∧ GLe G292 G1 ∧ St c G1 w ((.box b165 32 (kTPkt.at_ x159)) :: (.box b65 29 (kTNego.at_ r50.1)) :: (.box b5 32 (kTPkt.at_ a1)) :: σ) ∧ portreevelaw14_NegoAcks_j5 x153 x159 x314 = some y156) ?_ ?_)
        ·rintro a w ⟨T0, G317, x314, rfl, hG315, H316, hF⟩
         rcases bcases x314 with hb318 | hb318
         ·replace hF := ifT hF hb318
          refine wc_true (vb hb318) ?_
          refine wp_seq (wc_region ?_)
          refine wl_rn (rn_pure (.bool false) rfl) ?_
          refine wl_nil (then_n ?_)
          refine wp_ret ?_
          refine blk_r ?_
          refine then_r ?_
          refine blk_r ?_
          iterate 2 refine then_r ?_
          replace hF := exitS hF hy71
          refine blk_r ?_
          refine then_r ?_
          have hF := Option.some.inj hF
          subst hF
          exact ret_mk rfl (RV.tmp rfl RV.nil) ⟨_, (((((hG12.trans hG42).trans hG53).trans hG154).trans hG293).trans hG315), rfl, (St.pk [] 3 H316 rfl (by decide))⟩
         ·replace hF := ifF hF hb318
          refine wc_false (vb hb318) ?_
          refine wp_skip ?_
          refine blk_n ?_
          refine then_n ?_
          exact ⟨_, _, frame_eq _ ⟨rfl, rfl, rfl, rfl, rfl, rfl, trivial⟩, (hG293.trans hG315), H316, hF⟩
        ·refine wc_region ?_
         refine wl_rn (rn_field fo32_1 rfl) ?_
         refine wl_loadd H294 (i := 0) rfl lTPkt_Id (dInt .u8) ty5 rfl ?_
         refine wl_rn (rn_field fo29_0 rfl) ?_
         refine wl_rn (rn_field fo23_3 rfl) ?_
         refine wl_loadd H294 (i := 1) rfl (Lens.then lTNego_A lTAuto_Id) (dInt .u8) ty5 rfl ?_
         iterate 2 refine wl_rn (rn_pure (.bool (x159.Id != r50.1.A.Id)) rfl) ?_
         rcases bcases (x159.Id != r50.1.A.Id) with hb319 | hb319
         ·replace hF := ifT hF hb319
          iterate 2 refine wl_no rfl rfl rfl (vb hb319) ?_
          refine wl_rn (rn_pickT (.bool true) (vb hb319) rfl) ?_
          refine wl_rn (rn_pure (.bool true) rfl) ?_
          iterate 5 refine wl_no rfl rfl rfl rfl ?_
          refine wl_rn (rn_pickT (.bool true) rfl rfl) ?_
          refine wl_nil (then_n ?_)
          exact ⟨_, _, true, frame_eq _ ⟨rfl, rfl, rfl, rfl, rfl, rfl, rfl, trivial⟩, GLe.refl _, H294, hF⟩
         ·replace hF := ifF hF hb319
          refine wl_yes rfl rfl rfl (vb hb319) ?_
          refine wl_rn (rn_pure (.int .i64 r290.2) rfl) ?_
          refine wl_yes rfl rfl rfl (vb hb319) ?_
          refine wl_rn (rn_pure (.bool (r290.2 != 0)) rfl) ?_
          refine wl_rn (rn_pickF (.bool (r290.2 != 0)) (vb hb319) rfl) ?_
          refine wl_rn (rn_pure (.bool (r290.2 != 0)) rfl) ?_
          rcases bcases (r290.2 != 0) with hb320 | hb320
          ·replace hF := ifT hF hb320
           iterate 5 refine wl_no rfl rfl rfl (vb hb320) ?_
           refine wl_rn (rn_pickT (.bool true) (vb hb320) rfl) ?_
           refine wl_nil (then_n ?_)
           exact ⟨_, _, true, frame_eq _ ⟨rfl, rfl, rfl, rfl, rfl, rfl, rfl, trivial⟩, GLe.refl _, H294, hF⟩
          ·replace hF := ifF hF hb320
           refine wl_yes rfl rfl rfl (vb hb320) ?_
           refine wl_rn (rn_pure (.slice A297 r290.1.length c298) rfl) ?_
           refine wl_yes rfl rfl rfl (vb hb320) ?_
           refine wl_rn (rn_field fo29_2 rfl) ?_
           refine wl_yes rfl rfl rfl (vb hb320) ?_
           refine wl_load H294 (i := 1) rfl lTNego_Ours ty27 rfl ?_
           intro v321 hv322
           obtain ⟨A323, c324, rfl, hs325⟩ := slice_V hv322
           refine wl_yes rfl rfl rfl (vb hb320) ?_
           obtain ⟨r326, hr327, hF⟩ := bindS hF
           refine wl_call (vs := [(.slice A297 r290.1.length c298), (.slice A323 r50.1.Ours.length c324)]) en17 rfl (portreeveref10_Same_ok hc hs299 hs325 H294 hr327) ?_
           rintro v332 w331 ⟨G328, hG329, rfl, H330⟩
           refine wl_yes rfl rfl rfl (vb hb320) ?_
           refine wl_rn (rn_pure (.bool (!r326)) rfl) ?_
           refine wl_rn (rn_pickF (.bool (!r326)) (vb hb320) rfl) ?_
           refine wl_nil (then_n ?_)
           exact ⟨_, _, (!r326), frame_eq _ ⟨rfl, rfl, rfl, rfl, rfl, rfl, rfl, trivial⟩, hG329, H330, hF⟩
       ·replace hF := ifF hF hb284
        refine wc_false (vb hb284) ?_
        refine wp_seq (join (fun a w => ∃ (T0 : Fr) (G1 : Ghost) (x336 : Bool), a = mk 113 (upds T0 [(3, (pt b5)), (5, (.bool r9)), (6, (pt b65)), (7, (.slice A59 r50.2.1.length c60)), (9, (.int .i64 x153)), (10, (pt b165)), (93, (.bool x336))]) ∧ GLe G157 G1 ∧ St c G1 w ((.box b165 32 (kTPkt.at_ x159)) :: (.box b65 29 (kTNego.at_ r50.1)) :: (.box b5 32 (kTPkt.at_ a1)) :: σ) ∧ portreevelaw14_NegoAcks_j6 a1 x153 x159 x336 = some y156) ?_ ?_)
        ·rintro a w ⟨T0, G339, x336, rfl, hG337, H338, hF⟩
         rcases bcases x336 with hb340 | hb340
         ·replace hF := ifT hF hb340
          refine wc_true (vb hb340) ?_
          refine wp_seq (wc_region ?_)
          refine wl_rn (rn_field fo32_1 rfl) ?_
          refine wl_loadd H338 (i := 0) rfl lTPkt_Id (dInt .u8) ty5 rfl ?_
          refine wl_rn (rn_field fo32_1 rfl) ?_
          refine wl_loadd H338 (i := 2) rfl lTPkt_Id (dInt .u8) ty5 rfl ?_
          refine wl_rn (rn_pure (.bool (x159.Id != a1.Id)) rfl) ?_
          refine wl_nil (then_n ?_)
          rcases bcases (x159.Id != a1.Id) with hb341 | hb341
          ·replace hF := ifT hF hb341
           refine wc_true (vb hb341) ?_
           refine wp_seq (wc_region ?_)
           refine wl_rn (rn_pure (.bool false) rfl) ?_
           refine wl_nil (then_n ?_)
           refine wp_ret ?_
           refine blk_r ?_
           refine then_r ?_
           refine blk_r ?_
           iterate 2 refine then_r ?_
           replace hF := exitS hF hy71
           refine blk_r ?_
           refine then_r ?_
           have hF := Option.some.inj hF
           subst hF
           exact ret_mk rfl (RV.tmp rfl RV.nil) ⟨_, ((((hG12.trans hG42).trans hG53).trans hG154).trans hG337), rfl, (St.pk [] 3 H338 rfl (by decide))⟩
          ·replace hF := ifF hF hb341
           refine wc_false (vb hb341) ?_
           refine wp_skip ?_
           refine blk_n ?_
           refine then_n ?_
           exact ⟨_, _, frame_eq _ ⟨rfl, rfl, rfl, rfl, rfl, rfl, trivial⟩, hG337, H338, hF⟩
         ·replace hF := ifF hF hb340
          refine wc_false (vb hb340) ?_
          refine wp_skip ?_
          refine blk_n ?_
          refine then_n ?_
          exact ⟨_, _, frame_eq _ ⟨rfl, rfl, rfl, rfl, rfl, rfl, trivial⟩, hG337, H338, hF⟩
        ·refine wp_seq (wc_region ?_)
         iterate 2 refine wl_rn (rn_pure (.bool (x159.Code == 6)) rfl) ?_
         refine wl_nil (then_n ?_)
         rcases bcases (x159.Code == 6) with hb342 | hb342
         ·replace hF := ifT hF hb342
          refine wc_true (vb hb342) ?_
          refine wp_skip ?_
          refine then_n ?_
          exact ⟨_, _, (x159.Code == 6), frame_eq _ ⟨rfl, rfl, rfl, rfl, rfl, rfl, rfl, trivial⟩, GLe.refl _, H169, hF⟩
         ·replace hF := ifF hF hb342
          refine wc_false (vb hb342) ?_
          refine wp_seq (wc_region ?_)
          iterate 2 refine wl_rn (rn_pure (.bool (x159.Code == 10)) rfl) ?_
          refine wl_nil (then_n ?_)
          rcases bcases (x159.Code == 10) with hb343 | hb343
          ·replace hF := ifT hF hb343
           refine wc_true (vb hb343) ?_
           refine wp_skip ?_
           refine then_n ?_
           exact ⟨_, _, (x159.Code == 10), frame_eq _ ⟨rfl, rfl, rfl, rfl, rfl, rfl, rfl, trivial⟩, GLe.refl _, H169, hF⟩
          ·replace hF := ifF hF hb343
           refine wc_false (vb hb343) ?_
           refine wp_seq (wc_region ?_)
           iterate 2 refine wl_rn (rn_pure (.bool (x159.Code == 3)) rfl) ?_
           refine wl_nil (then_n ?_)
           rcases bcases (x159.Code == 3) with hb344 | hb344
           ·replace hF := ifT hF hb344
            refine wc_true (vb hb344) ?_
            refine wp_skip ?_
            refine then_n ?_
            exact ⟨_, _, (x159.Code == 3), frame_eq _ ⟨rfl, rfl, rfl, rfl, rfl, rfl, rfl, trivial⟩, GLe.refl _, H169, hF⟩
           ·replace hF := ifF hF hb344
            refine wc_false (vb hb344) ?_
            refine wc_region ?_
            iterate 2 refine wl_rn (rn_pure (.bool (x159.Code == 4)) rfl) ?_
            refine wl_nil (then_n ?_)
            exact ⟨_, _, (x159.Code == 4), frame_eq _ ⟨rfl, rfl, rfl, rfl, rfl, rfl, rfl, trivial⟩, GLe.refl _, H169, hF⟩
    ·replace hF := ifF hF hb158
     refine wc_false (vb hb158) ?_
     refine wp_exit ?_
     iterate 2 refine then_e ?_
     replace hF := exitS hF hy71
     refine blk_e ?_
     refine then_n ?_
     refine wp_seq (wc_region ?_)
     iterate 2 refine wl_rn (rn_pure (.bool r9) rfl) ?_
     rcases bcases r9 with hb345 | hb345
     ·replace hF := ifT hF hb345
      refine wl_yes rfl rfl rfl (vb hb345) ?_
      refine wl_rn (rn_pure (.slice A59 r50.2.1.length c60) rfl) ?_
      refine wl_yes rfl rfl rfl (vb hb345) ?_
      refine wl_rn (rn_len sl35 rfl) ?_
      refine wl_yes rfl rfl rfl (vb hb345) ?_
      refine wl_rn (rn_pure (.bool (decide ((r50.2.1.length : Int) ≤ 2))) rfl) ?_
      refine wl_rn (rn_pickT (.bool (decide ((r50.2.1.length : Int) ≤ 2))) (vb hb345) rfl) ?_
      refine wl_rn (rn_pure (.bool (decide ((r50.2.1.length : Int) ≤ 2))) rfl) ?_
      refine wl_nil (then_n ?_)
      refine wp_ret ?_
      have hF := Option.some.inj hF
      subst hF
      exact ret_mk rfl (RV.tmp rfl RV.nil) ⟨_, (((hG12.trans hG42).trans hG53).trans hG154), rfl, (St.pk [] 2 H155 rfl (by decide))⟩
     ·replace hF := ifF hF hb345
      iterate 3 refine wl_no rfl rfl rfl (vb hb345) ?_
      refine wl_rn (rn_pickF (.bool false) (vb hb345) rfl) ?_
      refine wl_rn (rn_pure (.bool false) rfl) ?_
      refine wl_nil (then_n ?_)
      refine wp_ret ?_
      have hF := Option.some.inj hF
      subst hF
      exact ret_mk rfl (RV.tmp rfl RV.nil) ⟨_, (((hG12.trans hG42).trans hG53).trans hG154), rfl, (St.pk [] 2 H155 rfl (by decide))⟩
 ·refine wc_region ?_
  refine wl_load H13 (i := 1) rfl (Lens.id kTNego) ty29 rfl ?_
  intro v346 hv347
  obtain ⟨r348, hr349, hF⟩ := bindS hF
  refine wl_call (vs := [v346]) en9 rfl (portreeveref14_Small_ok hc hv347 H13 hr349) ?_
  rintro v354 w353 ⟨G350, hG351, rfl, H352⟩
  iterate 2 refine wl_rn (rn_pure (.bool (!r348)) rfl) ?_
  rcases bcases (!r348) with hb355 | hb355
  ·replace hF := ifT hF hb355
   iterate 3 refine wl_no rfl rfl rfl (vb hb355) ?_
   refine wl_rn (rn_pickT (.bool true) (vb hb355) rfl) ?_
   refine wl_rn (rn_pure (.bool true) rfl) ?_
   iterate 4 refine wl_no rfl rfl rfl rfl ?_
   refine wl_rn (rn_pickT (.bool true) rfl rfl) ?_
   refine wl_nil (then_n ?_)
   exact ⟨_, _, true, frame_eq _ ⟨rfl, rfl, rfl, rfl, trivial⟩, hG351, H352, hF⟩
  ·replace hF := ifF hF hb355
   refine wl_yes rfl rfl rfl (vb hb355) ?_
   refine wl_load H352 (i := 1) rfl (Lens.id kTNego) ty29 rfl ?_
   intro v356 hv357
   refine wl_yes rfl rfl rfl (vb hb355) ?_
   obtain ⟨r358, hr359, hF⟩ := bindS hF
   refine wl_call (vs := [v356]) en10 rfl (portreeveref14_Right_ok hc hv357 H352 hr359) ?_
   rintro v364 w363 ⟨G360, hG361, rfl, H362⟩
   refine wl_yes rfl rfl rfl (vb hb355) ?_
   refine wl_rn (rn_pure (.bool (!r358)) rfl) ?_
   refine wl_rn (rn_pickF (.bool (!r358)) (vb hb355) rfl) ?_
   refine wl_rn (rn_pure (.bool (!r358)) rfl) ?_
   rcases bcases (!r358) with hb365 | hb365
   ·replace hF := ifT hF hb365
    iterate 4 refine wl_no rfl rfl rfl (vb hb365) ?_
    refine wl_rn (rn_pickT (.bool true) (vb hb365) rfl) ?_
    refine wl_nil (then_n ?_)
    exact ⟨_, _, true, frame_eq _ ⟨rfl, rfl, rfl, rfl, trivial⟩, (hG351.trans hG361), H362, hF⟩
   ·replace hF := ifF hF hb365
    refine wl_yes rfl rfl rfl (vb hb365) ?_
    refine wl_rn (rn_field fo32_2 rfl) ?_
    refine wl_yes rfl rfl rfl (vb hb365) ?_
    refine wl_load H362 (i := 0) rfl lTPkt_Data ty30 rfl ?_
    intro v366 hv367
    obtain ⟨A368, c369, rfl, hs370⟩ := slice_V hv367
    refine wl_yes rfl rfl rfl (vb hb365) ?_
    refine wl_rn (rn_len sl30 rfl) ?_
    refine wl_yes rfl rfl rfl (vb hb365) ?_
    refine wl_rn (rn_pure (.bool (decide ((a1.Data.length : Int) > 1496))) rfl) ?_
    refine wl_rn (rn_pickF (.bool (decide ((a1.Data.length : Int) > 1496))) (vb hb365) rfl) ?_
    refine wl_nil (then_n ?_)
    exact ⟨_, _, (decide ((a1.Data.length : Int) > 1496)), frame_eq _ ⟨rfl, rfl, rfl, rfl, trivial⟩, (hG351.trans hG361), H362, hF⟩

theorem portreevelaw14_opened_ok {c : World} (hc : Hc c) {G : Ghost} {w : World} {σ : List Ent} {a0 : TNego} {v0_ : Value} (h0_ : kTNego.V G v0_ a0) (H : St c G w (σ)) {r : (TNego × (List TPkt) × (List Int))} (hF : portreevelaw14_opened a0 = some r) :
  Calls Tryd.prog 19 ([v0_] : List Value).toArray w (Ends fun v w' => ∃ (G' : Ghost) (v1' : Value) (A2' : Option Addr) (c3' : Nat) (A4' : Option Addr) (c5' : Nat), GLe G G' ∧ tup [v1', (.slice A2' r.2.1.length c3'), (.slice A4' r.2.2.length c5')] = v ∧ St c G' w' (σ) ∧ kTNego.V G' v1' r.1 ∧ SlR kTPkt G' A2' c3' r.2.1 ∧ SlR kI G' A4' c5' r.2.2) := by
 unfold portreevelaw14_opened at hF
 refine calls_mk Tryd.func19 rfl rfl rfl ?_
 refine wp_seq (wc_region ?_)
 refine wl_box (K := kTNego) (x := a0) H rfl h0_ ?_
 intro b1 w4 H2
 refine wl_alloc H2 zr29 ?_
 intro b5 w8 H6
 iterate 2 refine wl_rn (rn_pure (.slice none 0 0) rfl) ?_
 refine wl_nil (then_n (wp_seq (wc_region ?_)))
 refine wl_load H6 (i := 1) rfl (Lens.id kTNego) ty29 rfl ?_
 intro v9 hv10
 obtain ⟨r11, hr12, hF⟩ := bindS hF
 refine wl_call (vs := [v9, (.int .i64 2)]) en11 rfl (nego_Do_ok hc hv10 H6 hr12) ?_
 rintro v17 w16 ⟨G13, v18, A20, c21, A23, c24, hG14, rfl, H15, hv19, hs22, hs25⟩
 refine wl_rn (rn_pure (.tuple #[v18, (.slice A20 r11.2.1.length c21), (.slice A23 r11.2.2.length c24)]) rfl) ?_
 refine wl_rn (rn_pure v18 rfl) ?_
 refine wl_rn (rn_pure (.slice A20 r11.2.1.length c21) rfl) ?_
 refine wl_rn (rn_pure (.slice A23 r11.2.2.length c24) rfl) ?_
 refine wl_alloc H15 zr29 ?_
 intro b26 w29 H27
 refine wl_store (z := r11.1) H27 (i := 0) rfl (Lens.id kTNego) ty29 rfl rfl hv19 ?_
 intro w31 H30
 refine wl_rn (rn_pure (.slice A20 r11.2.1.length c21) rfl) ?_
 refine wl_rn (rn_pure (.slice A23 r11.2.2.length c24) rfl) ?_
 refine wl_nil (then_n (wp_seq (wc_region ?_)))
 refine wl_load H30 (i := 0) rfl (Lens.id kTNego) ty29 rfl ?_
 intro v32 hv33
 obtain ⟨r34, hr35, hF⟩ := bindS hF
 refine wl_call (vs := [v32, (.int .i64 0)]) en11 rfl (nego_Do_ok hc hv33 H30 hr35) ?_
 rintro v40 w39 ⟨G36, v41, A43, c44, A46, c47, hG37, rfl, H38, hv42, hs45, hs48⟩
 refine wl_rn (rn_pure v41 rfl) ?_
 refine wl_rn (rn_pure (.slice A43 r34.2.1.length c44) rfl) ?_
 refine wl_rn (rn_pure (.slice A46 r34.2.2.length c47) rfl) ?_
 refine wl_store (z := r34.1) H38 (i := 1) rfl (Lens.id kTNego) ty29 rfl rfl hv42 ?_
 intro w50 H49
 refine wl_rn (rn_pure (.slice A43 r34.2.1.length c44) rfl) ?_
 refine wl_rn (rn_pure (.slice A46 r34.2.2.length c47) rfl) ?_
 refine wl_nil (then_n ?_)
 refine wp_ret ?_
 obtain ⟨v51, hv52, hl53⟩ := H49.loadv (i := 1) rfl ty29
 have hF := Option.some.inj hF
 subst hF
 exact ret_mk rfl (RV.cell rfl hl53 (RV.tmp rfl (RV.tmp rfl RV.nil))) ⟨_, v51, A43, c44, A46, c47, (hG14.trans hG37), rfl, (St.pk [] 3 H49 rfl (by decide)), hv52, hs45, hs48⟩

theorem portreeveref10_Drop_ok {c : World} (hc : Hc c) {G : Ghost} {w : World} {σ : List Ent} {a0 : (List TOpt)} {A0_ : Option Addr} {c0_ : Nat} {a1 : Int} (h0_ : SlR kTOpt G A0_ c0_ a0) (H : St c G w (σ)) {r : (List TOpt)} (hF : portreeveref10_Drop a0 a1 = some r) :
  Calls Tryd.prog 20 ([(.slice A0_ a0.length c0_), (.int .u8 a1)] : List Value).toArray w (Ends fun v w' => ∃ (G' : Ghost) (A1' : Option Addr) (c2' : Nat), GLe G G' ∧ tup [(.slice A1' r.length c2')] = v ∧ St c G' w' (σ) ∧ SlR kTOpt G' A1' c2' r) := by
 unfold portreeveref10_Drop at hF
 refine calls_mk Tryd.func20 rfl rfl rfl ?_
 refine wp_seq (wc_region ?_)
 refine wl_rn (rn_pure (.slice none 0 0) rfl) ?_
 refine wl_nil (then_n (wp_seq (wc_region ?_)))
 refine wl_rn (rn_pure (.slice none 0 0) rfl) ?_
 refine wl_nil (then_n ?_)
 refine wp_seq ?_
 refine wp_seq (wc_region ?_)
 refine wl_rn (rn_pure (.int .i64 0) rfl) ?_
 refine wl_nil (then_n ?_)
 refine wp_block ?_
 have H107 := H.nilrow kTOpt none 60
 refine wp_loopX (fun (s : ((List TOpt) × Int)) a w => ∃ (T0 : Fr) (G1 : Ghost) (g41 : Option Nat) (A42 : Option Addr) (c43 : Nat), a = mk 28 (upds T0 [(0, (.slice A0_ a0.length c0_)), (1, (.int .u8 a1)), (5, (.slice A42 s.1.length c43)), (6, (.int .i64 s.2))]) ∧ GLe G G1 ∧ St c G1 w ((.row kTOpt g41 A42 c43 60 s.1) :: σ)) hF ?_ ?_
 ·exact ⟨_, _, none, none, 0, frame_eq _ ⟨rfl, rfl, rfl, rfl, trivial⟩, GLe.refl _, H107⟩
 ·rintro ⟨x40, x45⟩ a w y48 ⟨T0, G49, g41, A42, c43, rfl, hG46, H47⟩ hF hy1
  refine wp_seq ?_
  refine wp_seq (wc_region ?_)
  refine wl_rn (rn_pure (.int .i64 x45) rfl) ?_
  refine wl_rn (rn_pure (.slice A0_ a0.length c0_) rfl) ?_
  refine wl_rn (rn_len sl27 rfl) ?_
  refine wl_rn (rn_pure (.bool (decide (x45 < (a0.length : Int)))) rfl) ?_
  refine wl_nil (then_n ?_)
  rcases bcases (decide (x45 < (a0.length : Int))) with hb50 | hb50
  ·replace hF := ifT hF hb50
   refine wc_true (vb hb50) ?_
   refine wp_skip ?_
   refine then_n ?_
   refine wp_seq (join (fun a w => ∃ (T0 : Fr) (G1 : Ghost) (x73 : (List TOpt)) (g74 : Option Nat) (A75 : Option Addr) (c76 : Nat), a = mk 28 (upds T0 [(0, (.slice A0_ a0.length c0_)), (1, (.int .u8 a1)), (5, (.slice A75 x73.length c76)), (6, (.int .i64 x45))]) ∧ GLe G49 G1 ∧ St c G1 w ((.row kTOpt g74 A75 c76 60 x73) :: σ) ∧ portreeveref10_Drop_j2 x45 x73 = some y48) ?_ ?_)
   ·rintro a w ⟨T0, G80, x73, g74, A75, c76, rfl, hG78, H79, hF⟩
    refine wc_region ?_
    refine wl_rn (rn_pure (.int .i64 x45) rfl) ?_
    iterate 2 refine wl_rn (rn_pure (.int .i64 (IntKind.i64.wrap (x45 + 1))) rfl) ?_
    refine wl_nil (then_n ?_)
    exact ⟨_, (Option.some.inj hF).symm, _, _, g74, A75, c76, frame_eq _ ⟨rfl, rfl, rfl, rfl, trivial⟩, (hG46.trans hG78), H79⟩
   ·refine wp_block ?_
    refine wp_seq (wc_region ?_)
    refine wl_rn (rn_pure (.slice A0_ a0.length c0_) rfl) ?_
    refine wl_rn (rn_pure (.int .i64 x45) rfl) ?_
    obtain ⟨x81, hx82, hF⟩ := bindS hF
    refine wl_rnE (rn_index (h0_.mono hG46) sl27 ty60 rfl rfl hx82) ?_
    intro a83 hp84
    refine wl_rn (rn_fieldp fo60_0 rfl) ?_
    refine wl_loadpd H47 (hp84.lens lTOpt_Typ) (dInt .u8) ty5 rfl ?_
    refine wl_rn (rn_pure (.int .u8 a1) rfl) ?_
    refine wl_rn (rn_pure (.bool (x81.Typ != a1)) rfl) ?_
    refine wl_nil (then_n ?_)
    rcases bcases (x81.Typ != a1) with hb85 | hb85
    ·replace hF := ifT hF hb85
     refine wc_true (vb hb85) ?_
     refine wc_region ?_
     refine wl_rn (rn_pure (.slice A42 x40.length c43) rfl) ?_
     refine wl_rn (rn_pure (.slice A0_ a0.length c0_) rfl) ?_
     refine wl_rn (rn_pure (.int .i64 x45) rfl) ?_
     obtain ⟨x86, hx87, hF⟩ := bindS hF
     refine wl_rnE (rn_index (h0_.mono hG46) sl27 ty60 rfl rfl hx87) ?_
     intro a88 hp89
     refine wl_loadp H47 hp89 ty60 rfl ?_
     intro v90 hv91
     refine wl_lit (K := kTOpt) (vs := [v90]) (xs := ([x86] : (List TOpt))) H47 sl27 el60 rfl ⟨hv91, trivial⟩ rfl (by decide) ?_
     intro g92 w94 H93
     obtain ⟨r96, hr97, hF⟩ := bindS hF
     refine wl_append H93 sl27 el60 (i := 1) rfl rfl rfl ((H93.okAt (i := 0) rfl).src) hr97 ?_
     intro g98 A99 c100 w101 H102
     refine wl_rn (rn_pure (.slice A99 r96.length c100) rfl) ?_
     refine wl_nil (blk_n ?_)
     refine then_n ?_
     exact ⟨_, _, r96, g98, A99, c100, frame_eq _ ⟨rfl, rfl, rfl, rfl, trivial⟩, GLe.refl _, (St.pk [1] 2 H102 rfl (by decide)), hF⟩
    ·replace hF := ifF hF hb85
     refine wc_false (vb hb85) ?_
     refine wp_skip ?_
     refine blk_n ?_
     refine then_n ?_
     exact ⟨_, _, x40, g41, A42, c43, frame_eq _ ⟨rfl, rfl, rfl, rfl, trivial⟩, GLe.refl _, H47, hF⟩
  ·replace hF := ifF hF hb50
   refine wc_false (vb hb50) ?_
   refine wp_exit ?_
   iterate 2 refine then_e ?_
   replace hF := exitS hF hy1
   refine blk_e ?_
   refine then_n ?_
   refine wp_seq (wc_region ?_)
   iterate 2 refine wl_rn (rn_pure (.slice A42 x40.length c43) rfl) ?_
   refine wl_nil (then_n ?_)
   refine wp_ret ?_
   obtain ⟨G103, hG104, H105, hs106⟩ := H47.stay (i := 0) rfl (H47.capA (i := 0) rfl)
   have hF := Option.some.inj hF
   subst hF
   exact ret_mk rfl (RV.tmp rfl RV.nil) ⟨_, A42, c43, (hG46.trans hG104), rfl, H105, hs106⟩
end Go.Proofs.YtadlndnagfnlgaaDoor.W
