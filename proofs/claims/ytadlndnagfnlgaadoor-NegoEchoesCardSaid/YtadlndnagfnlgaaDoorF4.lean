/- Calls come to what the plain functions say: written by a program (gen.py). -/
import Derived.Test.YtadlndnagfnlgaaDoorG
import Derived.Test.YtadlndnagfnlgaaDoorF2
import Derived.Test.YtadlndnagfnlgaaDoorF3
set_option linter.unusedVariables false
set_option maxRecDepth 20000
namespace Go.Proofs.YtadlndnagfnlgaaDoor.W
open Go
set_option maxHeartbeats 4000000
attribute [local irreducible] wpList wpAny Code.wp wpListIn wpAnyIn Code.wpIn
theorem portreeveref12_Right_ok {c : World} (hc : Hc c) {G : Ghost} {w : World} {σ : List Ent} {a0 : TAuto} {v0_ : Value} (h0_ : kTAuto.V G v0_ a0) (H : St c G w (σ)) {r : Bool} (hF : portreeveref12_Right a0 = some r) :
  Calls Tryd.prog 28 ([v0_] : List Value).toArray w (Ends fun v w' => ∃ (G' : Ghost), GLe G G' ∧ tup [(.bool r)] = v ∧ St c G' w' (σ)) := by
 unfold portreeveref12_Right at hF
 refine calls_mk Tryd.func28 rfl rfl rfl ?_
 refine wp_seq (wc_region ?_)
 refine wl_box (K := kTAuto) (x := a0) H rfl h0_ ?_
 intro b1 w4 H2
 refine wl_rn (rn_pure (.bool false) rfl) ?_
 refine wl_nil (then_n ?_)
 refine wp_seq ?_
 refine wp_seq (join (fun a w => ∃ (T0 : Fr) (G1 : Ghost) (x8 : Bool), a = mk 45 (upds T0 [(1, (pt b1)), (21, (.bool x8))]) ∧ GLe G G1 ∧ St c G1 w ((.box b1 23 (kTAuto.at_ a0)) :: σ) ∧ portreeveref12_Right_j1 a0 x8 = some r) ?_ ?_)
 ·rintro a w ⟨T0, G11, x8, rfl, hG9, H10, hF⟩
  rcases bcases x8 with hb12 | hb12
  ·replace hF := ifT hF hb12
   refine wc_true (vb hb12) ?_
   refine wp_seq (wc_region ?_)
   refine wl_rn (rn_pure (.bool false) rfl) ?_
   refine wl_nil (then_n ?_)
   refine wp_ret ?_
   refine then_r ?_
   have hF := Option.some.inj hF
   subst hF
   exact ret_mk rfl (RV.tmp rfl RV.nil) ⟨_, hG9, rfl, (St.pk [] 1 H10 rfl (by decide))⟩
  ·replace hF := ifF hF hb12
   refine wc_false (vb hb12) ?_
   refine wp_skip ?_
   refine then_n ?_
   refine wp_seq (wc_region ?_)
   refine wl_rn (rn_field fo23_0 rfl) ?_
   refine wl_loadd H10 (i := 0) rfl lTAuto_State (dInt .i64) ty3 rfl ?_
   obtain ⟨r13, hr14, hF⟩ := bindS hF
   refine wl_call (vs := [(.int .i64 a0.State)]) en46 rfl (portreeveref11_Timed_ok hc H10 hr14) ?_
   rintro v19 w18 ⟨G15, hG16, rfl, H17⟩
   refine wl_rn (rn_pure (.bool r13) rfl) ?_
   refine wl_nil (then_n (wp_seq (wc_region ?_)))
   iterate 2 refine wl_rn (rn_pure (.bool r13) rfl) ?_
   rcases bcases r13 with hb20 | hb20
   ·replace hF := ifT hF hb20
    refine wl_yes rfl rfl rfl (vb hb20) ?_
    refine wl_rn (rn_field fo23_2 rfl) ?_
    refine wl_yes rfl rfl rfl (vb hb20) ?_
    refine wl_loadd H17 (i := 0) rfl lTAuto_Left (dInt .i64) ty3 rfl ?_
    refine wl_yes rfl rfl rfl (vb hb20) ?_
    refine wl_rn (rn_pure (.bool (decide (a0.Left ≥ 1))) rfl) ?_
    refine wl_rn (rn_pickT (.bool (decide (a0.Left ≥ 1))) (vb hb20) rfl) ?_
    refine wl_rn (rn_pure (.bool (decide (a0.Left ≥ 1))) rfl) ?_
    rcases bcases (decide (a0.Left ≥ 1)) with hb21 | hb21
    ·replace hF := ifT hF hb21
     refine wl_yes rfl rfl rfl (vb hb21) ?_
     refine wl_rn (rn_field fo23_2 rfl) ?_
     refine wl_yes rfl rfl rfl (vb hb21) ?_
     refine wl_loadd H17 (i := 0) rfl lTAuto_Left (dInt .i64) ty3 rfl ?_
     refine wl_yes rfl rfl rfl (vb hb21) ?_
     refine wl_rn (rn_pure (.bool (decide (a0.Left ≤ 3))) rfl) ?_
     refine wl_rn (rn_pickT (.bool (decide (a0.Left ≤ 3))) (vb hb21) rfl) ?_
     refine wl_rn (rn_pure (.bool (decide (a0.Left ≤ 3))) rfl) ?_
     rcases bcases (decide (a0.Left ≤ 3)) with hb22 | hb22
     ·replace hF := ifT hF hb22
      iterate 3 refine wl_no rfl rfl rfl (vb hb22) ?_
      iterate 3 refine wl_nou rfl rfl rfl rfl ?_
      refine wl_no rfl rfl rfl (vb hb22) ?_
      refine wl_rn (rn_pickT (.bool true) (vb hb22) rfl) ?_
      refine wl_rn (rn_pure (.bool true) rfl) ?_
      refine wl_nil (then_n ?_)
      refine wp_ret ?_
      have hF := Option.some.inj hF
      subst hF
      exact ret_mk rfl (RV.tmp rfl RV.nil) ⟨_, (hG9.trans hG16), rfl, (St.pk [] 1 H17 rfl (by decide))⟩
     ·replace hF := ifF hF hb22
      refine wl_yes rfl rfl rfl (vb hb22) ?_
      refine wl_rn (rn_pure (.bool r13) rfl) ?_
      refine wl_yes rfl rfl rfl (vb hb22) ?_
      refine wl_rn (rn_pure (.bool (!r13)) rfl) ?_
      refine wl_yes rfl rfl rfl (vb hb22) ?_
      refine wl_rn (rn_pure (.bool (!r13)) rfl) ?_
      rcases bcases (!r13) with hb23 | hb23
      ·replace hF := ifT hF hb23
       refine wl_yes rfl rfl rfl (vb hb23) ?_
       refine wl_rn (rn_field fo23_2 rfl) ?_
       refine wl_yes rfl rfl rfl (vb hb23) ?_
       refine wl_loadd H17 (i := 0) rfl lTAuto_Left (dInt .i64) ty3 rfl ?_
       refine wl_yes rfl rfl rfl (vb hb23) ?_
       refine wl_rn (rn_pure (.bool (a0.Left == 0)) rfl) ?_
       refine wl_yes rfl rfl rfl (vb hb22) ?_
       refine wl_rn (rn_pickT (.bool (a0.Left == 0)) (vb hb23) rfl) ?_
       refine wl_rn (rn_pickF (.bool (a0.Left == 0)) (vb hb22) rfl) ?_
       refine wl_rn (rn_pure (.bool (a0.Left == 0)) rfl) ?_
       refine wl_nil (then_n ?_)
       refine wp_ret ?_
       have hF := Option.some.inj hF
       subst hF
       exact ret_mk rfl (RV.tmp rfl RV.nil) ⟨_, (hG9.trans hG16), rfl, (St.pk [] 1 H17 rfl (by decide))⟩
      ·replace hF := ifF hF hb23
       iterate 3 refine wl_no rfl rfl rfl (vb hb23) ?_
       refine wl_yes rfl rfl rfl (vb hb22) ?_
       refine wl_rn (rn_pickF (.bool false) (vb hb23) rfl) ?_
       refine wl_rn (rn_pickF (.bool false) (vb hb22) rfl) ?_
       refine wl_rn (rn_pure (.bool false) rfl) ?_
       refine wl_nil (then_n ?_)
       refine wp_ret ?_
       have hF := Option.some.inj hF
       subst hF
       exact ret_mk rfl (RV.tmp rfl RV.nil) ⟨_, (hG9.trans hG16), rfl, (St.pk [] 1 H17 rfl (by decide))⟩
    ·replace hF := ifF hF hb21
     iterate 3 refine wl_no rfl rfl rfl (vb hb21) ?_
     refine wl_rn (rn_pickF (.bool false) (vb hb21) rfl) ?_
     refine wl_rn (rn_pure (.bool false) rfl) ?_
     refine wl_yes rfl rfl rfl rfl ?_
     refine wl_rn (rn_pure (.bool r13) rfl) ?_
     refine wl_yes rfl rfl rfl rfl ?_
     refine wl_rn (rn_pure (.bool (!r13)) rfl) ?_
     refine wl_yes rfl rfl rfl rfl ?_
     refine wl_rn (rn_pure (.bool (!r13)) rfl) ?_
     rcases bcases (!r13) with hb24 | hb24
     ·replace hF := ifT hF hb24
      refine wl_yes rfl rfl rfl (vb hb24) ?_
      refine wl_rn (rn_field fo23_2 rfl) ?_
      refine wl_yes rfl rfl rfl (vb hb24) ?_
      refine wl_loadd H17 (i := 0) rfl lTAuto_Left (dInt .i64) ty3 rfl ?_
      refine wl_yes rfl rfl rfl (vb hb24) ?_
      refine wl_rn (rn_pure (.bool (a0.Left == 0)) rfl) ?_
      refine wl_yes rfl rfl rfl rfl ?_
      refine wl_rn (rn_pickT (.bool (a0.Left == 0)) (vb hb24) rfl) ?_
      refine wl_rn (rn_pickF (.bool (a0.Left == 0)) rfl rfl) ?_
      refine wl_rn (rn_pure (.bool (a0.Left == 0)) rfl) ?_
      refine wl_nil (then_n ?_)
      refine wp_ret ?_
      have hF := Option.some.inj hF
      subst hF
      exact ret_mk rfl (RV.tmp rfl RV.nil) ⟨_, (hG9.trans hG16), rfl, (St.pk [] 1 H17 rfl (by decide))⟩
     ·replace hF := ifF hF hb24
      iterate 3 refine wl_no rfl rfl rfl (vb hb24) ?_
      refine wl_yes rfl rfl rfl rfl ?_
      refine wl_rn (rn_pickF (.bool false) (vb hb24) rfl) ?_
      refine wl_rn (rn_pickF (.bool false) rfl rfl) ?_
      refine wl_rn (rn_pure (.bool false) rfl) ?_
      refine wl_nil (then_n ?_)
      refine wp_ret ?_
      have hF := Option.some.inj hF
      subst hF
      exact ret_mk rfl (RV.tmp rfl RV.nil) ⟨_, (hG9.trans hG16), rfl, (St.pk [] 1 H17 rfl (by decide))⟩
   ·replace hF := ifF hF hb20
    iterate 3 refine wl_no rfl rfl rfl (vb hb20) ?_
    refine wl_rn (rn_pickF (.bool false) (vb hb20) rfl) ?_
    refine wl_rn (rn_pure (.bool false) rfl) ?_
    iterate 3 refine wl_no rfl rfl rfl rfl ?_
    refine wl_rn (rn_pickF (.bool false) rfl rfl) ?_
    refine wl_rn (rn_pure (.bool false) rfl) ?_
    refine wl_yes rfl rfl rfl rfl ?_
    refine wl_rn (rn_pure (.bool r13) rfl) ?_
    refine wl_yes rfl rfl rfl rfl ?_
    refine wl_rn (rn_pure (.bool (!r13)) rfl) ?_
    refine wl_yes rfl rfl rfl rfl ?_
    refine wl_rn (rn_pure (.bool (!r13)) rfl) ?_
    rcases bcases (!r13) with hb25 | hb25
    ·replace hF := ifT hF hb25
     refine wl_yes rfl rfl rfl (vb hb25) ?_
     refine wl_rn (rn_field fo23_2 rfl) ?_
     refine wl_yes rfl rfl rfl (vb hb25) ?_
     refine wl_loadd H17 (i := 0) rfl lTAuto_Left (dInt .i64) ty3 rfl ?_
     refine wl_yes rfl rfl rfl (vb hb25) ?_
     refine wl_rn (rn_pure (.bool (a0.Left == 0)) rfl) ?_
     refine wl_yes rfl rfl rfl rfl ?_
     refine wl_rn (rn_pickT (.bool (a0.Left == 0)) (vb hb25) rfl) ?_
     refine wl_rn (rn_pickF (.bool (a0.Left == 0)) rfl rfl) ?_
     refine wl_rn (rn_pure (.bool (a0.Left == 0)) rfl) ?_
     refine wl_nil (then_n ?_)
     refine wp_ret ?_
     have hF := Option.some.inj hF
     subst hF
     exact ret_mk rfl (RV.tmp rfl RV.nil) ⟨_, (hG9.trans hG16), rfl, (St.pk [] 1 H17 rfl (by decide))⟩
    ·replace hF := ifF hF hb25
     iterate 3 refine wl_no rfl rfl rfl (vb hb25) ?_
     refine wl_yes rfl rfl rfl rfl ?_
     refine wl_rn (rn_pickF (.bool false) (vb hb25) rfl) ?_
     refine wl_rn (rn_pickF (.bool false) rfl rfl) ?_
     refine wl_rn (rn_pure (.bool false) rfl) ?_
     refine wl_nil (then_n ?_)
     refine wp_ret ?_
     have hF := Option.some.inj hF
     subst hF
     exact ret_mk rfl (RV.tmp rfl RV.nil) ⟨_, (hG9.trans hG16), rfl, (St.pk [] 1 H17 rfl (by decide))⟩
 ·refine wc_region ?_
  refine wl_rn (rn_field fo23_0 rfl) ?_
  refine wl_loadd H2 (i := 0) rfl lTAuto_State (dInt .i64) ty3 rfl ?_
  iterate 2 refine wl_rn (rn_pure (.bool (decide (a0.State < 0))) rfl) ?_
  rcases bcases (decide (a0.State < 0)) with hb26 | hb26
  ·replace hF := ifT hF hb26
   iterate 3 refine wl_no rfl rfl rfl (vb hb26) ?_
   refine wl_rn (rn_pickT (.bool true) (vb hb26) rfl) ?_
   refine wl_rn (rn_pure (.bool true) rfl) ?_
   iterate 3 refine wl_no rfl rfl rfl rfl ?_
   refine wl_rn (rn_pickT (.bool true) rfl rfl) ?_
   refine wl_rn (rn_pure (.bool true) rfl) ?_
   iterate 3 refine wl_no rfl rfl rfl rfl ?_
   refine wl_rn (rn_pickT (.bool true) rfl rfl) ?_
   refine wl_nil (then_n ?_)
   exact ⟨_, _, true, frame_eq _ ⟨rfl, rfl, trivial⟩, GLe.refl _, H2, hF⟩
  ·replace hF := ifF hF hb26
   refine wl_yes rfl rfl rfl (vb hb26) ?_
   refine wl_rn (rn_field fo23_0 rfl) ?_
   refine wl_yes rfl rfl rfl (vb hb26) ?_
   refine wl_loadd H2 (i := 0) rfl lTAuto_State (dInt .i64) ty3 rfl ?_
   refine wl_yes rfl rfl rfl (vb hb26) ?_
   refine wl_rn (rn_pure (.bool (decide (a0.State > 9))) rfl) ?_
   refine wl_rn (rn_pickF (.bool (decide (a0.State > 9))) (vb hb26) rfl) ?_
   refine wl_rn (rn_pure (.bool (decide (a0.State > 9))) rfl) ?_
   rcases bcases (decide (a0.State > 9)) with hb27 | hb27
   ·replace hF := ifT hF hb27
    iterate 3 refine wl_no rfl rfl rfl (vb hb27) ?_
    refine wl_rn (rn_pickT (.bool true) (vb hb27) rfl) ?_
    refine wl_rn (rn_pure (.bool true) rfl) ?_
    iterate 3 refine wl_no rfl rfl rfl rfl ?_
    refine wl_rn (rn_pickT (.bool true) rfl rfl) ?_
    refine wl_nil (then_n ?_)
    exact ⟨_, _, true, frame_eq _ ⟨rfl, rfl, trivial⟩, GLe.refl _, H2, hF⟩
   ·replace hF := ifF hF hb27
    refine wl_yes rfl rfl rfl (vb hb27) ?_
    refine wl_rn (rn_field fo23_1 rfl) ?_
    refine wl_yes rfl rfl rfl (vb hb27) ?_
    refine wl_loadd H2 (i := 0) rfl lTAuto_Count (dInt .i64) ty3 rfl ?_
    refine wl_yes rfl rfl rfl (vb hb27) ?_
    refine wl_rn (rn_pure (.bool (decide (a0.Count < 0))) rfl) ?_
    refine wl_rn (rn_pickF (.bool (decide (a0.Count < 0))) (vb hb27) rfl) ?_
    refine wl_rn (rn_pure (.bool (decide (a0.Count < 0))) rfl) ?_
    rcases bcases (decide (a0.Count < 0)) with hb28 | hb28
    ·replace hF := ifT hF hb28
     iterate 3 refine wl_no rfl rfl rfl (vb hb28) ?_
     refine wl_rn (rn_pickT (.bool true) (vb hb28) rfl) ?_
     refine wl_nil (then_n ?_)
     exact ⟨_, _, true, frame_eq _ ⟨rfl, rfl, trivial⟩, GLe.refl _, H2, hF⟩
    ·replace hF := ifF hF hb28
     refine wl_yes rfl rfl rfl (vb hb28) ?_
     refine wl_rn (rn_field fo23_1 rfl) ?_
     refine wl_yes rfl rfl rfl (vb hb28) ?_
     refine wl_loadd H2 (i := 0) rfl lTAuto_Count (dInt .i64) ty3 rfl ?_
     refine wl_yes rfl rfl rfl (vb hb28) ?_
     refine wl_rn (rn_pure (.bool (decide (a0.Count > 5))) rfl) ?_
     refine wl_rn (rn_pickF (.bool (decide (a0.Count > 5))) (vb hb28) rfl) ?_
     refine wl_nil (then_n ?_)
     exact ⟨_, _, (decide (a0.Count > 5)), frame_eq _ ⟨rfl, rfl, trivial⟩, GLe.refl _, H2, hF⟩

theorem portreeveref10_Bytes_ok {c : World} (hc : Hc c) {G : Ghost} {w : World} {σ : List Ent} {a0 : (List TOpt)} {A0_ : Option Addr} {c0_ : Nat} (h0_ : SlR kTOpt G A0_ c0_ a0) (H : St c G w (σ)) {r : ((List Int) × Int)} (hF : portreeveref10_Bytes a0 = some r) :
  Calls Tryd.prog 29 ([(.slice A0_ a0.length c0_)] : List Value).toArray w (Ends fun v w' => ∃ (G' : Ghost) (A1' : Option Addr) (c2' : Nat), GLe G G' ∧ tup [(.slice A1' r.1.length c2'), (.int .i64 r.2)] = v ∧ St c G' w' (σ) ∧ SlR kB G' A1' c2' r.1) := by
 unfold portreeveref10_Bytes at hF
 refine calls_mk Tryd.func29 rfl rfl rfl ?_
 refine wp_seq (wc_region ?_)
 refine wl_rn (rn_pure (.slice none 0 0) rfl) ?_
 refine wl_rn (rn_pure (.int .i64 0) rfl) ?_
 refine wl_nil (then_n (wp_seq (wc_region ?_)))
 refine wl_rn (rn_pure (.slice none 0 0) rfl) ?_
 refine wl_nil (then_n ?_)
 refine wp_seq ?_
 refine wp_seq (wc_region ?_)
 refine wl_rn (rn_pure (.int .i64 0) rfl) ?_
 refine wl_nil (then_n ?_)
 refine wp_block ?_
 have H230 := H.nilrow kB none 5
 refine wp_loopX (fun (s : ((List Int) × Int)) a w => ∃ (T0 : Fr) (G1 : Ghost) (g89 : Option Nat) (A90 : Option Addr) (c91 : Nat), a = mk 46 (upds T0 [(0, (.slice A0_ a0.length c0_)), (4, (.slice A90 s.1.length c91)), (5, (.int .i64 s.2))]) ∧ GLe G G1 ∧ St c G1 w ((.row kB g89 A90 c91 5 s.1) :: σ)) hF ?_ ?_
 ·exact ⟨_, _, none, none, 0, frame_eq _ ⟨rfl, rfl, rfl, trivial⟩, GLe.refl _, H230⟩
 ·rintro ⟨x88, x93⟩ a w y96 ⟨T0, G97, g89, A90, c91, rfl, hG94, H95⟩ hF hy1
  refine wp_seq ?_
  refine wp_seq (wc_region ?_)
  refine wl_rn (rn_pure (.int .i64 x93) rfl) ?_
  refine wl_rn (rn_pure (.slice A0_ a0.length c0_) rfl) ?_
  refine wl_rn (rn_len sl27 rfl) ?_
  refine wl_rn (rn_pure (.bool (decide (x93 < (a0.length : Int)))) rfl) ?_
  refine wl_nil (then_n ?_)
  rcases bcases (decide (x93 < (a0.length : Int))) with hb98 | hb98
  ·replace hF := ifT hF hb98
   refine wc_true (vb hb98) ?_
   refine wp_skip ?_
   refine then_n ?_
   refine wp_seq ?_
   refine wp_block ?_
   refine wp_seq ?_
   refine wp_seq (wc_region ?_)
   refine wl_rn (rn_pure (.slice A0_ a0.length c0_) rfl) ?_
   refine wl_rn (rn_pure (.int .i64 x93) rfl) ?_
   obtain ⟨x99, hx100, hF⟩ := bindS hF
   refine wl_rnE (rn_index (h0_.mono hG94) sl27 ty60 rfl rfl hx100) ?_
   intro a101 hp102
   refine wl_rn (rn_fieldp fo60_1 rfl) ?_
   refine wl_loadp H95 (hp102.lens lTOpt_Data) ty30 rfl ?_
   intro v103 hv104
   obtain ⟨A105, c106, rfl, hs107⟩ := slice_V hv104
   refine wl_rn (rn_len sl30 rfl) ?_
   refine wl_rn (rn_pure (.bool (decide ((x99.Data.length : Int) > 253))) rfl) ?_
   refine wl_nil (then_n ?_)
   rcases bcases (decide ((x99.Data.length : Int) > 253)) with hb108 | hb108
   ·replace hF := ifT hF hb108
    refine wc_true (vb hb108) ?_
    refine wp_seq (wc_region ?_)
    refine wl_rn (rn_pure (.slice none 0 0) rfl) ?_
    refine wl_rn (rn_pure (.int .i64 1) rfl) ?_
    refine wl_nil (then_n ?_)
    refine wp_ret ?_
    refine then_r ?_
    refine blk_r ?_
    iterate 2 refine then_r ?_
    replace hF := exitS hF hy1
    refine blk_r ?_
    refine then_r ?_
    have hF := Option.some.inj hF
    subst hF
    exact ret_mk rfl (RV.tmp rfl (RV.tmp rfl RV.nil)) ⟨_, none, 0, hG94, rfl, (St.pk [] 1 H95 rfl (by decide)), (SlR.nil _ _)⟩
   ·replace hF := ifF hF hb108
    refine wc_false (vb hb108) ?_
    refine wp_skip ?_
    refine then_n ?_
    refine wp_seq ?_
    refine wc_anyS (f := 17) H95 mixed ?_
    intro w133 H134
    refine any_pf (by repeat (first | exact PF.base | apply PF.then_ | apply PF.blk)) ?_
    intro hPF hns
    obtain ⟨x135, hx136, hF⟩ := bindS hF
    obtain ⟨x139, hx140, hF⟩ := bindS hF
    obtain ⟨r152, hr153, hF⟩ := bindS hF
    refine any_memo (fuel := 3) (m := 16383) (fun a w => ∃ (T0 : Fr) (G1 : Ghost), a = mk 46 (upds T0 [(0, (.slice A0_ a0.length c0_)), (5, (.int .i64 x93)), (19, (.slice A90 x88.length c91)), (24, (.int .u8 x135.Typ)), (32, (.int .u8 (IntKind.u8.wrap ((IntKind.i64.wrap (2 + (x139.Data.length : Int)))))))]) ∧ GLe G97 G1 ∧ St c G1 w ((.row kB g89 A90 c91 5 x88) :: σ)) ?_ ?_
    ·rintro a w ⟨T0, G176, rfl, hG174, H175⟩
     refine any_alls [14] ⟨any_ops (m' := 32767) fun Q' hN => ?_, trivial⟩
     refine wl_lit (K := kB) (vs := [(.int .u8 x135.Typ), (.int .u8 (IntKind.u8.wrap ((IntKind.i64.wrap (2 + (x139.Data.length : Int))))))]) (xs := ([x135.Typ, (IntKind.u8.wrap ((IntKind.i64.wrap (2 + (x139.Data.length : Int)))))] : (List Int))) H175 sl30 el5 rfl ⟨((dInt .u8).toV _ _), ((dInt .u8).toV _ _), trivial⟩ rfl (by decide) ?_
     intro g186 w188 H187
     refine wl_nil (hN _ _ ?_)
     refine any_alls [15] ⟨any_ops (m' := 65535) fun Q' hN => ?_, trivial⟩
     refine wl_append H187 sl30 el5 (i := 1) rfl rfl rfl ((H187.okAt (i := 0) rfl).src) hr153 ?_
     intro g190 A191 c192 w193 H194
     refine wl_nil (hN _ _ ?_)
     refine any_rn (i := 16) (m' := 131071) rfl (rn_pure (.slice A191 r152.length c192) rfl) hPF hns ?_
     refine any_end ?_
     refine then_n ?_
     refine wc_region ?_
     refine wl_rn (rn_pure (.slice A191 r152.length c192) rfl) ?_
     refine wl_rn (rn_pure (.slice A0_ a0.length c0_) rfl) ?_
     refine wl_rn (rn_pure (.int .i64 x93) rfl) ?_
     obtain ⟨x195, hx196, hF⟩ := bindS hF
     refine wl_rnE (rn_index (h0_.mono (hG94.trans hG174)) sl27 ty60 rfl rfl hx196) ?_
     intro a197 hp198
     refine wl_rn (rn_fieldp fo60_1 rfl) ?_
     refine wl_loadp H194 (hp198.lens lTOpt_Data) ty30 rfl ?_
     intro v199 hv200
     obtain ⟨A201, c202, rfl, hs203⟩ := slice_V hv200
     obtain ⟨r204, hr205, hF⟩ := bindS hF
     refine wl_append H194 sl30 el5 (i := 1) rfl rfl rfl (hs203.src H194.ag) hr205 ?_
     intro g206 A207 c208 w209 H210
     refine wl_rn (rn_pure (.slice A207 r204.length c208) rfl) ?_
     refine wl_nil (blk_n ?_)
     refine then_n ?_
     refine wc_region ?_
     refine wl_rn (rn_pure (.int .i64 x93) rfl) ?_
     iterate 2 refine wl_rn (rn_pure (.int .i64 (IntKind.i64.wrap (x93 + 1))) rfl) ?_
     refine wl_nil (then_n ?_)
     exact ⟨_, (Option.some.inj hF).symm, _, _, g206, A207, c208, frame_eq _ ⟨rfl, rfl, rfl, trivial⟩, (hG94.trans hG174), (St.pk [1] 2 H210 rfl (by decide))⟩
    intro hM173
    refine any_rn (i := 0) (m' := 1) rfl (rn_pure (.slice A90 x88.length c91) rfl) hPF hns ?_
    refine any_rn (i := 1) (m' := 3) rfl (rn_pure (.slice A0_ a0.length c0_) rfl) hPF hns ?_
    refine any_rn (i := 2) (m' := 7) rfl (rn_pure (.int .i64 x93) rfl) hPF hns ?_
    refine any_rnE (i := 3) (m' := 15) rfl (rn_index (h0_.mono hG94) sl27 ty60 rfl rfl hx136) hPF hns ?_
    intro a211 hp212
    refine any_rn (i := 4) (m' := 31) rfl (rn_fieldp fo60_0 rfl) hPF hns ?_
    refine any_rn (i := 6) (m' := 95) rfl (rn_pure (.slice A0_ a0.length c0_) rfl) hPF hns ?_
    refine any_rn (i := 7) (m' := 223) rfl (rn_pure (.int .i64 x93) rfl) hPF hns ?_
    refine any_rnE (i := 8) (m' := 479) rfl (rn_index (h0_.mono hG94) sl27 ty60 rfl rfl hx140) hPF hns ?_
    intro a213 hp214
    refine any_rn (i := 9) (m' := 991) rfl (rn_fieldp fo60_1 rfl) hPF hns ?_
    refine any_alls [5, 10] ⟨?_, ?_, trivial⟩
    ·refine any_ops (m' := 1023) fun Q' hN => ?_
     refine wl_loadpd H134 (hp212.lens lTOpt_Typ) (dInt .u8) ty5 rfl ?_
     refine wl_nil (hN _ _ ?_)
     refine any_alls [10] ⟨any_ops (m' := 2047) fun Q' hN => ?_, trivial⟩
     refine wl_loadp H134 (hp214.lens lTOpt_Data) ty30 rfl ?_
     intro v215 hv216
     obtain ⟨A217, c218, rfl, hs219⟩ := slice_V hv216
     refine wl_nil (hN _ _ ?_)
     refine any_rn (i := 11) (m' := 4095) rfl (rn_len sl30 rfl) hPF hns ?_
     refine any_rn (i := 12) (m' := 8191) rfl (rn_pure (.int .i64 (IntKind.i64.wrap (2 + (x139.Data.length : Int)))) rfl) hPF hns ?_
     refine any_rn (i := 13) (m' := 16383) rfl (rn_convert un3 un5 rfl) hPF hns ?_
     exact hM173 _ _ ⟨_, _, frame_eq _ ⟨rfl, rfl, rfl, rfl, rfl, trivial⟩, GLe.refl _, H134⟩
    ·refine any_ops (m' := 2015) fun Q' hN => ?_
     refine wl_loadp H134 (hp214.lens lTOpt_Data) ty30 rfl ?_
     intro v220 hv221
     obtain ⟨A222, c223, rfl, hs224⟩ := slice_V hv221
     refine wl_nil (hN _ _ ?_)
     refine any_rn (i := 11) (m' := 4063) rfl (rn_len sl30 rfl) hPF hns ?_
     refine any_rn (i := 12) (m' := 8159) rfl (rn_pure (.int .i64 (IntKind.i64.wrap (2 + (x139.Data.length : Int)))) rfl) hPF hns ?_
     refine any_rn (i := 13) (m' := 16351) rfl (rn_convert un3 un5 rfl) hPF hns ?_
     refine any_alls [5] ⟨any_ops (m' := 16383) fun Q' hN => ?_, trivial⟩
     refine wl_loadpd H134 (hp212.lens lTOpt_Typ) (dInt .u8) ty5 rfl ?_
     refine wl_nil (hN _ _ ?_)
     exact hM173 _ _ ⟨_, _, frame_eq _ ⟨rfl, rfl, rfl, rfl, rfl, trivial⟩, GLe.refl _, H134⟩
  ·replace hF := ifF hF hb98
   refine wc_false (vb hb98) ?_
   refine wp_exit ?_
   iterate 2 refine then_e ?_
   replace hF := exitS hF hy1
   refine blk_e ?_
   refine then_n ?_
   refine wp_seq ?_
   refine wp_seq (wc_region ?_)
   refine wl_rn (rn_pure (.slice A90 x88.length c91) rfl) ?_
   refine wl_rn (rn_len sl30 rfl) ?_
   refine wl_rn (rn_pure (.bool (decide ((x88.length : Int) > 1496))) rfl) ?_
   refine wl_nil (then_n ?_)
   rcases bcases (decide ((x88.length : Int) > 1496)) with hb225 | hb225
   ·replace hF := ifT hF hb225
    refine wc_true (vb hb225) ?_
    refine wp_seq (wc_region ?_)
    refine wl_rn (rn_pure (.slice none 0 0) rfl) ?_
    refine wl_rn (rn_pure (.int .i64 1) rfl) ?_
    refine wl_nil (then_n ?_)
    refine wp_ret ?_
    refine then_r ?_
    have hF := Option.some.inj hF
    subst hF
    exact ret_mk rfl (RV.tmp rfl (RV.tmp rfl RV.nil)) ⟨_, none, 0, hG94, rfl, (St.pk [] 1 H95 rfl (by decide)), (SlR.nil _ _)⟩
   ·replace hF := ifF hF hb225
    refine wc_false (vb hb225) ?_
    refine wp_skip ?_
    refine then_n ?_
    refine wp_seq (wc_region ?_)
    iterate 2 refine wl_rn (rn_pure (.slice A90 x88.length c91) rfl) ?_
    refine wl_rn (rn_pure (.int .i64 0) rfl) ?_
    refine wl_nil (then_n ?_)
    refine wp_ret ?_
    obtain ⟨G226, hG227, H228, hs229⟩ := H95.stay (i := 0) rfl (H95.capA (i := 0) rfl)
    have hF := Option.some.inj hF
    subst hF
    exact ret_mk rfl (RV.tmp rfl (RV.tmp rfl RV.nil)) ⟨_, A90, c91, (hG94.trans hG227), rfl, H228, hs229⟩

theorem portreeveref14_Right_ok {c : World} (hc : Hc c) {G : Ghost} {w : World} {σ : List Ent} {a0 : TNego} {v0_ : Value} (h0_ : kTNego.V G v0_ a0) (H : St c G w (σ)) {r : Bool} (hF : portreeveref14_Right a0 = some r) :
  Calls Tryd.prog 10 ([v0_] : List Value).toArray w (Ends fun v w' => ∃ (G' : Ghost), GLe G G' ∧ tup [(.bool r)] = v ∧ St c G' w' (σ)) := by
 unfold portreeveref14_Right at hF
 refine calls_mk Tryd.func10 rfl rfl rfl ?_
 refine wp_seq (wc_region ?_)
 refine wl_box (K := kTNego) (x := a0) H rfl h0_ ?_
 intro b1 w4 H2
 refine wl_rn (rn_pure (.bool false) rfl) ?_
 refine wl_nil (then_n (wp_seq (wc_region ?_)))
 refine wl_rn (rn_field fo29_0 rfl) ?_
 refine wl_load H2 (i := 0) rfl lTNego_A ty23 rfl ?_
 intro v5 hv6
 obtain ⟨r7, hr8, hF⟩ := bindS hF
 refine wl_call (vs := [v5]) en28 rfl (portreeveref12_Right_ok hc hv6 H2 hr8) ?_
 rintro v13 w12 ⟨G9, hG10, rfl, H11⟩
 refine wl_rn (rn_pure (.bool r7) rfl) ?_
 refine wl_nil (then_n (wp_seq (wc_region ?_)))
 refine wl_rn (rn_field fo29_2 rfl) ?_
 refine wl_load H11 (i := 0) rfl lTNego_Ours ty27 rfl ?_
 intro v14 hv15
 obtain ⟨A16, c17, rfl, hs18⟩ := slice_V hv15
 obtain ⟨r19, hr20, hF⟩ := bindS hF
 refine wl_call (vs := [(.slice A16 a0.Ours.length c17)]) en29 rfl (portreeveref10_Bytes_ok hc hs18 H11 hr20) ?_
 rintro v25 w24 ⟨G21, A26, c27, hG22, rfl, H23, hs28⟩
 refine wl_rn (rn_pure (.tuple #[(.slice A26 r19.1.length c27), (.int .i64 r19.2)]) rfl) ?_
 refine wl_rn (rn_pure (.slice A26 r19.1.length c27) rfl) ?_
 refine wl_rn (rn_pure (.int .i64 r19.2) rfl) ?_
 refine wl_rn (rn_pure (.slice A26 r19.1.length c27) rfl) ?_
 refine wl_rn (rn_pure (.int .i64 r19.2) rfl) ?_
 refine wl_nil (then_n ?_)
 refine wp_seq ?_
 refine wp_seq (wc_region ?_)
 refine wl_rn (rn_pure (.int .i64 0) rfl) ?_
 refine wl_nil (then_n ?_)
 refine wp_block ?_
 refine wp_loopX (fun (s : Int) a w => ∃ (T0 : Fr) (G1 : Ghost), a = mk 55 (upds T0 [(1, (pt b1)), (3, (.bool r7)), (5, (.int .i64 r19.2)), (6, (.int .i64 s))]) ∧ GLe G21 G1 ∧ St c G1 w ((.box b1 29 (kTNego.at_ a0)) :: σ)) hF ?_ ?_
 ·exact ⟨_, _, frame_eq _ ⟨rfl, rfl, rfl, rfl, trivial⟩, GLe.refl _, H23⟩
 ·rintro x66 a w y69 ⟨T0, G70, rfl, hG67, H68⟩ hF hy29
  refine wp_seq ?_
  refine wp_seq (wc_region ?_)
  refine wl_rn (rn_pure (.int .i64 x66) rfl) ?_
  refine wl_rn (rn_field fo29_2 rfl) ?_
  refine wl_load H68 (i := 0) rfl lTNego_Ours ty27 rfl ?_
  intro v71 hv72
  obtain ⟨A73, c74, rfl, hs75⟩ := slice_V hv72
  refine wl_rn (rn_len sl27 rfl) ?_
  refine wl_rn (rn_pure (.bool (decide (x66 < (a0.Ours.length : Int)))) rfl) ?_
  refine wl_nil (then_n ?_)
  rcases bcases (decide (x66 < (a0.Ours.length : Int))) with hb76 | hb76
  ·replace hF := ifT hF hb76
   refine wc_true (vb hb76) ?_
   refine wp_skip ?_
   refine then_n ?_
   refine wp_seq ?_
   refine wp_block ?_
   refine wp_seq (join (fun a w => ∃ (T0 : Fr) (G1 : Ghost) (x101 : Bool), a = mk 55 (upds T0 [(1, (pt b1)), (3, (.bool r7)), (5, (.int .i64 r19.2)), (6, (.int .i64 x66)), (39, (.bool x101))]) ∧ GLe G70 G1 ∧ St c G1 w ((.box b1 29 (kTNego.at_ a0)) :: σ) ∧ portreeveref14_Right_j2 x66 x101 = some y69) ?_ ?_)
   ·rintro a w ⟨T0, G104, x101, rfl, hG102, H103, hF⟩
    rcases bcases x101 with hb105 | hb105
    ·replace hF := ifT hF hb105
     refine wc_true (vb hb105) ?_
     refine wp_seq (wc_region ?_)
     refine wl_rn (rn_pure (.bool false) rfl) ?_
     refine wl_nil (then_n ?_)
     refine wp_ret ?_
     refine blk_r ?_
     iterate 2 refine then_r ?_
     replace hF := exitS hF hy29
     refine blk_r ?_
     refine then_r ?_
     have hF := Option.some.inj hF
     subst hF
     exact ret_mk rfl (RV.tmp rfl RV.nil) ⟨_, (((hG10.trans hG22).trans hG67).trans hG102), rfl, (St.pk [] 1 H103 rfl (by decide))⟩
    ·replace hF := ifF hF hb105
     refine wc_false (vb hb105) ?_
     refine wp_skip ?_
     refine blk_n ?_
     refine then_n ?_
     refine wc_region ?_
     refine wl_rn (rn_pure (.int .i64 x66) rfl) ?_
     iterate 2 refine wl_rn (rn_pure (.int .i64 (IntKind.i64.wrap (x66 + 1))) rfl) ?_
     refine wl_nil (then_n ?_)
     exact ⟨_, (Option.some.inj hF).symm, _, _, frame_eq _ ⟨rfl, rfl, rfl, rfl, trivial⟩, (hG67.trans hG102), H103⟩
   ·refine wc_region ?_
    refine wl_rn (rn_field fo29_2 rfl) ?_
    refine wl_load H68 (i := 0) rfl lTNego_Ours ty27 rfl ?_
    intro v106 hv107
    obtain ⟨A108, c109, rfl, hs110⟩ := slice_V hv107
    refine wl_rn (rn_pure (.int .i64 x66) rfl) ?_
    obtain ⟨x111, hx112, hF⟩ := bindS hF
    refine wl_rnE (rn_index hs110 sl27 ty60 rfl rfl hx112) ?_
    intro a113 hp114
    refine wl_rn (rn_fieldp fo60_0 rfl) ?_
    refine wl_loadpd H68 (hp114.lens lTOpt_Typ) (dInt .u8) ty5 rfl ?_
    iterate 2 refine wl_rn (rn_pure (.bool (x111.Typ == 5)) rfl) ?_
    rcases bcases (x111.Typ == 5) with hb115 | hb115
    ·replace hF := ifT hF hb115
     refine wl_yes rfl rfl rfl (vb hb115) ?_
     refine wl_rn (rn_field fo29_2 rfl) ?_
     refine wl_yes rfl rfl rfl (vb hb115) ?_
     refine wl_load H68 (i := 0) rfl lTNego_Ours ty27 rfl ?_
     intro v116 hv117
     obtain ⟨A118, c119, rfl, hs120⟩ := slice_V hv117
     refine wl_yes rfl rfl rfl (vb hb115) ?_
     refine wl_rn (rn_pure (.int .i64 x66) rfl) ?_
     refine wl_yes rfl rfl rfl (vb hb115) ?_
     obtain ⟨x121, hx122, hF⟩ := bindS hF
     refine wl_rnE (rn_index hs120 sl27 ty60 rfl rfl hx122) ?_
     intro a123 hp124
     refine wl_yes rfl rfl rfl (vb hb115) ?_
     refine wl_rn (rn_fieldp fo60_1 rfl) ?_
     refine wl_yes rfl rfl rfl (vb hb115) ?_
     refine wl_loadp H68 (hp124.lens lTOpt_Data) ty30 rfl ?_
     intro v125 hv126
     obtain ⟨A127, c128, rfl, hs129⟩ := slice_V hv126
     refine wl_yes rfl rfl rfl (vb hb115) ?_
     refine wl_rn (rn_len sl30 rfl) ?_
     refine wl_yes rfl rfl rfl (vb hb115) ?_
     refine wl_rn (rn_pure (.bool ((x121.Data.length : Int) != 4)) rfl) ?_
     refine wl_rn (rn_pickT (.bool ((x121.Data.length : Int) != 4)) (vb hb115) rfl) ?_
     refine wl_nil (then_n ?_)
     exact ⟨_, _, ((x121.Data.length : Int) != 4), frame_eq _ ⟨rfl, rfl, rfl, rfl, rfl, trivial⟩, GLe.refl _, H68, hF⟩
    ·replace hF := ifF hF hb115
     iterate 8 refine wl_no rfl rfl rfl (vb hb115) ?_
     refine wl_rn (rn_pickF (.bool false) (vb hb115) rfl) ?_
     refine wl_nil (then_n ?_)
     exact ⟨_, _, false, frame_eq _ ⟨rfl, rfl, rfl, rfl, rfl, trivial⟩, GLe.refl _, H68, hF⟩
  ·replace hF := ifF hF hb76
   refine wc_false (vb hb76) ?_
   refine wp_exit ?_
   iterate 2 refine then_e ?_
   replace hF := exitS hF hy29
   refine blk_e ?_
   refine then_n ?_
   refine wp_seq (wc_region ?_)
   iterate 2 refine wl_rn (rn_pure (.bool r7) rfl) ?_
   rcases bcases r7 with hb130 | hb130
   ·replace hF := ifT hF hb130
    refine wl_yes rfl rfl rfl (vb hb130) ?_
    refine wl_rn (rn_field fo29_3 rfl) ?_
    refine wl_yes rfl rfl rfl (vb hb130) ?_
    refine wl_loadd H68 (i := 0) rfl lTNego_Naks (dInt .i64) ty3 rfl ?_
    refine wl_yes rfl rfl rfl (vb hb130) ?_
    refine wl_rn (rn_pure (.bool (decide (a0.Naks ≥ 0))) rfl) ?_
    refine wl_rn (rn_pickT (.bool (decide (a0.Naks ≥ 0))) (vb hb130) rfl) ?_
    refine wl_rn (rn_pure (.bool (decide (a0.Naks ≥ 0))) rfl) ?_
    rcases bcases (decide (a0.Naks ≥ 0)) with hb131 | hb131
    ·replace hF := ifT hF hb131
     refine wl_yes rfl rfl rfl (vb hb131) ?_
     refine wl_rn (rn_field fo29_3 rfl) ?_
     refine wl_yes rfl rfl rfl (vb hb131) ?_
     refine wl_loadd H68 (i := 0) rfl lTNego_Naks (dInt .i64) ty3 rfl ?_
     refine wl_yes rfl rfl rfl (vb hb131) ?_
     refine wl_rn (rn_pure (.bool (decide (a0.Naks ≤ 3))) rfl) ?_
     refine wl_rn (rn_pickT (.bool (decide (a0.Naks ≤ 3))) (vb hb131) rfl) ?_
     refine wl_rn (rn_pure (.bool (decide (a0.Naks ≤ 3))) rfl) ?_
     rcases bcases (decide (a0.Naks ≤ 3)) with hb132 | hb132
     ·replace hF := ifT hF hb132
      refine wl_yes rfl rfl rfl (vb hb132) ?_
      refine wl_rn (rn_pure (.int .i64 r19.2) rfl) ?_
      refine wl_yes rfl rfl rfl (vb hb132) ?_
      refine wl_rn (rn_pure (.bool (r19.2 == 0)) rfl) ?_
      refine wl_rn (rn_pickT (.bool (r19.2 == 0)) (vb hb132) rfl) ?_
      refine wl_rn (rn_pure (.bool (r19.2 == 0)) rfl) ?_
      refine wl_nil (then_n ?_)
      refine wp_ret ?_
      have hF := Option.some.inj hF
      subst hF
      exact ret_mk rfl (RV.tmp rfl RV.nil) ⟨_, ((hG10.trans hG22).trans hG67), rfl, (St.pk [] 1 H68 rfl (by decide))⟩
     ·replace hF := ifF hF hb132
      iterate 2 refine wl_no rfl rfl rfl (vb hb132) ?_
      refine wl_rn (rn_pickF (.bool false) (vb hb132) rfl) ?_
      refine wl_rn (rn_pure (.bool false) rfl) ?_
      refine wl_nil (then_n ?_)
      refine wp_ret ?_
      have hF := Option.some.inj hF
      subst hF
      exact ret_mk rfl (RV.tmp rfl RV.nil) ⟨_, ((hG10.trans hG22).trans hG67), rfl, (St.pk [] 1 H68 rfl (by decide))⟩
    ·replace hF := ifF hF hb131
     iterate 3 refine wl_no rfl rfl rfl (vb hb131) ?_
     refine wl_rn (rn_pickF (.bool false) (vb hb131) rfl) ?_
     refine wl_rn (rn_pure (.bool false) rfl) ?_
     iterate 2 refine wl_no rfl rfl rfl rfl ?_
     refine wl_rn (rn_pickF (.bool false) rfl rfl) ?_
     refine wl_rn (rn_pure (.bool false) rfl) ?_
     refine wl_nil (then_n ?_)
     refine wp_ret ?_
     have hF := Option.some.inj hF
     subst hF
     exact ret_mk rfl (RV.tmp rfl RV.nil) ⟨_, ((hG10.trans hG22).trans hG67), rfl, (St.pk [] 1 H68 rfl (by decide))⟩
   ·replace hF := ifF hF hb130
    iterate 3 refine wl_no rfl rfl rfl (vb hb130) ?_
    refine wl_rn (rn_pickF (.bool false) (vb hb130) rfl) ?_
    refine wl_rn (rn_pure (.bool false) rfl) ?_
    iterate 3 refine wl_no rfl rfl rfl rfl ?_
    refine wl_rn (rn_pickF (.bool false) rfl rfl) ?_
    refine wl_rn (rn_pure (.bool false) rfl) ?_
    iterate 2 refine wl_no rfl rfl rfl rfl ?_
    refine wl_rn (rn_pickF (.bool false) rfl rfl) ?_
    refine wl_rn (rn_pure (.bool false) rfl) ?_
    refine wl_nil (then_n ?_)
    refine wp_ret ?_
    have hF := Option.some.inj hF
    subst hF
    exact ret_mk rfl (RV.tmp rfl RV.nil) ⟨_, ((hG10.trans hG22).trans hG67), rfl, (St.pk [] 1 H68 rfl (by decide))⟩

theorem portreeveref01_Row_ok {c : World} (hc : Hc c) {G : Ghost} {w : World} {σ : List Ent} {a0 : (List Int)} {A0_ : Option Addr} {c0_ : Nat} {a1 : (List Int)} {A1_ : Option Addr} {c1_ : Nat} (h0_ : SlR kB G A0_ c0_ a0) (h1_ : SlR kB G A1_ c1_ a1) (H : St c G w (σ)) {r : Bool} (hF : portreeveref01_Row a0 a1 = some r) :
  Calls Tryd.prog 15 ([(.slice A0_ a0.length c0_), (.slice A1_ a1.length c1_)] : List Value).toArray w (Ends fun v w' => ∃ (G' : Ghost), GLe G G' ∧ tup [(.bool r)] = v ∧ St c G' w' (σ)) := by
 unfold portreeveref01_Row at hF
 refine calls_mk Tryd.func15 rfl rfl rfl ?_
 refine wp_seq (wc_region ?_)
 refine wl_rn (rn_pure (.bool false) rfl) ?_
 refine wl_nil (then_n ?_)
 refine wp_seq ?_
 refine wp_seq (wc_region ?_)
 refine wl_rn (rn_pure (.slice A0_ a0.length c0_) rfl) ?_
 refine wl_rn (rn_len sl30 rfl) ?_
 refine wl_rn (rn_pure (.slice A1_ a1.length c1_) rfl) ?_
 refine wl_rn (rn_len sl30 rfl) ?_
 refine wl_rn (rn_pure (.bool ((a0.length : Int) != (a1.length : Int))) rfl) ?_
 refine wl_nil (then_n ?_)
 rcases bcases ((a0.length : Int) != (a1.length : Int)) with hb1 | hb1
 ·replace hF := ifT hF hb1
  refine wc_true (vb hb1) ?_
  refine wp_seq (wc_region ?_)
  refine wl_rn (rn_pure (.bool false) rfl) ?_
  refine wl_nil (then_n ?_)
  refine wp_ret ?_
  refine then_r ?_
  have hF := Option.some.inj hF
  subst hF
  exact ret_mk rfl (RV.tmp rfl RV.nil) ⟨_, GLe.refl _, rfl, H⟩
 ·replace hF := ifF hF hb1
  refine wc_false (vb hb1) ?_
  refine wp_skip ?_
  refine then_n ?_
  refine wp_seq ?_
  refine wp_seq (wc_region ?_)
  refine wl_rn (rn_pure (.int .i64 0) rfl) ?_
  refine wl_nil (then_n ?_)
  refine wp_block ?_
  refine wp_loopX (fun (s : Int) a w => ∃ (T0 : Fr) (G1 : Ghost), a = mk 26 (upds T0 [(0, (.slice A0_ a0.length c0_)), (1, (.slice A1_ a1.length c1_)), (5, (.int .i64 s))]) ∧ GLe G G1 ∧ St c G1 w (σ)) hF ?_ ?_
  ·exact ⟨_, _, frame_eq _ ⟨rfl, rfl, rfl, trivial⟩, GLe.refl _, H⟩
  ·rintro x22 a w y25 ⟨T0, G26, rfl, hG23, H24⟩ hF hy2
   refine wp_seq ?_
   refine wp_seq (wc_region ?_)
   refine wl_rn (rn_pure (.int .i64 x22) rfl) ?_
   refine wl_rn (rn_pure (.slice A0_ a0.length c0_) rfl) ?_
   refine wl_rn (rn_len sl30 rfl) ?_
   refine wl_rn (rn_pure (.bool (decide (x22 < (a0.length : Int)))) rfl) ?_
   refine wl_nil (then_n ?_)
   rcases bcases (decide (x22 < (a0.length : Int))) with hb27 | hb27
   ·replace hF := ifT hF hb27
    refine wc_true (vb hb27) ?_
    refine wp_skip ?_
    refine then_n ?_
    refine wp_seq ?_
    refine wp_block ?_
    refine wp_seq ?_
    refine wc_anyS (f := 9) H24 mixed ?_
    intro w36 H37
    refine any_pf (by repeat (first | exact PF.base | apply PF.then_ | apply PF.blk)) ?_
    intro hPF hns
    obtain ⟨x38, hx39, hF⟩ := bindS hF
    obtain ⟨x42, hx43, hF⟩ := bindS hF
    refine any_memo (fuel := 1) (m := 255) (fun a w => ∃ (T0 : Fr) (G1 : Ghost), a = mk 26 (upds T0 [(0, (.slice A0_ a0.length c0_)), (1, (.slice A1_ a1.length c1_)), (5, (.int .i64 x22)), (20, (.int .u8 x38)), (24, (.int .u8 x42))]) ∧ GLe G26 G1 ∧ St c G1 w (σ)) ?_ ?_
    ·rintro a w ⟨T0, G53, rfl, hG51, H52⟩
     refine any_rn (i := 8) (m' := 511) rfl (rn_pure (.bool (x38 != x42)) rfl) hPF hns ?_
     refine any_end ?_
     refine then_n ?_
     rcases bcases (x38 != x42) with hb54 | hb54
     ·replace hF := ifT hF hb54
      refine wc_true (vb hb54) ?_
      refine wp_seq (wc_region ?_)
      refine wl_rn (rn_pure (.bool false) rfl) ?_
      refine wl_nil (then_n ?_)
      refine wp_ret ?_
      refine blk_r ?_
      iterate 2 refine then_r ?_
      replace hF := exitS hF hy2
      refine blk_r ?_
      refine then_r ?_
      have hF := Option.some.inj hF
      subst hF
      exact ret_mk rfl (RV.tmp rfl RV.nil) ⟨_, (hG23.trans hG51), rfl, H52⟩
     ·replace hF := ifF hF hb54
      refine wc_false (vb hb54) ?_
      refine wp_skip ?_
      refine blk_n ?_
      refine then_n ?_
      refine wc_region ?_
      refine wl_rn (rn_pure (.int .i64 x22) rfl) ?_
      iterate 2 refine wl_rn (rn_pure (.int .i64 (IntKind.i64.wrap (x22 + 1))) rfl) ?_
      refine wl_nil (then_n ?_)
      exact ⟨_, (Option.some.inj hF).symm, _, _, frame_eq _ ⟨rfl, rfl, rfl, trivial⟩, (hG23.trans hG51), H52⟩
    intro hM50
    refine any_rn (i := 0) (m' := 1) rfl (rn_pure (.slice A0_ a0.length c0_) rfl) hPF hns ?_
    refine any_rn (i := 1) (m' := 3) rfl (rn_pure (.int .i64 x22) rfl) hPF hns ?_
    refine any_rnE (i := 2) (m' := 7) rfl (rn_index (h0_.mono hG23) sl30 ty5 rfl rfl hx39) hPF hns ?_
    intro a55 hp56
    refine any_rn (i := 4) (m' := 23) rfl (rn_pure (.slice A1_ a1.length c1_) rfl) hPF hns ?_
    refine any_rn (i := 5) (m' := 55) rfl (rn_pure (.int .i64 x22) rfl) hPF hns ?_
    refine any_rnE (i := 6) (m' := 119) rfl (rn_index (h1_.mono hG23) sl30 ty5 rfl rfl hx43) hPF hns ?_
    intro a57 hp58
    refine any_alls [3, 7] ⟨?_, ?_, trivial⟩
    ·refine any_ops (m' := 127) fun Q' hN => ?_
     refine wl_loadpd H37 hp56 (dInt .u8) ty5 rfl ?_
     refine wl_nil (hN _ _ ?_)
     refine any_alls [7] ⟨any_ops (m' := 255) fun Q' hN => ?_, trivial⟩
     refine wl_loadpd H37 hp58 (dInt .u8) ty5 rfl ?_
     refine wl_nil (hN _ _ ?_)
     exact hM50 _ _ ⟨_, _, frame_eq _ ⟨rfl, rfl, rfl, rfl, rfl, trivial⟩, GLe.refl _, H37⟩
    ·refine any_ops (m' := 247) fun Q' hN => ?_
     refine wl_loadpd H37 hp58 (dInt .u8) ty5 rfl ?_
     refine wl_nil (hN _ _ ?_)
     refine any_alls [3] ⟨any_ops (m' := 255) fun Q' hN => ?_, trivial⟩
     refine wl_loadpd H37 hp56 (dInt .u8) ty5 rfl ?_
     refine wl_nil (hN _ _ ?_)
     exact hM50 _ _ ⟨_, _, frame_eq _ ⟨rfl, rfl, rfl, rfl, rfl, trivial⟩, GLe.refl _, H37⟩
   ·replace hF := ifF hF hb27
    refine wc_false (vb hb27) ?_
    refine wp_exit ?_
    iterate 2 refine then_e ?_
    replace hF := exitS hF hy2
    refine blk_e ?_
    refine then_n ?_
    refine wp_seq (wc_region ?_)
    refine wl_rn (rn_pure (.bool true) rfl) ?_
    refine wl_nil (then_n ?_)
    refine wp_ret ?_
    have hF := Option.some.inj hF
    subst hF
    exact ret_mk rfl (RV.tmp rfl RV.nil) ⟨_, hG23, rfl, H24⟩

theorem portreeveref10_One_ok {c : World} (hc : Hc c) {G : Ghost} {w : World} {σ : List Ent} {a0 : TOpt} {v0_ : Value} {a1 : TOpt} {v1_ : Value} (h0_ : kTOpt.V G v0_ a0) (h1_ : kTOpt.V G v1_ a1) (H : St c G w (σ)) {r : Bool} (hF : portreeveref10_One a0 a1 = some r) :
  Calls Tryd.prog 37 ([v0_, v1_] : List Value).toArray w (Ends fun v w' => ∃ (G' : Ghost), GLe G G' ∧ tup [(.bool r)] = v ∧ St c G' w' (σ)) := by
 unfold portreeveref10_One at hF
 refine calls_mk Tryd.func37 rfl rfl rfl ?_
 refine wp_seq (wc_region ?_)
 refine wl_box (K := kTOpt) (x := a0) H rfl h0_ ?_
 intro b1 w4 H2
 refine wl_box (K := kTOpt) (x := a1) H2 rfl h1_ ?_
 intro b5 w8 H6
 refine wl_rn (rn_pure (.bool false) rfl) ?_
 refine wl_nil (then_n (wp_seq (wc_region ?_)))
 refine wl_rn (rn_field fo60_1 rfl) ?_
 refine wl_load H6 (i := 1) rfl lTOpt_Data ty30 rfl ?_
 intro v9 hv10
 obtain ⟨A11, c12, rfl, hs13⟩ := slice_V hv10
 refine wl_rn (rn_field fo60_1 rfl) ?_
 refine wl_load H6 (i := 0) rfl lTOpt_Data ty30 rfl ?_
 intro v14 hv15
 obtain ⟨A16, c17, rfl, hs18⟩ := slice_V hv15
 obtain ⟨r19, hr20, hF⟩ := bindS hF
 refine wl_call (vs := [(.slice A11 a0.Data.length c12), (.slice A16 a1.Data.length c17)]) en15 rfl (portreeveref01_Row_ok hc hs13 hs18 H6 hr20) ?_
 rintro v25 w24 ⟨G21, hG22, rfl, H23⟩
 refine wl_rn (rn_pure (.bool r19) rfl) ?_
 refine wl_nil (then_n (wp_seq (wc_region ?_)))
 iterate 2 refine wl_rn (rn_pure (.bool r19) rfl) ?_
 rcases bcases r19 with hb26 | hb26
 ·replace hF := ifT hF hb26
  refine wl_yes rfl rfl rfl (vb hb26) ?_
  refine wl_rn (rn_field fo60_0 rfl) ?_
  refine wl_yes rfl rfl rfl (vb hb26) ?_
  refine wl_loadd H23 (i := 1) rfl lTOpt_Typ (dInt .u8) ty5 rfl ?_
  refine wl_yes rfl rfl rfl (vb hb26) ?_
  refine wl_rn (rn_field fo60_0 rfl) ?_
  refine wl_yes rfl rfl rfl (vb hb26) ?_
  refine wl_loadd H23 (i := 0) rfl lTOpt_Typ (dInt .u8) ty5 rfl ?_
  refine wl_yes rfl rfl rfl (vb hb26) ?_
  refine wl_rn (rn_pure (.bool (a0.Typ == a1.Typ)) rfl) ?_
  refine wl_rn (rn_pickT (.bool (a0.Typ == a1.Typ)) (vb hb26) rfl) ?_
  refine wl_rn (rn_pure (.bool (a0.Typ == a1.Typ)) rfl) ?_
  refine wl_nil (then_n ?_)
  refine wp_ret ?_
  have hF := Option.some.inj hF
  subst hF
  exact ret_mk rfl (RV.tmp rfl RV.nil) ⟨_, hG22, rfl, (St.pk [] 2 H23 rfl (by decide))⟩
 ·replace hF := ifF hF hb26
  iterate 5 refine wl_no rfl rfl rfl (vb hb26) ?_
  refine wl_rn (rn_pickF (.bool false) (vb hb26) rfl) ?_
  refine wl_rn (rn_pure (.bool false) rfl) ?_
  refine wl_nil (then_n ?_)
  refine wp_ret ?_
  have hF := Option.some.inj hF
  subst hF
  exact ret_mk rfl (RV.tmp rfl RV.nil) ⟨_, hG22, rfl, (St.pk [] 2 H23 rfl (by decide))⟩

theorem portreeveref10_Same_ok {c : World} (hc : Hc c) {G : Ghost} {w : World} {σ : List Ent} {a0 : (List TOpt)} {A0_ : Option Addr} {c0_ : Nat} {a1 : (List TOpt)} {A1_ : Option Addr} {c1_ : Nat} (h0_ : SlR kTOpt G A0_ c0_ a0) (h1_ : SlR kTOpt G A1_ c1_ a1) (H : St c G w (σ)) {r : Bool} (hF : portreeveref10_Same a0 a1 = some r) :
  Calls Tryd.prog 17 ([(.slice A0_ a0.length c0_), (.slice A1_ a1.length c1_)] : List Value).toArray w (Ends fun v w' => ∃ (G' : Ghost), GLe G G' ∧ tup [(.bool r)] = v ∧ St c G' w' (σ)) := by
 unfold portreeveref10_Same at hF
 refine calls_mk Tryd.func17 rfl rfl rfl ?_
 refine wp_seq (wc_region ?_)
 refine wl_rn (rn_pure (.bool false) rfl) ?_
 refine wl_nil (then_n ?_)
 refine wp_seq ?_
 refine wp_seq (wc_region ?_)
 refine wl_rn (rn_pure (.slice A0_ a0.length c0_) rfl) ?_
 refine wl_rn (rn_len sl27 rfl) ?_
 refine wl_rn (rn_pure (.slice A1_ a1.length c1_) rfl) ?_
 refine wl_rn (rn_len sl27 rfl) ?_
 refine wl_rn (rn_pure (.bool ((a0.length : Int) != (a1.length : Int))) rfl) ?_
 refine wl_nil (then_n ?_)
 rcases bcases ((a0.length : Int) != (a1.length : Int)) with hb1 | hb1
 ·replace hF := ifT hF hb1
  refine wc_true (vb hb1) ?_
  refine wp_seq (wc_region ?_)
  refine wl_rn (rn_pure (.bool false) rfl) ?_
  refine wl_nil (then_n ?_)
  refine wp_ret ?_
  refine then_r ?_
  have hF := Option.some.inj hF
  subst hF
  exact ret_mk rfl (RV.tmp rfl RV.nil) ⟨_, GLe.refl _, rfl, H⟩
 ·replace hF := ifF hF hb1
  refine wc_false (vb hb1) ?_
  refine wp_skip ?_
  refine then_n ?_
  refine wp_seq ?_
  refine wp_seq (wc_region ?_)
  refine wl_rn (rn_pure (.int .i64 0) rfl) ?_
  refine wl_nil (then_n ?_)
  refine wp_block ?_
  refine wp_loopX (fun (s : Int) a w => ∃ (T0 : Fr) (G1 : Ghost), a = mk 29 (upds T0 [(0, (.slice A0_ a0.length c0_)), (1, (.slice A1_ a1.length c1_)), (5, (.int .i64 s))]) ∧ GLe G G1 ∧ St c G1 w (σ)) hF ?_ ?_
  ·exact ⟨_, _, frame_eq _ ⟨rfl, rfl, rfl, trivial⟩, GLe.refl _, H⟩
  ·rintro x44 a w y47 ⟨T0, G48, rfl, hG45, H46⟩ hF hy2
   refine wp_seq ?_
   refine wp_seq (wc_region ?_)
   refine wl_rn (rn_pure (.int .i64 x44) rfl) ?_
   refine wl_rn (rn_pure (.slice A0_ a0.length c0_) rfl) ?_
   refine wl_rn (rn_len sl27 rfl) ?_
   refine wl_rn (rn_pure (.bool (decide (x44 < (a0.length : Int)))) rfl) ?_
   refine wl_nil (then_n ?_)
   rcases bcases (decide (x44 < (a0.length : Int))) with hb49 | hb49
   ·replace hF := ifT hF hb49
    refine wc_true (vb hb49) ?_
    refine wp_skip ?_
    refine then_n ?_
    refine wp_seq ?_
    refine wp_block ?_
    refine wp_seq ?_
    refine wc_anyS (f := 10) H46 mixed ?_
    intro w69 H70
    refine any_pf (by repeat (first | exact PF.base | apply PF.then_ | apply PF.blk)) ?_
    intro hPF hns
    obtain ⟨x71, hx72, hF⟩ := bindS hF
    obtain ⟨x77, hx78, hF⟩ := bindS hF
    obtain ⟨r83, hr84, hF⟩ := bindS hF
    refine any_memo (fuel := 2) (m := 255) (fun a w => ∃ (T0 : Fr) (G1 : Ghost) (v104 : Value) (v106 : Value), a = mk 29 (upds T0 [(0, (.slice A0_ a0.length c0_)), (1, (.slice A1_ a1.length c1_)), (5, (.int .i64 x44)), (21, v104), (25, v106)]) ∧ GLe G48 G1 ∧ St c G1 w (σ) ∧ kTOpt.V G1 v104 x71 ∧ kTOpt.V G1 v106 x77) ?_ ?_
    ·rintro a w ⟨T0, G103, v104, v106, rfl, hG101, H102, hv105, hv107⟩
     refine any_alls [8] ⟨any_ops (m' := 511) fun Q' hN => ?_, trivial⟩
     refine wl_call (vs := [v104, v106]) en37 rfl (portreeveref10_One_ok hc hv105 hv107 H102 hr84) ?_
     rintro v117 w116 ⟨G113, hG114, rfl, H115⟩
     refine wl_nil (hN _ _ ?_)
     refine any_rn (i := 9) (m' := 1023) rfl (rn_pure (.bool r83) rfl) hPF hns ?_
     refine any_end ?_
     refine then_n ?_
     refine wp_seq (wc_region ?_)
     refine wl_rn (rn_pure (.bool r83) rfl) ?_
     refine wl_rn (rn_pure (.bool (!r83)) rfl) ?_
     refine wl_nil (then_n ?_)
     rcases bcases (!r83) with hb118 | hb118
     ·replace hF := ifT hF hb118
      refine wc_true (vb hb118) ?_
      refine wp_seq (wc_region ?_)
      refine wl_rn (rn_pure (.bool false) rfl) ?_
      refine wl_nil (then_n ?_)
      refine wp_ret ?_
      refine blk_r ?_
      iterate 2 refine then_r ?_
      replace hF := exitS hF hy2
      refine blk_r ?_
      refine then_r ?_
      have hF := Option.some.inj hF
      subst hF
      exact ret_mk rfl (RV.tmp rfl RV.nil) ⟨_, ((hG45.trans hG101).trans hG114), rfl, H115⟩
     ·replace hF := ifF hF hb118
      refine wc_false (vb hb118) ?_
      refine wp_skip ?_
      refine blk_n ?_
      refine then_n ?_
      refine wc_region ?_
      refine wl_rn (rn_pure (.int .i64 x44) rfl) ?_
      iterate 2 refine wl_rn (rn_pure (.int .i64 (IntKind.i64.wrap (x44 + 1))) rfl) ?_
      refine wl_nil (then_n ?_)
      exact ⟨_, (Option.some.inj hF).symm, _, _, frame_eq _ ⟨rfl, rfl, rfl, trivial⟩, ((hG45.trans hG101).trans hG114), H115⟩
    intro hM100
    refine any_rn (i := 0) (m' := 1) rfl (rn_pure (.slice A0_ a0.length c0_) rfl) hPF hns ?_
    refine any_rn (i := 1) (m' := 3) rfl (rn_pure (.int .i64 x44) rfl) hPF hns ?_
    refine any_rnE (i := 2) (m' := 7) rfl (rn_index (h0_.mono hG45) sl27 ty60 rfl rfl hx72) hPF hns ?_
    intro a119 hp120
    refine any_rn (i := 4) (m' := 23) rfl (rn_pure (.slice A1_ a1.length c1_) rfl) hPF hns ?_
    refine any_rn (i := 5) (m' := 55) rfl (rn_pure (.int .i64 x44) rfl) hPF hns ?_
    refine any_rnE (i := 6) (m' := 119) rfl (rn_index (h1_.mono hG45) sl27 ty60 rfl rfl hx78) hPF hns ?_
    intro a121 hp122
    refine any_alls [3, 7] ⟨?_, ?_, trivial⟩
    ·refine any_ops (m' := 127) fun Q' hN => ?_
     refine wl_loadp H70 hp120 ty60 rfl ?_
     intro v123 hv124
     refine wl_nil (hN _ _ ?_)
     refine any_alls [7] ⟨any_ops (m' := 255) fun Q' hN => ?_, trivial⟩
     refine wl_loadp H70 hp122 ty60 rfl ?_
     intro v125 hv126
     refine wl_nil (hN _ _ ?_)
     exact hM100 _ _ ⟨_, _, v123, v125, frame_eq _ ⟨rfl, rfl, rfl, rfl, rfl, trivial⟩, GLe.refl _, H70, hv124, hv126⟩
    ·refine any_ops (m' := 247) fun Q' hN => ?_
     refine wl_loadp H70 hp122 ty60 rfl ?_
     intro v127 hv128
     refine wl_nil (hN _ _ ?_)
     refine any_alls [3] ⟨any_ops (m' := 255) fun Q' hN => ?_, trivial⟩
     refine wl_loadp H70 hp120 ty60 rfl ?_
     intro v129 hv130
     refine wl_nil (hN _ _ ?_)
     exact hM100 _ _ ⟨_, _, v129, v127, frame_eq _ ⟨rfl, rfl, rfl, rfl, rfl, trivial⟩, GLe.refl _, H70, hv130, hv128⟩
   ·replace hF := ifF hF hb49
    refine wc_false (vb hb49) ?_
    refine wp_exit ?_
    iterate 2 refine then_e ?_
    replace hF := exitS hF hy2
    refine blk_e ?_
    refine then_n ?_
    refine wp_seq (wc_region ?_)
    refine wl_rn (rn_pure (.bool true) rfl) ?_
    refine wl_nil (then_n ?_)
    refine wp_ret ?_
    have hF := Option.some.inj hF
    subst hF
    exact ret_mk rfl (RV.tmp rfl RV.nil) ⟨_, hG45, rfl, H46⟩

theorem portreeveref14_Same_ok {c : World} (hc : Hc c) {G : Ghost} {w : World} {σ : List Ent} {a0 : TNego} {v0_ : Value} {a1 : TNego} {v1_ : Value} (h0_ : kTNego.V G v0_ a0) (h1_ : kTNego.V G v1_ a1) (H : St c G w (σ)) {r : Bool} (hF : portreeveref14_Same a0 a1 = some r) :
  Calls Tryd.prog 22 ([v0_, v1_] : List Value).toArray w (Ends fun v w' => ∃ (G' : Ghost), GLe G G' ∧ tup [(.bool r)] = v ∧ St c G' w' (σ)) := by
 unfold portreeveref14_Same at hF
 refine calls_mk Tryd.func22 rfl rfl rfl ?_
 refine wp_seq (wc_region ?_)
 refine wl_box (K := kTNego) (x := a0) H rfl h0_ ?_
 intro b1 w4 H2
 refine wl_box (K := kTNego) (x := a1) H2 rfl h1_ ?_
 intro b5 w8 H6
 refine wl_rn (rn_pure (.bool false) rfl) ?_
 refine wl_nil (then_n (wp_seq (wc_region ?_)))
 refine wl_rn (rn_field fo29_2 rfl) ?_
 refine wl_load H6 (i := 1) rfl lTNego_Ours ty27 rfl ?_
 intro v9 hv10
 obtain ⟨A11, c12, rfl, hs13⟩ := slice_V hv10
 refine wl_rn (rn_field fo29_2 rfl) ?_
 refine wl_load H6 (i := 0) rfl lTNego_Ours ty27 rfl ?_
 intro v14 hv15
 obtain ⟨A16, c17, rfl, hs18⟩ := slice_V hv15
 obtain ⟨r19, hr20, hF⟩ := bindS hF
 refine wl_call (vs := [(.slice A11 a0.Ours.length c12), (.slice A16 a1.Ours.length c17)]) en17 rfl (portreeveref10_Same_ok hc hs13 hs18 H6 hr20) ?_
 rintro v25 w24 ⟨G21, hG22, rfl, H23⟩
 refine wl_rn (rn_pure (.bool r19) rfl) ?_
 refine wl_nil (then_n (wp_seq (wc_region ?_)))
 refine wl_rn (rn_field fo29_4 rfl) ?_
 refine wl_load H23 (i := 1) rfl lTNego_Peer ty27 rfl ?_
 intro v26 hv27
 obtain ⟨A28, c29, rfl, hs30⟩ := slice_V hv27
 refine wl_rn (rn_field fo29_4 rfl) ?_
 refine wl_load H23 (i := 0) rfl lTNego_Peer ty27 rfl ?_
 intro v31 hv32
 obtain ⟨A33, c34, rfl, hs35⟩ := slice_V hv32
 obtain ⟨r36, hr37, hF⟩ := bindS hF
 refine wl_call (vs := [(.slice A28 a0.Peer.length c29), (.slice A33 a1.Peer.length c34)]) en17 rfl (portreeveref10_Same_ok hc hs30 hs35 H23 hr37) ?_
 rintro v42 w41 ⟨G38, hG39, rfl, H40⟩
 refine wl_rn (rn_pure (.bool r36) rfl) ?_
 refine wl_nil (then_n (wp_seq (wc_region ?_)))
 iterate 2 refine wl_rn (rn_pure (.bool r19) rfl) ?_
 rcases bcases r19 with hb43 | hb43
 ·replace hF := ifT hF hb43
  refine wl_yes rfl rfl rfl (vb hb43) ?_
  refine wl_rn (rn_pure (.bool r36) rfl) ?_
  refine wl_rn (rn_pickT (.bool r36) (vb hb43) rfl) ?_
  refine wl_rn (rn_pure (.bool r36) rfl) ?_
  rcases bcases r36 with hb44 | hb44
  ·replace hF := ifT hF hb44
   refine wl_yes rfl rfl rfl (vb hb44) ?_
   refine wl_rn (rn_field fo29_0 rfl) ?_
   refine wl_yes rfl rfl rfl (vb hb44) ?_
   refine wl_load H40 (i := 1) rfl lTNego_A ty23 rfl ?_
   intro v45 hv46
   refine wl_yes rfl rfl rfl (vb hb44) ?_
   refine wl_rn (rn_field fo29_0 rfl) ?_
   refine wl_yes rfl rfl rfl (vb hb44) ?_
   refine wl_load H40 (i := 0) rfl lTNego_A ty23 rfl ?_
   intro v47 hv48
   refine wl_yes rfl rfl rfl (vb hb44) ?_
   refine wl_rn (rn_eql eqTAuto rfl eg23 rfl rfl rfl hv46 hv48) ?_
   refine wl_rn (rn_pickT (.bool (eTAuto a0.A a1.A)) (vb hb44) rfl) ?_
   refine wl_rn (rn_pure (.bool (eTAuto a0.A a1.A)) rfl) ?_
   rcases bcases (eTAuto a0.A a1.A) with hb49 | hb49
   ·replace hF := ifT hF hb49
    refine wl_yes rfl rfl rfl (vb hb49) ?_
    refine wl_rn (rn_field fo29_1 rfl) ?_
    refine wl_yes rfl rfl rfl (vb hb49) ?_
    refine wl_load H40 (i := 1) rfl lTNego_R ty26 rfl ?_
    intro v50 hv51
    refine wl_yes rfl rfl rfl (vb hb49) ?_
    refine wl_rn (rn_field fo29_1 rfl) ?_
    refine wl_yes rfl rfl rfl (vb hb49) ?_
    refine wl_load H40 (i := 0) rfl lTNego_R ty26 rfl ?_
    intro v52 hv53
    refine wl_yes rfl rfl rfl (vb hb49) ?_
    refine wl_rn (rn_eql eqTRule rfl eg26 rfl rfl rfl hv51 hv53) ?_
    refine wl_rn (rn_pickT (.bool (eTRule a0.R a1.R)) (vb hb49) rfl) ?_
    refine wl_rn (rn_pure (.bool (eTRule a0.R a1.R)) rfl) ?_
    rcases bcases (eTRule a0.R a1.R) with hb54 | hb54
    ·replace hF := ifT hF hb54
     refine wl_yes rfl rfl rfl (vb hb54) ?_
     refine wl_rn (rn_field fo29_3 rfl) ?_
     refine wl_yes rfl rfl rfl (vb hb54) ?_
     refine wl_loadd H40 (i := 1) rfl lTNego_Naks (dInt .i64) ty3 rfl ?_
     refine wl_yes rfl rfl rfl (vb hb54) ?_
     refine wl_rn (rn_field fo29_3 rfl) ?_
     refine wl_yes rfl rfl rfl (vb hb54) ?_
     refine wl_loadd H40 (i := 0) rfl lTNego_Naks (dInt .i64) ty3 rfl ?_
     refine wl_yes rfl rfl rfl (vb hb54) ?_
     refine wl_rn (rn_pure (.bool (a0.Naks == a1.Naks)) rfl) ?_
     refine wl_rn (rn_pickT (.bool (a0.Naks == a1.Naks)) (vb hb54) rfl) ?_
     refine wl_rn (rn_pure (.bool (a0.Naks == a1.Naks)) rfl) ?_
     refine wl_nil (then_n ?_)
     refine wp_ret ?_
     have hF := Option.some.inj hF
     subst hF
     exact ret_mk rfl (RV.tmp rfl RV.nil) ⟨_, (hG22.trans hG39), rfl, (St.pk [] 2 H40 rfl (by decide))⟩
    ·replace hF := ifF hF hb54
     iterate 5 refine wl_no rfl rfl rfl (vb hb54) ?_
     refine wl_rn (rn_pickF (.bool false) (vb hb54) rfl) ?_
     refine wl_rn (rn_pure (.bool false) rfl) ?_
     refine wl_nil (then_n ?_)
     refine wp_ret ?_
     have hF := Option.some.inj hF
     subst hF
     exact ret_mk rfl (RV.tmp rfl RV.nil) ⟨_, (hG22.trans hG39), rfl, (St.pk [] 2 H40 rfl (by decide))⟩
   ·replace hF := ifF hF hb49
    iterate 5 refine wl_no rfl rfl rfl (vb hb49) ?_
    refine wl_rn (rn_pickF (.bool false) (vb hb49) rfl) ?_
    refine wl_rn (rn_pure (.bool false) rfl) ?_
    iterate 5 refine wl_no rfl rfl rfl rfl ?_
    refine wl_rn (rn_pickF (.bool false) rfl rfl) ?_
    refine wl_rn (rn_pure (.bool false) rfl) ?_
    refine wl_nil (then_n ?_)
    refine wp_ret ?_
    have hF := Option.some.inj hF
    subst hF
    exact ret_mk rfl (RV.tmp rfl RV.nil) ⟨_, (hG22.trans hG39), rfl, (St.pk [] 2 H40 rfl (by decide))⟩
  ·replace hF := ifF hF hb44
   iterate 5 refine wl_no rfl rfl rfl (vb hb44) ?_
   refine wl_rn (rn_pickF (.bool false) (vb hb44) rfl) ?_
   refine wl_rn (rn_pure (.bool false) rfl) ?_
   iterate 5 refine wl_no rfl rfl rfl rfl ?_
   refine wl_rn (rn_pickF (.bool false) rfl rfl) ?_
   refine wl_rn (rn_pure (.bool false) rfl) ?_
   iterate 5 refine wl_no rfl rfl rfl rfl ?_
   refine wl_rn (rn_pickF (.bool false) rfl rfl) ?_
   refine wl_rn (rn_pure (.bool false) rfl) ?_
   refine wl_nil (then_n ?_)
   refine wp_ret ?_
   have hF := Option.some.inj hF
   subst hF
   exact ret_mk rfl (RV.tmp rfl RV.nil) ⟨_, (hG22.trans hG39), rfl, (St.pk [] 2 H40 rfl (by decide))⟩
 ·replace hF := ifF hF hb43
  refine wl_no rfl rfl rfl (vb hb43) ?_
  refine wl_rn (rn_pickF (.bool false) (vb hb43) rfl) ?_
  refine wl_rn (rn_pure (.bool false) rfl) ?_
  iterate 5 refine wl_no rfl rfl rfl rfl ?_
  refine wl_rn (rn_pickF (.bool false) rfl rfl) ?_
  refine wl_rn (rn_pure (.bool false) rfl) ?_
  iterate 5 refine wl_no rfl rfl rfl rfl ?_
  refine wl_rn (rn_pickF (.bool false) rfl rfl) ?_
  refine wl_rn (rn_pure (.bool false) rfl) ?_
  iterate 5 refine wl_no rfl rfl rfl rfl ?_
  refine wl_rn (rn_pickF (.bool false) rfl rfl) ?_
  refine wl_rn (rn_pure (.bool false) rfl) ?_
  refine wl_nil (then_n ?_)
  refine wp_ret ?_
  have hF := Option.some.inj hF
  subst hF
  exact ret_mk rfl (RV.tmp rfl RV.nil) ⟨_, (hG22.trans hG39), rfl, (St.pk [] 2 H40 rfl (by decide))⟩

theorem portreeveref10_Number_ok {c : World} (hc : Hc c) {G : Ghost} {w : World} {σ : List Ent} {a0 : (List Int)} {A0_ : Option Addr} {c0_ : Nat} (h0_ : SlR kB G A0_ c0_ a0) (H : St c G w (σ)) {r : Int} (hF : portreeveref10_Number a0 = some r) :
  Calls Tryd.prog 23 ([(.slice A0_ a0.length c0_)] : List Value).toArray w (Ends fun v w' => ∃ (G' : Ghost), GLe G G' ∧ tup [(.int .u32 r)] = v ∧ St c G' w' (σ)) := by
 unfold portreeveref10_Number at hF
 refine calls_mk Tryd.func23 rfl rfl rfl ?_
 refine wp_seq (wc_region ?_)
 refine wl_rn (rn_pure (.int .u32 0) rfl) ?_
 refine wl_nil (then_n (wp_seq (wc_region ?_)))
 refine wl_rn (rn_pure (.int .u32 0) rfl) ?_
 refine wl_nil (then_n ?_)
 refine wp_seq ?_
 refine wp_seq (wc_region ?_)
 refine wl_rn (rn_pure (.slice A0_ a0.length c0_) rfl) ?_
 refine wl_rn (rn_len sl30 rfl) ?_
 refine wl_rn (rn_pure (.int .i64 (IntKind.i64.wrap ((a0.length : Int) - 4))) rfl) ?_
 refine wl_rn (rn_max rfl rfl) ?_
 refine wl_rn (rn_pure (.int .i64 (if 0 < (IntKind.i64.wrap ((a0.length : Int) - 4)) then (IntKind.i64.wrap ((a0.length : Int) - 4)) else 0)) rfl) ?_
 refine wl_nil (then_n ?_)
 refine wp_block ?_
 refine wp_loopX (fun (s : (Int × Int)) a w => ∃ (T0 : Fr) (G1 : Ghost), a = mk 24 (upds T0 [(0, (.slice A0_ a0.length c0_)), (3, (.int .u32 s.1)), (4, (.int .i64 s.2))]) ∧ GLe G G1 ∧ St c G1 w (σ)) hF ?_ ?_
 ·exact ⟨_, _, frame_eq _ ⟨rfl, rfl, rfl, trivial⟩, GLe.refl _, H⟩
 ·rintro ⟨x9, x10⟩ a w y13 ⟨T0, G14, rfl, hG11, H12⟩ hF hy1
  refine wp_seq ?_
  refine wp_seq (wc_region ?_)
  refine wl_rn (rn_pure (.int .i64 x10) rfl) ?_
  refine wl_rn (rn_pure (.slice A0_ a0.length c0_) rfl) ?_
  refine wl_rn (rn_len sl30 rfl) ?_
  refine wl_rn (rn_pure (.bool (decide (x10 < (a0.length : Int)))) rfl) ?_
  refine wl_nil (then_n ?_)
  rcases bcases (decide (x10 < (a0.length : Int))) with hb15 | hb15
  ·replace hF := ifT hF hb15
   refine wc_true (vb hb15) ?_
   refine wp_skip ?_
   refine then_n ?_
   refine wp_seq ?_
   refine wp_block ?_
   refine wc_region ?_
   refine wl_rn (rn_pure (.int .u32 x9) rfl) ?_
   refine wl_rn (rn_pure (.int .u32 (IntKind.u32.wrap (x9 * 256))) rfl) ?_
   refine wl_rn (rn_pure (.slice A0_ a0.length c0_) rfl) ?_
   refine wl_rn (rn_pure (.int .i64 x10) rfl) ?_
   obtain ⟨x16, hx17, hF⟩ := bindS hF
   refine wl_rnE (rn_index (h0_.mono hG11) sl30 ty5 rfl rfl hx17) ?_
   intro a18 hp19
   refine wl_loadpd H12 hp19 (dInt .u8) ty5 rfl ?_
   refine wl_rn (rn_convert un5 un24 rfl) ?_
   iterate 2 refine wl_rn (rn_pure (.int .u32 (IntKind.u32.wrap ((IntKind.u32.wrap (x9 * 256)) + (IntKind.u32.wrap (x16))))) rfl) ?_
   refine wl_nil (blk_n ?_)
   refine then_n ?_
   refine wc_region ?_
   refine wl_rn (rn_pure (.int .i64 x10) rfl) ?_
   iterate 2 refine wl_rn (rn_pure (.int .i64 (IntKind.i64.wrap (x10 + 1))) rfl) ?_
   refine wl_nil (then_n ?_)
   exact ⟨_, (Option.some.inj hF).symm, _, _, frame_eq _ ⟨rfl, rfl, rfl, trivial⟩, hG11, H12⟩
  ·replace hF := ifF hF hb15
   refine wc_false (vb hb15) ?_
   refine wp_exit ?_
   iterate 2 refine then_e ?_
   replace hF := exitS hF hy1
   refine blk_e ?_
   refine then_n ?_
   refine wp_seq (wc_region ?_)
   iterate 2 refine wl_rn (rn_pure (.int .u32 x9) rfl) ?_
   refine wl_nil (then_n ?_)
   refine wp_ret ?_
   have hF := Option.some.inj hF
   subst hF
   exact ret_mk rfl (RV.tmp rfl RV.nil) ⟨_, hG11, rfl, H12⟩

theorem portreevelaw14_NegoEchoes_ok {c : World} (hc : Hc c) {G : Ghost} {w : World} {σ : List Ent} {a0 : TNego} {v0_ : Value} {a1 : Int} {a2 : (List Int)} {A2_ : Option Addr} {c2_ : Nat} (h0_ : kTNego.V G v0_ a0) (h2_ : SlR kB G A2_ c2_ a2) (H : St c G w (σ)) {r : Bool} (hF : portreevelaw14_NegoEchoes a0 a1 a2 = some r) :
  Calls Tryd.prog 7 ([v0_, (.int .u8 a1), (.slice A2_ a2.length c2_)] : List Value).toArray w (Ends fun v w' => ∃ (G' : Ghost), GLe G G' ∧ tup [(.bool r)] = v ∧ St c G' w' (σ)) := by
 unfold portreevelaw14_NegoEchoes at hF
 refine calls_mk Tryd.func7 rfl rfl rfl ?_
 refine wp_seq (wc_region ?_)
 refine wl_box (K := kTNego) (x := a0) H rfl h0_ ?_
 intro b1 w4 H2
 refine wl_rn (rn_pure (.bool false) rfl) ?_
 refine wl_nil (then_n (wp_seq (wc_region ?_)))
 obtain ⟨r5, hr6, hF⟩ := bindS hF
 refine wl_call (vs := []) en8 rfl (portreevelaw14_shown_ok hc H2 hr6) ?_
 rintro v11 w10 ⟨G7, hG8, rfl, H9⟩
 refine wl_rn (rn_pure (.bool r5) rfl) ?_
 refine wl_nil (then_n ?_)
 refine wp_seq ?_
 refine wp_seq (join (fun a w => ∃ (T0 : Fr) (G1 : Ghost) (x33 : Bool), a = mk 113 (upds T0 [(1, (.int .u8 a1)), (2, (.slice A2_ a2.length c2_)), (3, (pt b1)), (7, (.bool r5)), (30, (.bool x33))]) ∧ GLe G7 G1 ∧ St c G1 w ((.box b1 29 (kTNego.at_ a0)) :: σ) ∧ portreevelaw14_NegoEchoes_j1 a0 a1 a2 r5 x33 = some r) ?_ ?_)
 ·rintro a w ⟨T0, G36, x33, rfl, hG34, H35, hF⟩
  rcases bcases x33 with hb37 | hb37
  ·replace hF := ifT hF hb37
   refine wc_true (vb hb37) ?_
   refine wp_seq (wc_region ?_)
   iterate 2 refine wl_rn (rn_pure (.bool r5) rfl) ?_
   refine wl_nil (then_n ?_)
   refine wp_ret ?_
   refine then_r ?_
   have hF := Option.some.inj hF
   subst hF
   exact ret_mk rfl (RV.tmp rfl RV.nil) ⟨_, (hG8.trans hG34), rfl, (St.pk [] 1 H35 rfl (by decide))⟩
  ·replace hF := ifF hF hb37
   refine wc_false (vb hb37) ?_
   refine wp_skip ?_
   refine then_n ?_
   refine wp_seq (wc_region ?_)
   refine wl_load H35 (i := 0) rfl (Lens.id kTNego) ty29 rfl ?_
   intro v38 hv39
   refine wl_rn (rn_pure (.int .u8 a1) rfl) ?_
   refine wl_rn (rn_pure (.slice A2_ a2.length c2_) rfl) ?_
   refine wl_rnE (rn_build (G := G36) zr32 rfl bs32 rfl (Parts.cons fo32_0 lTPkt_Code ((dInt .u8).toV _ _) (Parts.cons fo32_1 lTPkt_Id ((dInt .u8).toV _ _) (Parts.cons fo32_2 lTPkt_Data (slice_toV (h2_.mono (hG8.trans hG34))) (Parts.nil _))))) ?_
   intro v40 hv41
   obtain ⟨r42, hr43, hF⟩ := bindS hF
   refine wl_call (vs := [v38, v40]) en13 rfl (nego_Take_ok hc hv39 hv41 H35 hr43) ?_
   rintro v48 w47 ⟨G44, v49, A51, c52, A54, c55, hG45, rfl, H46, hv50, hs53, hs56⟩
   refine wl_rn (rn_pure (.tuple #[v49, (.slice A51 r42.2.1.length c52), (.slice A54 r42.2.2.length c55)]) rfl) ?_
   refine wl_rn (rn_pure v49 rfl) ?_
   refine wl_rn (rn_pure (.slice A51 r42.2.1.length c52) rfl) ?_
   refine wl_rn (rn_pure (.slice A54 r42.2.2.length c55) rfl) ?_
   refine wl_alloc H46 zr29 ?_
   intro b57 w60 H58
   refine wl_store (z := r42.1) H58 (i := 0) rfl (Lens.id kTNego) ty29 rfl rfl hv50 ?_
   intro w62 H61
   refine wl_rn (rn_pure (.slice A51 r42.2.1.length c52) rfl) ?_
   refine wl_rn (rn_pure (.slice A54 r42.2.2.length c55) rfl) ?_
   refine wl_nil (then_n ?_)
   refine wp_seq ?_
   refine wp_seq (join (fun a w => ∃ (T0 : Fr) (G1 : Ghost) (x64 : Bool), a = mk 113 (upds T0 [(1, (.int .u8 a1)), (2, (.slice A2_ a2.length c2_)), (3, (pt b1)), (7, (.bool r5)), (8, (pt b57)), (9, (.slice A51 r42.2.1.length c52)), (49, (.bool x64))]) ∧ GLe G44 G1 ∧ St c G1 w ((.box b57 29 (kTNego.at_ r42.1)) :: (.box b1 29 (kTNego.at_ a0)) :: σ) ∧ portreevelaw14_NegoEchoes_j2 a0 a1 a2 r5 r42 x64 = some r) ?_ ?_)
   ·rintro a w ⟨T0, G67, x64, rfl, hG65, H66, hF⟩
    rcases bcases x64 with hb68 | hb68
    ·replace hF := ifT hF hb68
     refine wc_true (vb hb68) ?_
     refine wp_seq (wc_region ?_)
     iterate 2 refine wl_rn (rn_pure (.bool r5) rfl) ?_
     rcases bcases r5 with hb69 | hb69
     ·replace hF := ifT hF hb69
      refine wl_yes rfl rfl rfl (vb hb69) ?_
      refine wl_rn (rn_pure (.slice A51 r42.2.1.length c52) rfl) ?_
      refine wl_yes rfl rfl rfl (vb hb69) ?_
      refine wl_rn (rn_len sl35 rfl) ?_
      refine wl_yes rfl rfl rfl (vb hb69) ?_
      refine wl_rn (rn_pure (.bool ((r42.2.1.length : Int) == 0)) rfl) ?_
      refine wl_rn (rn_pickT (.bool ((r42.2.1.length : Int) == 0)) (vb hb69) rfl) ?_
      refine wl_rn (rn_pure (.bool ((r42.2.1.length : Int) == 0)) rfl) ?_
      rcases bcases ((r42.2.1.length : Int) == 0) with hb70 | hb70
      ·replace hF := ifT hF hb70
       refine wl_yes rfl rfl rfl (vb hb70) ?_
       refine wl_load H66 (i := 0) rfl (Lens.id kTNego) ty29 rfl ?_
       intro v71 hv72
       refine wl_yes rfl rfl rfl (vb hb70) ?_
       refine wl_load H66 (i := 1) rfl (Lens.id kTNego) ty29 rfl ?_
       intro v73 hv74
       refine wl_yes rfl rfl rfl (vb hb70) ?_
       obtain ⟨r75, hr76, hF⟩ := bindS hF
       refine wl_call (vs := [v71, v73]) en22 rfl (portreeveref14_Same_ok hc hv72 hv74 H66 hr76) ?_
       rintro v81 w80 ⟨G77, hG78, rfl, H79⟩
       refine wl_rn (rn_pickT (.bool r75) (vb hb70) rfl) ?_
       refine wl_rn (rn_pure (.bool r75) rfl) ?_
       refine wl_nil (then_n ?_)
       refine wp_ret ?_
       refine then_r ?_
       have hF := Option.some.inj hF
       subst hF
       exact ret_mk rfl (RV.tmp rfl RV.nil) ⟨_, ((((hG8.trans hG34).trans hG45).trans hG65).trans hG78), rfl, (St.pk [] 2 H79 rfl (by decide))⟩
      ·replace hF := ifF hF hb70
       iterate 3 refine wl_no rfl rfl rfl (vb hb70) ?_
       refine wl_rn (rn_pickF (.bool false) (vb hb70) rfl) ?_
       refine wl_rn (rn_pure (.bool false) rfl) ?_
       refine wl_nil (then_n ?_)
       refine wp_ret ?_
       refine then_r ?_
       have hF := Option.some.inj hF
       subst hF
       exact ret_mk rfl (RV.tmp rfl RV.nil) ⟨_, (((hG8.trans hG34).trans hG45).trans hG65), rfl, (St.pk [] 2 H66 rfl (by decide))⟩
     ·replace hF := ifF hF hb69
      iterate 3 refine wl_no rfl rfl rfl (vb hb69) ?_
      refine wl_rn (rn_pickF (.bool false) (vb hb69) rfl) ?_
      refine wl_rn (rn_pure (.bool false) rfl) ?_
      iterate 3 refine wl_no rfl rfl rfl rfl ?_
      refine wl_rn (rn_pickF (.bool false) rfl rfl) ?_
      refine wl_rn (rn_pure (.bool false) rfl) ?_
      refine wl_nil (then_n ?_)
      refine wp_ret ?_
      refine then_r ?_
      have hF := Option.some.inj hF
      subst hF
      exact ret_mk rfl (RV.tmp rfl RV.nil) ⟨_, (((hG8.trans hG34).trans hG45).trans hG65), rfl, (St.pk [] 2 H66 rfl (by decide))⟩
    ·replace hF := ifF hF hb68
     refine wc_false (vb hb68) ?_
     refine wp_skip ?_
     refine then_n ?_
     refine wp_seq ?_
     refine wp_seq (join (fun a w => ∃ (T0 : Fr) (G1 : Ghost) (x92 : Bool), a = mk 113 (upds T0 [(1, (.int .u8 a1)), (2, (.slice A2_ a2.length c2_)), (3, (pt b1)), (7, (.bool r5)), (8, (pt b57)), (9, (.slice A51 r42.2.1.length c52)), (73, (.bool x92))]) ∧ GLe G67 G1 ∧ St c G1 w ((.box b57 29 (kTNego.at_ r42.1)) :: (.box b1 29 (kTNego.at_ a0)) :: σ) ∧ portreevelaw14_NegoEchoes_j3 a0 a1 a2 r5 r42 x92 = some r) ?_ ?_)
     ·rintro a w ⟨T0, G95, x92, rfl, hG93, H94, hF⟩
      rcases bcases x92 with hb96 | hb96
      ·replace hF := ifT hF hb96
       refine wc_true (vb hb96) ?_
       refine wp_seq (wc_region ?_)
       refine wl_rn (rn_pure (.bool false) rfl) ?_
       refine wl_nil (then_n ?_)
       refine wp_ret ?_
       refine then_r ?_
       have hF := Option.some.inj hF
       subst hF
       exact ret_mk rfl (RV.tmp rfl RV.nil) ⟨_, ((((hG8.trans hG34).trans hG45).trans hG65).trans hG93), rfl, (St.pk [] 2 H94 rfl (by decide))⟩
      ·replace hF := ifF hF hb96
       refine wc_false (vb hb96) ?_
       refine wp_skip ?_
       refine then_n ?_
       refine wp_seq (wc_region ?_)
       refine wl_rn (rn_pure (.slice A51 r42.2.1.length c52) rfl) ?_
       obtain ⟨x97, hx98, hF⟩ := bindS hF
       refine wl_rnE (rn_index (hs53.mono (hG65.trans hG93)) sl35 ty32 rfl rfl hx98) ?_
       intro a99 hp100
       refine wl_loadp H94 hp100 ty32 rfl ?_
       intro v101 hv102
       refine wl_alloc H94 zr32 ?_
       intro b103 w106 H104
       refine wl_store (z := x97) H104 (i := 0) rfl (Lens.id kTPkt) ty32 rfl rfl hv102 ?_
       intro w108 H107
       refine wl_nil (then_n ?_)
       refine wp_seq ?_
       refine wc_anyS (f := 37) H107 mixed ?_
       intro w109 H110
       refine any_pf (by repeat (first | exact PF.base | apply PF.then_ | apply PF.blk)) ?_
       intro hPF hns
       rcases bcases r5 with hb111 | hb111
       ·replace hF := ifT hF hb111
        rcases bcases (x97.Code == 10) with hb112 | hb112
        ·replace hF := ifT hF hb112
         rcases bcases (x97.Id == a1) with hb113 | hb113
         ·replace hF := ifT hF hb113
          obtain ⟨r119, hr120, hF⟩ := bindS hF
          obtain ⟨r123, hr124, hF⟩ := bindS hF
          obtain ⟨r132, hr133, hF⟩ := bindS hF
          rcases bcases (r123 == r132) with hb139 | hb139
          ·replace hF := ifT hF hb139
           obtain ⟨r145, hr146, hF⟩ := bindS hF
           obtain ⟨r149, hr150, hF⟩ := bindS hF
           rcases bcases (streq (bstr r145) (bstr r149)) with hb153 | hb153
           ·replace hF := ifT hF hb153
            obtain ⟨r158, hr159, hF⟩ := bindS hF
            refine any_memo (fuel := 3) (m := 17179869183) (fun a w => ∃ (T0 : Fr) (G1 : Ghost) (v243 : Value) (v245 : Value), a = mk 113 (upds T0 [(108, (.bool (streq (bstr r145) (bstr r149)))), (109, v243), (110, v245)]) ∧ GLe G95 G1 ∧ St c G1 w (σ) ∧ kTNego.V G1 v243 r42.1 ∧ kTNego.V G1 v245 a0) ?_ ?_
            ·rintro a w ⟨T0, G242, v243, v245, rfl, hG240, H241, hv244, hv246⟩
             refine any_alls [34] ⟨any_ops (m' := 34359738367) fun Q' hN => ?_, trivial⟩
             refine wl_yes rfl rfl rfl (vb hb153) ?_
             refine wl_call (vs := [v243, v245]) en22 rfl (portreeveref14_Same_ok hc hv244 hv246 H241 hr159) ?_
             rintro v256 w255 ⟨G252, hG253, rfl, H254⟩
             refine wl_nil (hN _ _ ?_)
             refine any_rn (i := 35) (m' := 68719476735) rfl (rn_pickT (.bool r158) (vb hb153) rfl) hPF hns ?_
             refine any_rn (i := 36) (m' := 137438953471) rfl (rn_pure (.bool r158) rfl) hPF hns ?_
             refine any_end ?_
             refine then_n ?_
             refine wp_ret ?_
             have hF := Option.some.inj hF
             subst hF
             exact ret_mk rfl (RV.tmp rfl RV.nil) ⟨_, ((((((hG8.trans hG34).trans hG45).trans hG65).trans hG93).trans hG240).trans hG253), rfl, H254⟩
            intro hM239
            refine any_memo (fuel := 8) (m := 536870911) (fun a w => ∃ (T0 : Fr) (G1 : Ghost), a = mk 113 (upds T0 [(3, (pt b1)), (8, (pt b57)), (98, (.bool (r123 == r132))), (102, (.string (bstr r145))), (105, (.string (bstr r149)))]) ∧ GLe G95 G1 ∧ St c G1 w ((.box b1 29 (kTNego.at_ a0)) :: (.box b57 29 (kTNego.at_ r42.1)) :: σ)) ?_ ?_
            ·rintro a w ⟨T0, G232, rfl, hG230, H231⟩
             refine any_rnG 98 true (i := 29) (m' := 1073741823) rfl (rn_pure (.bool (streq (bstr r145) (bstr r149))) rfl) (vb hb139) hPF hns ?_
             refine any_rn (i := 30) (m' := 2147483647) rfl (rn_pickT (.bool (streq (bstr r145) (bstr r149))) (vb hb139) rfl) hPF hns ?_
             refine any_rn (i := 31) (m' := 4294967295) rfl (rn_pure (.bool (streq (bstr r145) (bstr r149))) rfl) hPF hns ?_
             refine any_alls [32, 33] ⟨?_, ?_, trivial⟩
             ·refine any_ops (m' := 8589934591) fun Q' hN => ?_
              refine wl_yes rfl rfl rfl (vb hb153) ?_
              refine wl_load H231 (i := 1) rfl (Lens.id kTNego) ty29 rfl ?_
              intro v257 hv258
              refine wl_nil (hN _ _ ?_)
              refine any_alls [33] ⟨any_ops (m' := 17179869183) fun Q' hN => ?_, trivial⟩
              refine wl_yes rfl rfl rfl (vb hb153) ?_
              refine wl_load H231 (i := 0) rfl (Lens.id kTNego) ty29 rfl ?_
              intro v259 hv260
              refine wl_nil (hN _ _ ?_)
              exact hM239 _ _ ⟨_, _, v257, v259, frame_eq _ ⟨rfl, rfl, rfl, trivial⟩, hG230, (St.pk [] 2 H231 rfl (by decide)), hv258, hv260⟩
             ·refine any_ops (m' := 12884901887) fun Q' hN => ?_
              refine wl_yes rfl rfl rfl (vb hb153) ?_
              refine wl_load H231 (i := 0) rfl (Lens.id kTNego) ty29 rfl ?_
              intro v261 hv262
              refine wl_nil (hN _ _ ?_)
              refine any_alls [32] ⟨any_ops (m' := 17179869183) fun Q' hN => ?_, trivial⟩
              refine wl_yes rfl rfl rfl (vb hb153) ?_
              refine wl_load H231 (i := 1) rfl (Lens.id kTNego) ty29 rfl ?_
              intro v263 hv264
              refine wl_nil (hN _ _ ?_)
              exact hM239 _ _ ⟨_, _, v263, v261, frame_eq _ ⟨rfl, rfl, rfl, trivial⟩, hG230, (St.pk [] 2 H231 rfl (by decide)), hv264, hv262⟩
            intro hM229
            refine any_memo (fuel := 9) (m := 503316479) (fun a w => ∃ (T0 : Fr) (G1 : Ghost) (A226 : Option Addr) (c227 : Nat), a = mk 113 (upds T0 [(3, (pt b1)), (8, (pt b57)), (98, (.bool (r123 == r132))), (101, (.slice A226 r145.length c227)), (105, (.string (bstr r149)))]) ∧ GLe G95 G1 ∧ St c G1 w ((.box b1 29 (kTNego.at_ a0)) :: (.box b57 29 (kTNego.at_ r42.1)) :: σ) ∧ SlR kB G1 A226 c227 r145) ?_ ?_
            ·rintro a w ⟨T0, G225, A226, c227, rfl, hG223, H224, hs228⟩
             refine any_alls [25] ⟨any_ops (m' := 536870911) fun Q' hN => ?_, trivial⟩
             refine wl_yes rfl rfl rfl (vb hb139) ?_
             refine wl_bstr H224 hs228 sl30 un5 un9 rfl ?_
             refine wl_nil (hN _ _ ?_)
             exact hM229 _ _ ⟨_, _, frame_eq _ ⟨rfl, rfl, rfl, rfl, rfl, trivial⟩, hG223, H224⟩
            intro hM222
            refine any_memo (fuel := 19) (m := 262143) (fun a w => ∃ (T0 : Fr) (G1 : Ghost) (v201 : Value), a = mk 113 (upds T0 [(2, (.slice A2_ a2.length c2_)), (3, (pt b1)), (8, (pt b57)), (11, (pt b103)), (89, (.bool (x97.Id == a1))), (93, (.int .u32 r123)), (94, v201)]) ∧ GLe G95 G1 ∧ St c G1 w ((.box b1 29 (kTNego.at_ a0)) :: (.box b57 29 (kTNego.at_ r42.1)) :: (.box b103 32 (kTPkt.at_ x97)) :: σ) ∧ kTNego.V G1 v201 a0) ?_ ?_
            ·rintro a w ⟨T0, G200, v201, rfl, hG198, H199, hv202⟩
             refine any_alls [18] ⟨any_ops (m' := 524287) fun Q' hN => ?_, trivial⟩
             refine wl_yes rfl rfl rfl (vb hb113) ?_
             refine wl_call (vs := [v201]) en24 rfl (nego_Magic_ok hc hv202 H199 hr133) ?_
             rintro v269 w268 ⟨G265, hG266, rfl, H267⟩
             refine wl_nil (hN _ _ ?_)
             refine any_rnG 89 true (i := 19) (m' := 1048575) rfl (rn_pure (.bool (r123 == r132)) rfl) (vb hb113) hPF hns ?_
             refine any_rn (i := 20) (m' := 2097151) rfl (rn_pickT (.bool (r123 == r132)) (vb hb113) rfl) hPF hns ?_
             refine any_rn (i := 21) (m' := 4194303) rfl (rn_pure (.bool (r123 == r132)) rfl) hPF hns ?_
             refine any_rnG 98 true (i := 22) (m' := 8388607) rfl (rn_field fo32_2 rfl) (vb hb139) hPF hns ?_
             refine any_rnG 98 true (i := 26) (m' := 75497471) rfl (rn_pure (.slice A2_ a2.length c2_) rfl) (vb hb139) hPF hns ?_
             refine any_rnEG 98 true (i := 27) (m' := 209715199) rfl (rn_cut (lo := (some 4)) (hi := none) (h2_.mono ((((((hG8.trans hG34).trans hG45).trans hG65).trans hG93).trans hG198).trans hG266)) sl30 ty5 rfl ⟨_, rfl⟩ trivial hr150) (vb hb139) hPF hns ?_
             intro z270 hs271
             refine any_alls [23, 28] ⟨?_, ?_, trivial⟩
             ·refine any_ops (m' := 218103807) fun Q' hN => ?_
              refine wl_yes rfl rfl rfl (vb hb139) ?_
              refine wl_load H267 (i := 2) rfl lTPkt_Data ty30 rfl ?_
              intro v272 hv273
              obtain ⟨A274, c275, rfl, hs276⟩ := slice_V hv273
              refine wl_nil (hN _ _ ?_)
              refine any_rnEG 98 true (i := 24) (m' := 234881023) rfl (rn_cut (lo := (some 4)) (hi := none) hs276 sl30 ty5 rfl ⟨_, rfl⟩ trivial hr146) (vb hb139) hPF hns ?_
              intro z277 hs278
              refine any_alls [25, 28] ⟨?_, ?_, trivial⟩
              ·refine any_ops (m' := 268435455) fun Q' hN => ?_
               refine wl_yes rfl rfl rfl (vb hb139) ?_
               refine wl_bstr H267 hs278 sl30 un5 un9 rfl ?_
               refine wl_nil (hN _ _ ?_)
               refine any_alls [28] ⟨any_ops (m' := 536870911) fun Q' hN => ?_, trivial⟩
               refine wl_yes rfl rfl rfl (vb hb139) ?_
               refine wl_bstr H267 hs271 sl30 un5 un9 rfl ?_
               refine wl_nil (hN _ _ ?_)
               exact hM229 _ _ ⟨_, _, frame_eq _ ⟨rfl, rfl, rfl, rfl, rfl, trivial⟩, (hG198.trans hG266), (St.pk [0, 1] 3 H267 rfl (by decide))⟩
              ·refine any_ops (m' := 503316479) fun Q' hN => ?_
               refine wl_yes rfl rfl rfl (vb hb139) ?_
               refine wl_bstr H267 hs271 sl30 un5 un9 rfl ?_
               refine wl_nil (hN _ _ ?_)
               exact hM222 _ _ ⟨_, _, z277.1, z277.2, frame_eq _ ⟨rfl, rfl, rfl, rfl, rfl, trivial⟩, (hG198.trans hG266), (St.pk [0, 1] 3 H267 rfl (by decide)), hs278⟩
             ·refine any_ops (m' := 478150655) fun Q' hN => ?_
              refine wl_yes rfl rfl rfl (vb hb139) ?_
              refine wl_bstr H267 hs271 sl30 un5 un9 rfl ?_
              refine wl_nil (hN _ _ ?_)
              refine any_alls [23] ⟨any_ops (m' := 486539263) fun Q' hN => ?_, trivial⟩
              refine wl_yes rfl rfl rfl (vb hb139) ?_
              refine wl_load H267 (i := 2) rfl lTPkt_Data ty30 rfl ?_
              intro v279 hv280
              obtain ⟨A281, c282, rfl, hs283⟩ := slice_V hv280
              refine wl_nil (hN _ _ ?_)
              refine any_rnEG 98 true (i := 24) (m' := 503316479) rfl (rn_cut (lo := (some 4)) (hi := none) hs283 sl30 ty5 rfl ⟨_, rfl⟩ trivial hr146) (vb hb139) hPF hns ?_
              intro z284 hs285
              exact hM222 _ _ ⟨_, _, z284.1, z284.2, frame_eq _ ⟨rfl, rfl, rfl, rfl, rfl, trivial⟩, (hG198.trans hG266), (St.pk [0, 1] 3 H267 rfl (by decide)), hs285⟩
            intro hM197
            refine any_memo (fuel := 20) (m := 196607) (fun a w => ∃ (T0 : Fr) (G1 : Ghost) (A192 : Option Addr) (c193 : Nat) (v195 : Value), a = mk 113 (upds T0 [(2, (.slice A2_ a2.length c2_)), (3, (pt b1)), (8, (pt b57)), (11, (pt b103)), (89, (.bool (x97.Id == a1))), (92, (.slice A192 r119.length c193)), (94, v195)]) ∧ GLe G95 G1 ∧ St c G1 w ((.box b1 29 (kTNego.at_ a0)) :: (.box b57 29 (kTNego.at_ r42.1)) :: (.box b103 32 (kTPkt.at_ x97)) :: σ) ∧ SlR kB G1 A192 c193 r119 ∧ kTNego.V G1 v195 a0) ?_ ?_
            ·rintro a w ⟨T0, G191, A192, c193, v195, rfl, hG189, H190, hs194, hv196⟩
             refine any_alls [16] ⟨any_ops (m' := 262143) fun Q' hN => ?_, trivial⟩
             refine wl_yes rfl rfl rfl (vb hb113) ?_
             refine wl_call (vs := [(.slice A192 r119.length c193)]) en23 rfl (portreeveref10_Number_ok hc hs194 H190 hr124) ?_
             rintro v290 w289 ⟨G286, hG287, rfl, H288⟩
             refine wl_nil (hN _ _ ?_)
             exact hM197 _ _ ⟨_, _, v195, frame_eq _ ⟨rfl, rfl, rfl, rfl, rfl, rfl, rfl, trivial⟩, (hG189.trans hG287), H288, (hv196.mono hG287)⟩
            intro hM188
            refine any_rn (i := 0) (m' := 1) rfl (rn_pure (.bool r5) rfl) hPF hns ?_
            refine any_rn (i := 1) (m' := 3) rfl (rn_pure (.bool r5) rfl) hPF hns ?_
            refine any_rnG 78 true (i := 2) (m' := 7) rfl (rn_field fo32_0 rfl) (vb hb111) hPF hns ?_
            refine any_alls [3] ⟨any_ops (m' := 15) fun Q' hN => ?_, trivial⟩
            refine wl_yes rfl rfl rfl (vb hb111) ?_
            refine wl_loadd H110 (i := 0) rfl lTPkt_Code (dInt .u8) ty5 rfl ?_
            refine wl_nil (hN _ _ ?_)
            refine any_rnG 78 true (i := 4) (m' := 31) rfl (rn_pure (.bool (x97.Code == 10)) rfl) (vb hb111) hPF hns ?_
            refine any_rn (i := 5) (m' := 63) rfl (rn_pickT (.bool (x97.Code == 10)) (vb hb111) rfl) hPF hns ?_
            refine any_rn (i := 6) (m' := 127) rfl (rn_pure (.bool (x97.Code == 10)) rfl) hPF hns ?_
            refine any_rnG 83 true (i := 7) (m' := 255) rfl (rn_field fo32_1 rfl) (vb hb112) hPF hns ?_
            refine any_rnG 83 true (i := 9) (m' := 767) rfl (rn_pure (.int .u8 a1) rfl) (vb hb112) hPF hns ?_
            refine any_alls [8] ⟨any_ops (m' := 1023) fun Q' hN => ?_, trivial⟩
            refine wl_yes rfl rfl rfl (vb hb112) ?_
            refine wl_loadd H110 (i := 0) rfl lTPkt_Id (dInt .u8) ty5 rfl ?_
            refine wl_nil (hN _ _ ?_)
            refine any_rnG 83 true (i := 10) (m' := 2047) rfl (rn_pure (.bool (x97.Id == a1)) rfl) (vb hb112) hPF hns ?_
            refine any_rn (i := 11) (m' := 4095) rfl (rn_pickT (.bool (x97.Id == a1)) (vb hb112) rfl) hPF hns ?_
            refine any_rn (i := 12) (m' := 8191) rfl (rn_pure (.bool (x97.Id == a1)) rfl) hPF hns ?_
            refine any_rnG 89 true (i := 13) (m' := 16383) rfl (rn_field fo32_2 rfl) (vb hb113) hPF hns ?_
            refine any_alls [14, 17] ⟨?_, ?_, trivial⟩
            ·refine any_ops (m' := 32767) fun Q' hN => ?_
             refine wl_yes rfl rfl rfl (vb hb113) ?_
             refine wl_load H110 (i := 0) rfl lTPkt_Data ty30 rfl ?_
             intro v291 hv292
             obtain ⟨A293, c294, rfl, hs295⟩ := slice_V hv292
             refine wl_nil (hN _ _ ?_)
             refine any_rnEG 89 true (i := 15) (m' := 65535) rfl (rn_cut (lo := none) (hi := (some 4)) hs295 sl30 ty5 rfl trivial ⟨_, rfl⟩ hr120) (vb hb113) hPF hns ?_
             intro z296 hs297
             refine any_alls [16, 17] ⟨?_, ?_, trivial⟩
             ·refine any_ops (m' := 131071) fun Q' hN => ?_
              refine wl_yes rfl rfl rfl (vb hb113) ?_
              refine wl_call (vs := [(.slice z296.1 r119.length z296.2)]) en23 rfl (portreeveref10_Number_ok hc hs297 H110 hr124) ?_
              rintro v302 w301 ⟨G298, hG299, rfl, H300⟩
              refine wl_nil (hN _ _ ?_)
              refine any_alls [17] ⟨any_ops (m' := 262143) fun Q' hN => ?_, trivial⟩
              refine wl_yes rfl rfl rfl (vb hb113) ?_
              refine wl_load H300 (i := 2) rfl (Lens.id kTNego) ty29 rfl ?_
              intro v303 hv304
              refine wl_nil (hN _ _ ?_)
              exact hM197 _ _ ⟨_, _, v303, frame_eq _ ⟨rfl, rfl, rfl, rfl, rfl, rfl, rfl, trivial⟩, hG299, (St.pk [2, 1, 0] 3 H300 rfl (by decide)), hv304⟩
             ·refine any_ops (m' := 196607) fun Q' hN => ?_
              refine wl_yes rfl rfl rfl (vb hb113) ?_
              refine wl_load H110 (i := 2) rfl (Lens.id kTNego) ty29 rfl ?_
              intro v305 hv306
              refine wl_nil (hN _ _ ?_)
              exact hM188 _ _ ⟨_, _, z296.1, z296.2, v305, frame_eq _ ⟨rfl, rfl, rfl, rfl, rfl, rfl, rfl, trivial⟩, GLe.refl _, (St.pk [2, 1, 0] 3 H110 rfl (by decide)), hs297, hv306⟩
            ·refine any_ops (m' := 147455) fun Q' hN => ?_
             refine wl_yes rfl rfl rfl (vb hb113) ?_
             refine wl_load H110 (i := 2) rfl (Lens.id kTNego) ty29 rfl ?_
             intro v307 hv308
             refine wl_nil (hN _ _ ?_)
             refine any_alls [14] ⟨any_ops (m' := 163839) fun Q' hN => ?_, trivial⟩
             refine wl_yes rfl rfl rfl (vb hb113) ?_
             refine wl_load H110 (i := 0) rfl lTPkt_Data ty30 rfl ?_
             intro v309 hv310
             obtain ⟨A311, c312, rfl, hs313⟩ := slice_V hv310
             refine wl_nil (hN _ _ ?_)
             refine any_rnEG 89 true (i := 15) (m' := 196607) rfl (rn_cut (lo := none) (hi := (some 4)) hs313 sl30 ty5 rfl trivial ⟨_, rfl⟩ hr120) (vb hb113) hPF hns ?_
             intro z314 hs315
             exact hM188 _ _ ⟨_, _, z314.1, z314.2, v307, frame_eq _ ⟨rfl, rfl, rfl, rfl, rfl, rfl, rfl, trivial⟩, GLe.refl _, (St.pk [2, 1, 0] 3 H110 rfl (by decide)), hs315, hv308⟩
           ·replace hF := ifF hF hb153
            refine any_memo (fuel := 8) (m := 536870911) (fun a w => ∃ (T0 : Fr) (G1 : Ghost), a = mk 113 (upds T0 [(3, (pt b1)), (8, (pt b57)), (98, (.bool (r123 == r132))), (102, (.string (bstr r145))), (105, (.string (bstr r149)))]) ∧ GLe G95 G1 ∧ St c G1 w ((.box b1 29 (kTNego.at_ a0)) :: (.box b57 29 (kTNego.at_ r42.1)) :: σ)) ?_ ?_
            ·rintro a w ⟨T0, G383, rfl, hG381, H382⟩
             refine any_rnG 98 true (i := 29) (m' := 1073741823) rfl (rn_pure (.bool (streq (bstr r145) (bstr r149))) rfl) (vb hb139) hPF hns ?_
             refine any_rn (i := 30) (m' := 2147483647) rfl (rn_pickT (.bool (streq (bstr r145) (bstr r149))) (vb hb139) rfl) hPF hns ?_
             refine any_rn (i := 31) (m' := 4294967295) rfl (rn_pure (.bool (streq (bstr r145) (bstr r149))) rfl) hPF hns ?_
             refine any_offG (i := 32) (m' := 8589934591) 108 true rfl (vb hb153) hPF hns ?_
             refine any_offG (i := 33) (m' := 17179869183) 108 true rfl (vb hb153) hPF hns ?_
             refine any_offG (i := 34) (m' := 34359738367) 108 true rfl (vb hb153) hPF hns ?_
             refine any_rn (i := 35) (m' := 68719476735) rfl (rn_pickF (.bool false) (vb hb153) rfl) hPF hns ?_
             refine any_rn (i := 36) (m' := 137438953471) rfl (rn_pure (.bool false) rfl) hPF hns ?_
             refine any_end ?_
             refine then_n ?_
             refine wp_ret ?_
             have hF := Option.some.inj hF
             subst hF
             exact ret_mk rfl (RV.tmp rfl RV.nil) ⟨_, (((((hG8.trans hG34).trans hG45).trans hG65).trans hG93).trans hG381), rfl, (St.pk [] 2 H382 rfl (by decide))⟩
            intro hM380
            refine any_memo (fuel := 9) (m := 503316479) (fun a w => ∃ (T0 : Fr) (G1 : Ghost) (A377 : Option Addr) (c378 : Nat), a = mk 113 (upds T0 [(3, (pt b1)), (8, (pt b57)), (98, (.bool (r123 == r132))), (101, (.slice A377 r145.length c378)), (105, (.string (bstr r149)))]) ∧ GLe G95 G1 ∧ St c G1 w ((.box b1 29 (kTNego.at_ a0)) :: (.box b57 29 (kTNego.at_ r42.1)) :: σ) ∧ SlR kB G1 A377 c378 r145) ?_ ?_
            ·rintro a w ⟨T0, G376, A377, c378, rfl, hG374, H375, hs379⟩
             refine any_alls [25] ⟨any_ops (m' := 536870911) fun Q' hN => ?_, trivial⟩
             refine wl_yes rfl rfl rfl (vb hb139) ?_
             refine wl_bstr H375 hs379 sl30 un5 un9 rfl ?_
             refine wl_nil (hN _ _ ?_)
             exact hM380 _ _ ⟨_, _, frame_eq _ ⟨rfl, rfl, rfl, rfl, rfl, trivial⟩, hG374, H375⟩
            intro hM373
            refine any_memo (fuel := 19) (m := 262143) (fun a w => ∃ (T0 : Fr) (G1 : Ghost) (v352 : Value), a = mk 113 (upds T0 [(2, (.slice A2_ a2.length c2_)), (3, (pt b1)), (8, (pt b57)), (11, (pt b103)), (89, (.bool (x97.Id == a1))), (93, (.int .u32 r123)), (94, v352)]) ∧ GLe G95 G1 ∧ St c G1 w ((.box b1 29 (kTNego.at_ a0)) :: (.box b57 29 (kTNego.at_ r42.1)) :: (.box b103 32 (kTPkt.at_ x97)) :: σ) ∧ kTNego.V G1 v352 a0) ?_ ?_
            ·rintro a w ⟨T0, G351, v352, rfl, hG349, H350, hv353⟩
             refine any_alls [18] ⟨any_ops (m' := 524287) fun Q' hN => ?_, trivial⟩
             refine wl_yes rfl rfl rfl (vb hb113) ?_
             refine wl_call (vs := [v352]) en24 rfl (nego_Magic_ok hc hv353 H350 hr133) ?_
             rintro v388 w387 ⟨G384, hG385, rfl, H386⟩
             refine wl_nil (hN _ _ ?_)
             refine any_rnG 89 true (i := 19) (m' := 1048575) rfl (rn_pure (.bool (r123 == r132)) rfl) (vb hb113) hPF hns ?_
             refine any_rn (i := 20) (m' := 2097151) rfl (rn_pickT (.bool (r123 == r132)) (vb hb113) rfl) hPF hns ?_
             refine any_rn (i := 21) (m' := 4194303) rfl (rn_pure (.bool (r123 == r132)) rfl) hPF hns ?_
             refine any_rnG 98 true (i := 22) (m' := 8388607) rfl (rn_field fo32_2 rfl) (vb hb139) hPF hns ?_
             refine any_rnG 98 true (i := 26) (m' := 75497471) rfl (rn_pure (.slice A2_ a2.length c2_) rfl) (vb hb139) hPF hns ?_
             refine any_rnEG 98 true (i := 27) (m' := 209715199) rfl (rn_cut (lo := (some 4)) (hi := none) (h2_.mono ((((((hG8.trans hG34).trans hG45).trans hG65).trans hG93).trans hG349).trans hG385)) sl30 ty5 rfl ⟨_, rfl⟩ trivial hr150) (vb hb139) hPF hns ?_
             intro z389 hs390
             refine any_alls [23, 28] ⟨?_, ?_, trivial⟩
             ·refine any_ops (m' := 218103807) fun Q' hN => ?_
              refine wl_yes rfl rfl rfl (vb hb139) ?_
              refine wl_load H386 (i := 2) rfl lTPkt_Data ty30 rfl ?_
              intro v391 hv392
              obtain ⟨A393, c394, rfl, hs395⟩ := slice_V hv392
              refine wl_nil (hN _ _ ?_)
              refine any_rnEG 98 true (i := 24) (m' := 234881023) rfl (rn_cut (lo := (some 4)) (hi := none) hs395 sl30 ty5 rfl ⟨_, rfl⟩ trivial hr146) (vb hb139) hPF hns ?_
              intro z396 hs397
              refine any_alls [25, 28] ⟨?_, ?_, trivial⟩
              ·refine any_ops (m' := 268435455) fun Q' hN => ?_
               refine wl_yes rfl rfl rfl (vb hb139) ?_
               refine wl_bstr H386 hs397 sl30 un5 un9 rfl ?_
               refine wl_nil (hN _ _ ?_)
               refine any_alls [28] ⟨any_ops (m' := 536870911) fun Q' hN => ?_, trivial⟩
               refine wl_yes rfl rfl rfl (vb hb139) ?_
               refine wl_bstr H386 hs390 sl30 un5 un9 rfl ?_
               refine wl_nil (hN _ _ ?_)
               exact hM380 _ _ ⟨_, _, frame_eq _ ⟨rfl, rfl, rfl, rfl, rfl, trivial⟩, (hG349.trans hG385), (St.pk [0, 1] 3 H386 rfl (by decide))⟩
              ·refine any_ops (m' := 503316479) fun Q' hN => ?_
               refine wl_yes rfl rfl rfl (vb hb139) ?_
               refine wl_bstr H386 hs390 sl30 un5 un9 rfl ?_
               refine wl_nil (hN _ _ ?_)
               exact hM373 _ _ ⟨_, _, z396.1, z396.2, frame_eq _ ⟨rfl, rfl, rfl, rfl, rfl, trivial⟩, (hG349.trans hG385), (St.pk [0, 1] 3 H386 rfl (by decide)), hs397⟩
             ·refine any_ops (m' := 478150655) fun Q' hN => ?_
              refine wl_yes rfl rfl rfl (vb hb139) ?_
              refine wl_bstr H386 hs390 sl30 un5 un9 rfl ?_
              refine wl_nil (hN _ _ ?_)
              refine any_alls [23] ⟨any_ops (m' := 486539263) fun Q' hN => ?_, trivial⟩
              refine wl_yes rfl rfl rfl (vb hb139) ?_
              refine wl_load H386 (i := 2) rfl lTPkt_Data ty30 rfl ?_
              intro v398 hv399
              obtain ⟨A400, c401, rfl, hs402⟩ := slice_V hv399
              refine wl_nil (hN _ _ ?_)
              refine any_rnEG 98 true (i := 24) (m' := 503316479) rfl (rn_cut (lo := (some 4)) (hi := none) hs402 sl30 ty5 rfl ⟨_, rfl⟩ trivial hr146) (vb hb139) hPF hns ?_
              intro z403 hs404
              exact hM373 _ _ ⟨_, _, z403.1, z403.2, frame_eq _ ⟨rfl, rfl, rfl, rfl, rfl, trivial⟩, (hG349.trans hG385), (St.pk [0, 1] 3 H386 rfl (by decide)), hs404⟩
            intro hM348
            refine any_memo (fuel := 20) (m := 196607) (fun a w => ∃ (T0 : Fr) (G1 : Ghost) (A343 : Option Addr) (c344 : Nat) (v346 : Value), a = mk 113 (upds T0 [(2, (.slice A2_ a2.length c2_)), (3, (pt b1)), (8, (pt b57)), (11, (pt b103)), (89, (.bool (x97.Id == a1))), (92, (.slice A343 r119.length c344)), (94, v346)]) ∧ GLe G95 G1 ∧ St c G1 w ((.box b1 29 (kTNego.at_ a0)) :: (.box b57 29 (kTNego.at_ r42.1)) :: (.box b103 32 (kTPkt.at_ x97)) :: σ) ∧ SlR kB G1 A343 c344 r119 ∧ kTNego.V G1 v346 a0) ?_ ?_
            ·rintro a w ⟨T0, G342, A343, c344, v346, rfl, hG340, H341, hs345, hv347⟩
             refine any_alls [16] ⟨any_ops (m' := 262143) fun Q' hN => ?_, trivial⟩
             refine wl_yes rfl rfl rfl (vb hb113) ?_
             refine wl_call (vs := [(.slice A343 r119.length c344)]) en23 rfl (portreeveref10_Number_ok hc hs345 H341 hr124) ?_
             rintro v409 w408 ⟨G405, hG406, rfl, H407⟩
             refine wl_nil (hN _ _ ?_)
             exact hM348 _ _ ⟨_, _, v346, frame_eq _ ⟨rfl, rfl, rfl, rfl, rfl, rfl, rfl, trivial⟩, (hG340.trans hG406), H407, (hv347.mono hG406)⟩
            intro hM339
            refine any_rn (i := 0) (m' := 1) rfl (rn_pure (.bool r5) rfl) hPF hns ?_
            refine any_rn (i := 1) (m' := 3) rfl (rn_pure (.bool r5) rfl) hPF hns ?_
            refine any_rnG 78 true (i := 2) (m' := 7) rfl (rn_field fo32_0 rfl) (vb hb111) hPF hns ?_
            refine any_alls [3] ⟨any_ops (m' := 15) fun Q' hN => ?_, trivial⟩
            refine wl_yes rfl rfl rfl (vb hb111) ?_
            refine wl_loadd H110 (i := 0) rfl lTPkt_Code (dInt .u8) ty5 rfl ?_
            refine wl_nil (hN _ _ ?_)
            refine any_rnG 78 true (i := 4) (m' := 31) rfl (rn_pure (.bool (x97.Code == 10)) rfl) (vb hb111) hPF hns ?_
            refine any_rn (i := 5) (m' := 63) rfl (rn_pickT (.bool (x97.Code == 10)) (vb hb111) rfl) hPF hns ?_
            refine any_rn (i := 6) (m' := 127) rfl (rn_pure (.bool (x97.Code == 10)) rfl) hPF hns ?_
            refine any_rnG 83 true (i := 7) (m' := 255) rfl (rn_field fo32_1 rfl) (vb hb112) hPF hns ?_
            refine any_rnG 83 true (i := 9) (m' := 767) rfl (rn_pure (.int .u8 a1) rfl) (vb hb112) hPF hns ?_
            refine any_alls [8] ⟨any_ops (m' := 1023) fun Q' hN => ?_, trivial⟩
            refine wl_yes rfl rfl rfl (vb hb112) ?_
            refine wl_loadd H110 (i := 0) rfl lTPkt_Id (dInt .u8) ty5 rfl ?_
            refine wl_nil (hN _ _ ?_)
            refine any_rnG 83 true (i := 10) (m' := 2047) rfl (rn_pure (.bool (x97.Id == a1)) rfl) (vb hb112) hPF hns ?_
            refine any_rn (i := 11) (m' := 4095) rfl (rn_pickT (.bool (x97.Id == a1)) (vb hb112) rfl) hPF hns ?_
            refine any_rn (i := 12) (m' := 8191) rfl (rn_pure (.bool (x97.Id == a1)) rfl) hPF hns ?_
            refine any_rnG 89 true (i := 13) (m' := 16383) rfl (rn_field fo32_2 rfl) (vb hb113) hPF hns ?_
            refine any_alls [14, 17] ⟨?_, ?_, trivial⟩
            ·refine any_ops (m' := 32767) fun Q' hN => ?_
             refine wl_yes rfl rfl rfl (vb hb113) ?_
             refine wl_load H110 (i := 0) rfl lTPkt_Data ty30 rfl ?_
             intro v410 hv411
             obtain ⟨A412, c413, rfl, hs414⟩ := slice_V hv411
             refine wl_nil (hN _ _ ?_)
             refine any_rnEG 89 true (i := 15) (m' := 65535) rfl (rn_cut (lo := none) (hi := (some 4)) hs414 sl30 ty5 rfl trivial ⟨_, rfl⟩ hr120) (vb hb113) hPF hns ?_
             intro z415 hs416
             refine any_alls [16, 17] ⟨?_, ?_, trivial⟩
             ·refine any_ops (m' := 131071) fun Q' hN => ?_
              refine wl_yes rfl rfl rfl (vb hb113) ?_
              refine wl_call (vs := [(.slice z415.1 r119.length z415.2)]) en23 rfl (portreeveref10_Number_ok hc hs416 H110 hr124) ?_
              rintro v421 w420 ⟨G417, hG418, rfl, H419⟩
              refine wl_nil (hN _ _ ?_)
              refine any_alls [17] ⟨any_ops (m' := 262143) fun Q' hN => ?_, trivial⟩
              refine wl_yes rfl rfl rfl (vb hb113) ?_
              refine wl_load H419 (i := 2) rfl (Lens.id kTNego) ty29 rfl ?_
              intro v422 hv423
              refine wl_nil (hN _ _ ?_)
              exact hM348 _ _ ⟨_, _, v422, frame_eq _ ⟨rfl, rfl, rfl, rfl, rfl, rfl, rfl, trivial⟩, hG418, (St.pk [2, 1, 0] 3 H419 rfl (by decide)), hv423⟩
             ·refine any_ops (m' := 196607) fun Q' hN => ?_
              refine wl_yes rfl rfl rfl (vb hb113) ?_
              refine wl_load H110 (i := 2) rfl (Lens.id kTNego) ty29 rfl ?_
              intro v424 hv425
              refine wl_nil (hN _ _ ?_)
              exact hM339 _ _ ⟨_, _, z415.1, z415.2, v424, frame_eq _ ⟨rfl, rfl, rfl, rfl, rfl, rfl, rfl, trivial⟩, GLe.refl _, (St.pk [2, 1, 0] 3 H110 rfl (by decide)), hs416, hv425⟩
            ·refine any_ops (m' := 147455) fun Q' hN => ?_
             refine wl_yes rfl rfl rfl (vb hb113) ?_
             refine wl_load H110 (i := 2) rfl (Lens.id kTNego) ty29 rfl ?_
             intro v426 hv427
             refine wl_nil (hN _ _ ?_)
             refine any_alls [14] ⟨any_ops (m' := 163839) fun Q' hN => ?_, trivial⟩
             refine wl_yes rfl rfl rfl (vb hb113) ?_
             refine wl_load H110 (i := 0) rfl lTPkt_Data ty30 rfl ?_
             intro v428 hv429
             obtain ⟨A430, c431, rfl, hs432⟩ := slice_V hv429
             refine wl_nil (hN _ _ ?_)
             refine any_rnEG 89 true (i := 15) (m' := 196607) rfl (rn_cut (lo := none) (hi := (some 4)) hs432 sl30 ty5 rfl trivial ⟨_, rfl⟩ hr120) (vb hb113) hPF hns ?_
             intro z433 hs434
             exact hM339 _ _ ⟨_, _, z433.1, z433.2, v426, frame_eq _ ⟨rfl, rfl, rfl, rfl, rfl, rfl, rfl, trivial⟩, GLe.refl _, (St.pk [2, 1, 0] 3 H110 rfl (by decide)), hs434, hv427⟩
          ·replace hF := ifF hF hb139
           refine any_memo (fuel := 19) (m := 262143) (fun a w => ∃ (T0 : Fr) (G1 : Ghost) (v471 : Value), a = mk 113 (upds T0 [(2, (.slice A2_ a2.length c2_)), (3, (pt b1)), (8, (pt b57)), (11, (pt b103)), (89, (.bool (x97.Id == a1))), (93, (.int .u32 r123)), (94, v471)]) ∧ GLe G95 G1 ∧ St c G1 w ((.box b1 29 (kTNego.at_ a0)) :: (.box b57 29 (kTNego.at_ r42.1)) :: (.box b103 32 (kTPkt.at_ x97)) :: σ) ∧ kTNego.V G1 v471 a0) ?_ ?_
           ·rintro a w ⟨T0, G470, v471, rfl, hG468, H469, hv472⟩
            refine any_alls [18] ⟨any_ops (m' := 524287) fun Q' hN => ?_, trivial⟩
            refine wl_yes rfl rfl rfl (vb hb113) ?_
            refine wl_call (vs := [v471]) en24 rfl (nego_Magic_ok hc hv472 H469 hr133) ?_
            rintro v482 w481 ⟨G478, hG479, rfl, H480⟩
            refine wl_nil (hN _ _ ?_)
            refine any_rnG 89 true (i := 19) (m' := 1048575) rfl (rn_pure (.bool (r123 == r132)) rfl) (vb hb113) hPF hns ?_
            refine any_rn (i := 20) (m' := 2097151) rfl (rn_pickT (.bool (r123 == r132)) (vb hb113) rfl) hPF hns ?_
            refine any_rn (i := 21) (m' := 4194303) rfl (rn_pure (.bool (r123 == r132)) rfl) hPF hns ?_
            refine any_offG (i := 22) (m' := 8388607) 98 true rfl (vb hb139) hPF hns ?_
            refine any_offG (i := 23) (m' := 16777215) 98 true rfl (vb hb139) hPF hns ?_
            refine any_offG (i := 24) (m' := 33554431) 98 true rfl (vb hb139) hPF hns ?_
            refine any_offG (i := 25) (m' := 67108863) 98 true rfl (vb hb139) hPF hns ?_
            refine any_offG (i := 26) (m' := 134217727) 98 true rfl (vb hb139) hPF hns ?_
            refine any_offG (i := 27) (m' := 268435455) 98 true rfl (vb hb139) hPF hns ?_
            refine any_offG (i := 28) (m' := 536870911) 98 true rfl (vb hb139) hPF hns ?_
            refine any_offG (i := 29) (m' := 1073741823) 98 true rfl (vb hb139) hPF hns ?_
            refine any_rn (i := 30) (m' := 2147483647) rfl (rn_pickF (.bool false) (vb hb139) rfl) hPF hns ?_
            refine any_rn (i := 31) (m' := 4294967295) rfl (rn_pure (.bool false) rfl) hPF hns ?_
            refine any_offG (i := 32) (m' := 8589934591) 108 true rfl rfl hPF hns ?_
            refine any_offG (i := 33) (m' := 17179869183) 108 true rfl rfl hPF hns ?_
            refine any_offG (i := 34) (m' := 34359738367) 108 true rfl rfl hPF hns ?_
            refine any_rn (i := 35) (m' := 68719476735) rfl (rn_pickF (.bool false) rfl rfl) hPF hns ?_
            refine any_rn (i := 36) (m' := 137438953471) rfl (rn_pure (.bool false) rfl) hPF hns ?_
            refine any_end ?_
            refine then_n ?_
            refine wp_ret ?_
            have hF := Option.some.inj hF
            subst hF
            exact ret_mk rfl (RV.tmp rfl RV.nil) ⟨_, ((((((hG8.trans hG34).trans hG45).trans hG65).trans hG93).trans hG468).trans hG479), rfl, (St.pk [] 3 H480 rfl (by decide))⟩
           intro hM467
           refine any_memo (fuel := 20) (m := 196607) (fun a w => ∃ (T0 : Fr) (G1 : Ghost) (A462 : Option Addr) (c463 : Nat) (v465 : Value), a = mk 113 (upds T0 [(2, (.slice A2_ a2.length c2_)), (3, (pt b1)), (8, (pt b57)), (11, (pt b103)), (89, (.bool (x97.Id == a1))), (92, (.slice A462 r119.length c463)), (94, v465)]) ∧ GLe G95 G1 ∧ St c G1 w ((.box b1 29 (kTNego.at_ a0)) :: (.box b57 29 (kTNego.at_ r42.1)) :: (.box b103 32 (kTPkt.at_ x97)) :: σ) ∧ SlR kB G1 A462 c463 r119 ∧ kTNego.V G1 v465 a0) ?_ ?_
           ·rintro a w ⟨T0, G461, A462, c463, v465, rfl, hG459, H460, hs464, hv466⟩
            refine any_alls [16] ⟨any_ops (m' := 262143) fun Q' hN => ?_, trivial⟩
            refine wl_yes rfl rfl rfl (vb hb113) ?_
            refine wl_call (vs := [(.slice A462 r119.length c463)]) en23 rfl (portreeveref10_Number_ok hc hs464 H460 hr124) ?_
            rintro v487 w486 ⟨G483, hG484, rfl, H485⟩
            refine wl_nil (hN _ _ ?_)
            exact hM467 _ _ ⟨_, _, v465, frame_eq _ ⟨rfl, rfl, rfl, rfl, rfl, rfl, rfl, trivial⟩, (hG459.trans hG484), H485, (hv466.mono hG484)⟩
           intro hM458
           refine any_rn (i := 0) (m' := 1) rfl (rn_pure (.bool r5) rfl) hPF hns ?_
           refine any_rn (i := 1) (m' := 3) rfl (rn_pure (.bool r5) rfl) hPF hns ?_
           refine any_rnG 78 true (i := 2) (m' := 7) rfl (rn_field fo32_0 rfl) (vb hb111) hPF hns ?_
           refine any_alls [3] ⟨any_ops (m' := 15) fun Q' hN => ?_, trivial⟩
           refine wl_yes rfl rfl rfl (vb hb111) ?_
           refine wl_loadd H110 (i := 0) rfl lTPkt_Code (dInt .u8) ty5 rfl ?_
           refine wl_nil (hN _ _ ?_)
           refine any_rnG 78 true (i := 4) (m' := 31) rfl (rn_pure (.bool (x97.Code == 10)) rfl) (vb hb111) hPF hns ?_
           refine any_rn (i := 5) (m' := 63) rfl (rn_pickT (.bool (x97.Code == 10)) (vb hb111) rfl) hPF hns ?_
           refine any_rn (i := 6) (m' := 127) rfl (rn_pure (.bool (x97.Code == 10)) rfl) hPF hns ?_
           refine any_rnG 83 true (i := 7) (m' := 255) rfl (rn_field fo32_1 rfl) (vb hb112) hPF hns ?_
           refine any_rnG 83 true (i := 9) (m' := 767) rfl (rn_pure (.int .u8 a1) rfl) (vb hb112) hPF hns ?_
           refine any_alls [8] ⟨any_ops (m' := 1023) fun Q' hN => ?_, trivial⟩
           refine wl_yes rfl rfl rfl (vb hb112) ?_
           refine wl_loadd H110 (i := 0) rfl lTPkt_Id (dInt .u8) ty5 rfl ?_
           refine wl_nil (hN _ _ ?_)
           refine any_rnG 83 true (i := 10) (m' := 2047) rfl (rn_pure (.bool (x97.Id == a1)) rfl) (vb hb112) hPF hns ?_
           refine any_rn (i := 11) (m' := 4095) rfl (rn_pickT (.bool (x97.Id == a1)) (vb hb112) rfl) hPF hns ?_
           refine any_rn (i := 12) (m' := 8191) rfl (rn_pure (.bool (x97.Id == a1)) rfl) hPF hns ?_
           refine any_rnG 89 true (i := 13) (m' := 16383) rfl (rn_field fo32_2 rfl) (vb hb113) hPF hns ?_
           refine any_alls [14, 17] ⟨?_, ?_, trivial⟩
           ·refine any_ops (m' := 32767) fun Q' hN => ?_
            refine wl_yes rfl rfl rfl (vb hb113) ?_
            refine wl_load H110 (i := 0) rfl lTPkt_Data ty30 rfl ?_
            intro v488 hv489
            obtain ⟨A490, c491, rfl, hs492⟩ := slice_V hv489
            refine wl_nil (hN _ _ ?_)
            refine any_rnEG 89 true (i := 15) (m' := 65535) rfl (rn_cut (lo := none) (hi := (some 4)) hs492 sl30 ty5 rfl trivial ⟨_, rfl⟩ hr120) (vb hb113) hPF hns ?_
            intro z493 hs494
            refine any_alls [16, 17] ⟨?_, ?_, trivial⟩
            ·refine any_ops (m' := 131071) fun Q' hN => ?_
             refine wl_yes rfl rfl rfl (vb hb113) ?_
             refine wl_call (vs := [(.slice z493.1 r119.length z493.2)]) en23 rfl (portreeveref10_Number_ok hc hs494 H110 hr124) ?_
             rintro v499 w498 ⟨G495, hG496, rfl, H497⟩
             refine wl_nil (hN _ _ ?_)
             refine any_alls [17] ⟨any_ops (m' := 262143) fun Q' hN => ?_, trivial⟩
             refine wl_yes rfl rfl rfl (vb hb113) ?_
             refine wl_load H497 (i := 2) rfl (Lens.id kTNego) ty29 rfl ?_
             intro v500 hv501
             refine wl_nil (hN _ _ ?_)
             exact hM467 _ _ ⟨_, _, v500, frame_eq _ ⟨rfl, rfl, rfl, rfl, rfl, rfl, rfl, trivial⟩, hG496, (St.pk [2, 1, 0] 3 H497 rfl (by decide)), hv501⟩
            ·refine any_ops (m' := 196607) fun Q' hN => ?_
             refine wl_yes rfl rfl rfl (vb hb113) ?_
             refine wl_load H110 (i := 2) rfl (Lens.id kTNego) ty29 rfl ?_
             intro v502 hv503
             refine wl_nil (hN _ _ ?_)
             exact hM458 _ _ ⟨_, _, z493.1, z493.2, v502, frame_eq _ ⟨rfl, rfl, rfl, rfl, rfl, rfl, rfl, trivial⟩, GLe.refl _, (St.pk [2, 1, 0] 3 H110 rfl (by decide)), hs494, hv503⟩
           ·refine any_ops (m' := 147455) fun Q' hN => ?_
            refine wl_yes rfl rfl rfl (vb hb113) ?_
            refine wl_load H110 (i := 2) rfl (Lens.id kTNego) ty29 rfl ?_
            intro v504 hv505
            refine wl_nil (hN _ _ ?_)
            refine any_alls [14] ⟨any_ops (m' := 163839) fun Q' hN => ?_, trivial⟩
            refine wl_yes rfl rfl rfl (vb hb113) ?_
            refine wl_load H110 (i := 0) rfl lTPkt_Data ty30 rfl ?_
            intro v506 hv507
            obtain ⟨A508, c509, rfl, hs510⟩ := slice_V hv507
            refine wl_nil (hN _ _ ?_)
            refine any_rnEG 89 true (i := 15) (m' := 196607) rfl (rn_cut (lo := none) (hi := (some 4)) hs510 sl30 ty5 rfl trivial ⟨_, rfl⟩ hr120) (vb hb113) hPF hns ?_
            intro z511 hs512
            exact hM458 _ _ ⟨_, _, z511.1, z511.2, v504, frame_eq _ ⟨rfl, rfl, rfl, rfl, rfl, rfl, rfl, trivial⟩, GLe.refl _, (St.pk [2, 1, 0] 3 H110 rfl (by decide)), hs512, hv505⟩
         ·replace hF := ifF hF hb113
          refine any_rn (i := 0) (m' := 1) rfl (rn_pure (.bool r5) rfl) hPF hns ?_
          refine any_rn (i := 1) (m' := 3) rfl (rn_pure (.bool r5) rfl) hPF hns ?_
          refine any_rnG 78 true (i := 2) (m' := 7) rfl (rn_field fo32_0 rfl) (vb hb111) hPF hns ?_
          refine any_alls [3] ⟨any_ops (m' := 15) fun Q' hN => ?_, trivial⟩
          refine wl_yes rfl rfl rfl (vb hb111) ?_
          refine wl_loadd H110 (i := 0) rfl lTPkt_Code (dInt .u8) ty5 rfl ?_
          refine wl_nil (hN _ _ ?_)
          refine any_rnG 78 true (i := 4) (m' := 31) rfl (rn_pure (.bool (x97.Code == 10)) rfl) (vb hb111) hPF hns ?_
          refine any_rn (i := 5) (m' := 63) rfl (rn_pickT (.bool (x97.Code == 10)) (vb hb111) rfl) hPF hns ?_
          refine any_rn (i := 6) (m' := 127) rfl (rn_pure (.bool (x97.Code == 10)) rfl) hPF hns ?_
          refine any_rnG 83 true (i := 7) (m' := 255) rfl (rn_field fo32_1 rfl) (vb hb112) hPF hns ?_
          refine any_rnG 83 true (i := 9) (m' := 767) rfl (rn_pure (.int .u8 a1) rfl) (vb hb112) hPF hns ?_
          refine any_alls [8] ⟨any_ops (m' := 1023) fun Q' hN => ?_, trivial⟩
          refine wl_yes rfl rfl rfl (vb hb112) ?_
          refine wl_loadd H110 (i := 0) rfl lTPkt_Id (dInt .u8) ty5 rfl ?_
          refine wl_nil (hN _ _ ?_)
          refine any_rnG 83 true (i := 10) (m' := 2047) rfl (rn_pure (.bool (x97.Id == a1)) rfl) (vb hb112) hPF hns ?_
          refine any_rn (i := 11) (m' := 4095) rfl (rn_pickT (.bool (x97.Id == a1)) (vb hb112) rfl) hPF hns ?_
          refine any_rn (i := 12) (m' := 8191) rfl (rn_pure (.bool (x97.Id == a1)) rfl) hPF hns ?_
          refine any_offG (i := 13) (m' := 16383) 89 true rfl (vb hb113) hPF hns ?_
          refine any_offG (i := 14) (m' := 32767) 89 true rfl (vb hb113) hPF hns ?_
          refine any_offG (i := 15) (m' := 65535) 89 true rfl (vb hb113) hPF hns ?_
          refine any_offG (i := 16) (m' := 131071) 89 true rfl (vb hb113) hPF hns ?_
          refine any_offG (i := 17) (m' := 262143) 89 true rfl (vb hb113) hPF hns ?_
          refine any_offG (i := 18) (m' := 524287) 89 true rfl (vb hb113) hPF hns ?_
          refine any_offG (i := 19) (m' := 1048575) 89 true rfl (vb hb113) hPF hns ?_
          refine any_rn (i := 20) (m' := 2097151) rfl (rn_pickF (.bool false) (vb hb113) rfl) hPF hns ?_
          refine any_rn (i := 21) (m' := 4194303) rfl (rn_pure (.bool false) rfl) hPF hns ?_
          refine any_offG (i := 22) (m' := 8388607) 98 true rfl rfl hPF hns ?_
          refine any_offG (i := 23) (m' := 16777215) 98 true rfl rfl hPF hns ?_
          refine any_offG (i := 24) (m' := 33554431) 98 true rfl rfl hPF hns ?_
          refine any_offG (i := 25) (m' := 67108863) 98 true rfl rfl hPF hns ?_
          refine any_offG (i := 26) (m' := 134217727) 98 true rfl rfl hPF hns ?_
          refine any_offG (i := 27) (m' := 268435455) 98 true rfl rfl hPF hns ?_
          refine any_offG (i := 28) (m' := 536870911) 98 true rfl rfl hPF hns ?_
          refine any_offG (i := 29) (m' := 1073741823) 98 true rfl rfl hPF hns ?_
          refine any_rn (i := 30) (m' := 2147483647) rfl (rn_pickF (.bool false) rfl rfl) hPF hns ?_
          refine any_rn (i := 31) (m' := 4294967295) rfl (rn_pure (.bool false) rfl) hPF hns ?_
          refine any_offG (i := 32) (m' := 8589934591) 108 true rfl rfl hPF hns ?_
          refine any_offG (i := 33) (m' := 17179869183) 108 true rfl rfl hPF hns ?_
          refine any_offG (i := 34) (m' := 34359738367) 108 true rfl rfl hPF hns ?_
          refine any_rn (i := 35) (m' := 68719476735) rfl (rn_pickF (.bool false) rfl rfl) hPF hns ?_
          refine any_rn (i := 36) (m' := 137438953471) rfl (rn_pure (.bool false) rfl) hPF hns ?_
          refine any_end ?_
          refine then_n ?_
          refine wp_ret ?_
          have hF := Option.some.inj hF
          subst hF
          exact ret_mk rfl (RV.tmp rfl RV.nil) ⟨_, ((((hG8.trans hG34).trans hG45).trans hG65).trans hG93), rfl, (St.pk [] 3 H110 rfl (by decide))⟩
        ·replace hF := ifF hF hb112
         refine any_rn (i := 0) (m' := 1) rfl (rn_pure (.bool r5) rfl) hPF hns ?_
         refine any_rn (i := 1) (m' := 3) rfl (rn_pure (.bool r5) rfl) hPF hns ?_
         refine any_rnG 78 true (i := 2) (m' := 7) rfl (rn_field fo32_0 rfl) (vb hb111) hPF hns ?_
         refine any_alls [3] ⟨any_ops (m' := 15) fun Q' hN => ?_, trivial⟩
         refine wl_yes rfl rfl rfl (vb hb111) ?_
         refine wl_loadd H110 (i := 0) rfl lTPkt_Code (dInt .u8) ty5 rfl ?_
         refine wl_nil (hN _ _ ?_)
         refine any_rnG 78 true (i := 4) (m' := 31) rfl (rn_pure (.bool (x97.Code == 10)) rfl) (vb hb111) hPF hns ?_
         refine any_rn (i := 5) (m' := 63) rfl (rn_pickT (.bool (x97.Code == 10)) (vb hb111) rfl) hPF hns ?_
         refine any_rn (i := 6) (m' := 127) rfl (rn_pure (.bool (x97.Code == 10)) rfl) hPF hns ?_
         refine any_offG (i := 7) (m' := 255) 83 true rfl (vb hb112) hPF hns ?_
         refine any_offG (i := 8) (m' := 511) 83 true rfl (vb hb112) hPF hns ?_
         refine any_offG (i := 9) (m' := 1023) 83 true rfl (vb hb112) hPF hns ?_
         refine any_offG (i := 10) (m' := 2047) 83 true rfl (vb hb112) hPF hns ?_
         refine any_rn (i := 11) (m' := 4095) rfl (rn_pickF (.bool false) (vb hb112) rfl) hPF hns ?_
         refine any_rn (i := 12) (m' := 8191) rfl (rn_pure (.bool false) rfl) hPF hns ?_
         refine any_offG (i := 13) (m' := 16383) 89 true rfl rfl hPF hns ?_
         refine any_offG (i := 14) (m' := 32767) 89 true rfl rfl hPF hns ?_
         refine any_offG (i := 15) (m' := 65535) 89 true rfl rfl hPF hns ?_
         refine any_offG (i := 16) (m' := 131071) 89 true rfl rfl hPF hns ?_
         refine any_offG (i := 17) (m' := 262143) 89 true rfl rfl hPF hns ?_
         refine any_offG (i := 18) (m' := 524287) 89 true rfl rfl hPF hns ?_
         refine any_offG (i := 19) (m' := 1048575) 89 true rfl rfl hPF hns ?_
         refine any_rn (i := 20) (m' := 2097151) rfl (rn_pickF (.bool false) rfl rfl) hPF hns ?_
         refine any_rn (i := 21) (m' := 4194303) rfl (rn_pure (.bool false) rfl) hPF hns ?_
         refine any_offG (i := 22) (m' := 8388607) 98 true rfl rfl hPF hns ?_
         refine any_offG (i := 23) (m' := 16777215) 98 true rfl rfl hPF hns ?_
         refine any_offG (i := 24) (m' := 33554431) 98 true rfl rfl hPF hns ?_
         refine any_offG (i := 25) (m' := 67108863) 98 true rfl rfl hPF hns ?_
         refine any_offG (i := 26) (m' := 134217727) 98 true rfl rfl hPF hns ?_
         refine any_offG (i := 27) (m' := 268435455) 98 true rfl rfl hPF hns ?_
         refine any_offG (i := 28) (m' := 536870911) 98 true rfl rfl hPF hns ?_
         refine any_offG (i := 29) (m' := 1073741823) 98 true rfl rfl hPF hns ?_
         refine any_rn (i := 30) (m' := 2147483647) rfl (rn_pickF (.bool false) rfl rfl) hPF hns ?_
         refine any_rn (i := 31) (m' := 4294967295) rfl (rn_pure (.bool false) rfl) hPF hns ?_
         refine any_offG (i := 32) (m' := 8589934591) 108 true rfl rfl hPF hns ?_
         refine any_offG (i := 33) (m' := 17179869183) 108 true rfl rfl hPF hns ?_
         refine any_offG (i := 34) (m' := 34359738367) 108 true rfl rfl hPF hns ?_
         refine any_rn (i := 35) (m' := 68719476735) rfl (rn_pickF (.bool false) rfl rfl) hPF hns ?_
         refine any_rn (i := 36) (m' := 137438953471) rfl (rn_pure (.bool false) rfl) hPF hns ?_
         refine any_end ?_
         refine then_n ?_
         refine wp_ret ?_
         have hF := Option.some.inj hF
         subst hF
         exact ret_mk rfl (RV.tmp rfl RV.nil) ⟨_, ((((hG8.trans hG34).trans hG45).trans hG65).trans hG93), rfl, (St.pk [] 3 H110 rfl (by decide))⟩
       ·replace hF := ifF hF hb111
        refine any_rn (i := 0) (m' := 1) rfl (rn_pure (.bool r5) rfl) hPF hns ?_
        refine any_rn (i := 1) (m' := 3) rfl (rn_pure (.bool r5) rfl) hPF hns ?_
        refine any_offG (i := 2) (m' := 7) 78 true rfl (vb hb111) hPF hns ?_
        refine any_offG (i := 3) (m' := 15) 78 true rfl (vb hb111) hPF hns ?_
        refine any_offG (i := 4) (m' := 31) 78 true rfl (vb hb111) hPF hns ?_
        refine any_rn (i := 5) (m' := 63) rfl (rn_pickF (.bool false) (vb hb111) rfl) hPF hns ?_
        refine any_rn (i := 6) (m' := 127) rfl (rn_pure (.bool false) rfl) hPF hns ?_
        refine any_offG (i := 7) (m' := 255) 83 true rfl rfl hPF hns ?_
        refine any_offG (i := 8) (m' := 511) 83 true rfl rfl hPF hns ?_
        refine any_offG (i := 9) (m' := 1023) 83 true rfl rfl hPF hns ?_
        refine any_offG (i := 10) (m' := 2047) 83 true rfl rfl hPF hns ?_
        refine any_rn (i := 11) (m' := 4095) rfl (rn_pickF (.bool false) rfl rfl) hPF hns ?_
        refine any_rn (i := 12) (m' := 8191) rfl (rn_pure (.bool false) rfl) hPF hns ?_
        refine any_offG (i := 13) (m' := 16383) 89 true rfl rfl hPF hns ?_
        refine any_offG (i := 14) (m' := 32767) 89 true rfl rfl hPF hns ?_
        refine any_offG (i := 15) (m' := 65535) 89 true rfl rfl hPF hns ?_
        refine any_offG (i := 16) (m' := 131071) 89 true rfl rfl hPF hns ?_
        refine any_offG (i := 17) (m' := 262143) 89 true rfl rfl hPF hns ?_
        refine any_offG (i := 18) (m' := 524287) 89 true rfl rfl hPF hns ?_
        refine any_offG (i := 19) (m' := 1048575) 89 true rfl rfl hPF hns ?_
        refine any_rn (i := 20) (m' := 2097151) rfl (rn_pickF (.bool false) rfl rfl) hPF hns ?_
        refine any_rn (i := 21) (m' := 4194303) rfl (rn_pure (.bool false) rfl) hPF hns ?_
        refine any_offG (i := 22) (m' := 8388607) 98 true rfl rfl hPF hns ?_
        refine any_offG (i := 23) (m' := 16777215) 98 true rfl rfl hPF hns ?_
        refine any_offG (i := 24) (m' := 33554431) 98 true rfl rfl hPF hns ?_
        refine any_offG (i := 25) (m' := 67108863) 98 true rfl rfl hPF hns ?_
        refine any_offG (i := 26) (m' := 134217727) 98 true rfl rfl hPF hns ?_
        refine any_offG (i := 27) (m' := 268435455) 98 true rfl rfl hPF hns ?_
        refine any_offG (i := 28) (m' := 536870911) 98 true rfl rfl hPF hns ?_
        refine any_offG (i := 29) (m' := 1073741823) 98 true rfl rfl hPF hns ?_
        refine any_rn (i := 30) (m' := 2147483647) rfl (rn_pickF (.bool false) rfl rfl) hPF hns ?_
        refine any_rn (i := 31) (m' := 4294967295) rfl (rn_pure (.bool false) rfl) hPF hns ?_
        refine any_offG (i := 32) (m' := 8589934591) 108 true rfl rfl hPF hns ?_
        refine any_offG (i := 33) (m' := 17179869183) 108 true rfl rfl hPF hns ?_
        refine any_offG (i := 34) (m' := 34359738367) 108 true rfl rfl hPF hns ?_
        refine any_rn (i := 35) (m' := 68719476735) rfl (rn_pickF (.bool false) rfl rfl) hPF hns ?_
        refine any_rn (i := 36) (m' := 137438953471) rfl (rn_pure (.bool false) rfl) hPF hns ?_
        refine any_end ?_
        refine then_n ?_
        refine wp_ret ?_
        have hF := Option.some.inj hF
        subst hF
        exact ret_mk rfl (RV.tmp rfl RV.nil) ⟨_, ((((hG8.trans hG34).trans hG45).trans hG65).trans hG93), rfl, (St.pk [] 3 H110 rfl (by decide))⟩
     ·refine wc_region ?_
      refine wl_rn (rn_pure (.slice A51 r42.2.1.length c52) rfl) ?_
      refine wl_rn (rn_len sl35 rfl) ?_
      iterate 2 refine wl_rn (rn_pure (.bool ((r42.2.1.length : Int) != 1)) rfl) ?_
      rcases bcases ((r42.2.1.length : Int) != 1) with hb513 | hb513
      ·replace hF := ifT hF hb513
       iterate 8 refine wl_no rfl rfl rfl (vb hb513) ?_
       refine wl_rn (rn_pickT (.bool true) (vb hb513) rfl) ?_
       refine wl_nil (then_n ?_)
       exact ⟨_, _, true, frame_eq _ ⟨rfl, rfl, rfl, rfl, rfl, rfl, rfl, trivial⟩, GLe.refl _, H66, hF⟩
      ·replace hF := ifF hF hb513
       refine wl_yes rfl rfl rfl (vb hb513) ?_
       refine wl_rn (rn_pure (.slice A51 r42.2.1.length c52) rfl) ?_
       refine wl_yes rfl rfl rfl (vb hb513) ?_
       obtain ⟨x514, hx515, hF⟩ := bindS hF
       refine wl_rnE (rn_index (hs53.mono hG65) sl35 ty32 rfl rfl hx515) ?_
       intro a516 hp517
       refine wl_yes rfl rfl rfl (vb hb513) ?_
       refine wl_rn (rn_fieldp fo32_2 rfl) ?_
       refine wl_yes rfl rfl rfl (vb hb513) ?_
       refine wl_loadp H66 (hp517.lens lTPkt_Data) ty30 rfl ?_
       intro v518 hv519
       obtain ⟨A520, c521, rfl, hs522⟩ := slice_V hv519
       refine wl_yes rfl rfl rfl (vb hb513) ?_
       refine wl_rn (rn_len sl30 rfl) ?_
       refine wl_yes rfl rfl rfl (vb hb513) ?_
       refine wl_rn (rn_pure (.slice A2_ a2.length c2_) rfl) ?_
       refine wl_yes rfl rfl rfl (vb hb513) ?_
       refine wl_rn (rn_len sl30 rfl) ?_
       refine wl_yes rfl rfl rfl (vb hb513) ?_
       refine wl_rn (rn_pure (.bool ((x514.Data.length : Int) != (a2.length : Int))) rfl) ?_
       refine wl_rn (rn_pickF (.bool ((x514.Data.length : Int) != (a2.length : Int))) (vb hb513) rfl) ?_
       refine wl_nil (then_n ?_)
       exact ⟨_, _, ((x514.Data.length : Int) != (a2.length : Int)), frame_eq _ ⟨rfl, rfl, rfl, rfl, rfl, rfl, rfl, trivial⟩, GLe.refl _, H66, hF⟩
   ·refine wc_region ?_
    refine wl_rn (rn_field fo29_0 rfl) ?_
    refine wl_rn (rn_field fo23_0 rfl) ?_
    refine wl_loadd H61 (i := 1) rfl (Lens.then lTNego_A lTAuto_State) (dInt .i64) ty3 rfl ?_
    iterate 2 refine wl_rn (rn_pure (.bool (a0.A.State != 9)) rfl) ?_
    rcases bcases (a0.A.State != 9) with hb523 | hb523
    ·replace hF := ifT hF hb523
     iterate 3 refine wl_no rfl rfl rfl (vb hb523) ?_
     refine wl_rn (rn_pickT (.bool true) (vb hb523) rfl) ?_
     refine wl_nil (then_n ?_)
     exact ⟨_, _, true, frame_eq _ ⟨rfl, rfl, rfl, rfl, rfl, rfl, rfl, trivial⟩, GLe.refl _, H61, hF⟩
    ·replace hF := ifF hF hb523
     refine wl_yes rfl rfl rfl (vb hb523) ?_
     refine wl_rn (rn_pure (.slice A2_ a2.length c2_) rfl) ?_
     refine wl_yes rfl rfl rfl (vb hb523) ?_
     refine wl_rn (rn_len sl30 rfl) ?_
     refine wl_yes rfl rfl rfl (vb hb523) ?_
     refine wl_rn (rn_pure (.bool (decide ((a2.length : Int) < 4))) rfl) ?_
     refine wl_rn (rn_pickF (.bool (decide ((a2.length : Int) < 4))) (vb hb523) rfl) ?_
     refine wl_nil (then_n ?_)
     exact ⟨_, _, (decide ((a2.length : Int) < 4)), frame_eq _ ⟨rfl, rfl, rfl, rfl, rfl, rfl, rfl, trivial⟩, GLe.refl _, H61, hF⟩
 ·refine wc_region ?_
  refine wl_load H9 (i := 0) rfl (Lens.id kTNego) ty29 rfl ?_
  intro v524 hv525
  obtain ⟨r526, hr527, hF⟩ := bindS hF
  refine wl_call (vs := [v524]) en9 rfl (portreeveref14_Small_ok hc hv525 H9 hr527) ?_
  rintro v532 w531 ⟨G528, hG529, rfl, H530⟩
  iterate 2 refine wl_rn (rn_pure (.bool (!r526)) rfl) ?_
  rcases bcases (!r526) with hb533 | hb533
  ·replace hF := ifT hF hb533
   iterate 3 refine wl_no rfl rfl rfl (vb hb533) ?_
   refine wl_rn (rn_pickT (.bool true) (vb hb533) rfl) ?_
   refine wl_rn (rn_pure (.bool true) rfl) ?_
   iterate 3 refine wl_no rfl rfl rfl rfl ?_
   refine wl_rn (rn_pickT (.bool true) rfl rfl) ?_
   refine wl_rn (rn_pure (.bool true) rfl) ?_
   iterate 3 refine wl_no rfl rfl rfl rfl ?_
   refine wl_rn (rn_pickT (.bool true) rfl rfl) ?_
   refine wl_nil (then_n ?_)
   exact ⟨_, _, true, frame_eq _ ⟨rfl, rfl, rfl, rfl, rfl, trivial⟩, hG529, H530, hF⟩
  ·replace hF := ifF hF hb533
   refine wl_yes rfl rfl rfl (vb hb533) ?_
   refine wl_load H530 (i := 0) rfl (Lens.id kTNego) ty29 rfl ?_
   intro v534 hv535
   refine wl_yes rfl rfl rfl (vb hb533) ?_
   obtain ⟨r536, hr537, hF⟩ := bindS hF
   refine wl_call (vs := [v534]) en10 rfl (portreeveref14_Right_ok hc hv535 H530 hr537) ?_
   rintro v542 w541 ⟨G538, hG539, rfl, H540⟩
   refine wl_yes rfl rfl rfl (vb hb533) ?_
   refine wl_rn (rn_pure (.bool (!r536)) rfl) ?_
   refine wl_rn (rn_pickF (.bool (!r536)) (vb hb533) rfl) ?_
   refine wl_rn (rn_pure (.bool (!r536)) rfl) ?_
   rcases bcases (!r536) with hb543 | hb543
   ·replace hF := ifT hF hb543
    iterate 3 refine wl_no rfl rfl rfl (vb hb543) ?_
    refine wl_rn (rn_pickT (.bool true) (vb hb543) rfl) ?_
    refine wl_rn (rn_pure (.bool true) rfl) ?_
    iterate 3 refine wl_no rfl rfl rfl rfl ?_
    refine wl_rn (rn_pickT (.bool true) rfl rfl) ?_
    refine wl_nil (then_n ?_)
    exact ⟨_, _, true, frame_eq _ ⟨rfl, rfl, rfl, rfl, rfl, trivial⟩, (hG529.trans hG539), H540, hF⟩
   ·replace hF := ifF hF hb543
    refine wl_yes rfl rfl rfl (vb hb543) ?_
    refine wl_rn (rn_field fo29_1 rfl) ?_
    refine wl_yes rfl rfl rfl (vb hb543) ?_
    refine wl_rn (rn_field fo26_0 rfl) ?_
    refine wl_yes rfl rfl rfl (vb hb543) ?_
    refine wl_loadd H540 (i := 0) rfl (Lens.then lTNego_R lTRule_Ip) dBool ty4 rfl ?_
    refine wl_rn (rn_pickF (.bool a0.R.Ip) (vb hb543) rfl) ?_
    refine wl_rn (rn_pure (.bool a0.R.Ip) rfl) ?_
    rcases bcases a0.R.Ip with hb544 | hb544
    ·replace hF := ifT hF hb544
     iterate 3 refine wl_no rfl rfl rfl (vb hb544) ?_
     refine wl_rn (rn_pickT (.bool true) (vb hb544) rfl) ?_
     refine wl_nil (then_n ?_)
     exact ⟨_, _, true, frame_eq _ ⟨rfl, rfl, rfl, rfl, rfl, trivial⟩, (hG529.trans hG539), H540, hF⟩
    ·replace hF := ifF hF hb544
     refine wl_yes rfl rfl rfl (vb hb544) ?_
     refine wl_rn (rn_pure (.slice A2_ a2.length c2_) rfl) ?_
     refine wl_yes rfl rfl rfl (vb hb544) ?_
     refine wl_rn (rn_len sl30 rfl) ?_
     refine wl_yes rfl rfl rfl (vb hb544) ?_
     refine wl_rn (rn_pure (.bool (decide ((a2.length : Int) > 1000))) rfl) ?_
     refine wl_rn (rn_pickF (.bool (decide ((a2.length : Int) > 1000))) (vb hb544) rfl) ?_
     refine wl_nil (then_n ?_)
     exact ⟨_, _, (decide ((a2.length : Int) > 1000)), frame_eq _ ⟨rfl, rfl, rfl, rfl, rfl, trivial⟩, (hG529.trans hG539), H540, hF⟩
end Go.Proofs.YtadlndnagfnlgaaDoor.W
