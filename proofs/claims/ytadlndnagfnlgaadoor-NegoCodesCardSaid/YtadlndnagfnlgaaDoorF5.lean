/- Calls come to what the plain functions say: written by a program (gen.py). -/
import Derived.Test.YtadlndnagfnlgaaDoorG
import Derived.Test.YtadlndnagfnlgaaDoorF0
import Derived.Test.YtadlndnagfnlgaaDoorF1
import Derived.Test.YtadlndnagfnlgaaDoorF3
import Derived.Test.YtadlndnagfnlgaaDoorF4
set_option linter.unusedVariables false
set_option maxRecDepth 20000
namespace Go.Proofs.YtadlndnagfnlgaaDoor.W
open Go
set_option maxHeartbeats 4000000
attribute [local irreducible] wpList wpAny Code.wp wpListIn wpAnyIn Code.wpIn
theorem auto_Right_ok {c : World} (hc : Hc c) {G : Ghost} {w : World} {σ : List Ent} {a0 : TAuto} {v0_ : Value} (h0_ : kTAuto.V G v0_ a0) (H : St c G w (σ)) {r : Bool} (hF : auto_Right a0 = some r) :
  Calls Tryd.prog 43 ([v0_] : List Value).toArray w (Ends fun v w' => ∃ (G' : Ghost), GLe G G' ∧ tup [(.bool r)] = v ∧ St c G' w' (σ)) := by
 unfold auto_Right at hF
 refine calls_mk Tryd.func43 rfl rfl rfl ?_
 refine wp_seq (wc_region ?_)
 refine wl_box (K := kTAuto) (x := a0) H rfl h0_ ?_
 intro b1 w4 H2
 refine wl_rn (rn_pure (.bool false) rfl) ?_
 refine wl_nil (then_n ?_)
 refine wp_seq ?_
 refine wp_seq (join (fun a w => ∃ (T0 : Fr) (G1 : Ghost) (x8 : Bool), a = mk 35 (upds T0 [(1, (pt b1)), (20, (.bool x8))]) ∧ GLe G G1 ∧ St c G1 w ((.box b1 23 (kTAuto.at_ a0)) :: σ) ∧ auto_Right_j1 a0 x8 = some r) ?_ ?_)
 ·rintro a w ⟨T0, G11, x8, rfl, hG9, H10, hF⟩
  rcases bcases x8 with hb12 | hb12
  ·replace hF := ifT hF hb12
   refine wc_true (vb hb12) ?_
   refine wp_seq (wc_region ?_)
   refine wl_rn (rn_pure (.bool false) rfl) ?_
   refine wl_nil (then_n ?_)
   refine wp_ret ?_
   refine then_r ?_
   have hF := Option.some.inj hF
   subst hF
   exact ret_mk rfl (RV.tmp rfl RV.nil) ⟨_, hG9, rfl, (St.pick [(.box b1 23 (kTAuto.at_ a0))] [] [] H10 (by decide) rfl)⟩
  ·replace hF := ifF hF hb12
   refine wc_false (vb hb12) ?_
   refine wp_skip ?_
   refine then_n ?_
   refine wp_seq ?_
   refine wp_seq (wc_region ?_)
   refine wl_rn (rn_field fo23_0 rfl) ?_
   refine wl_loadd H10 (i := 0) rfl lTAuto_State (dInt .i64) ty3 rfl ?_
   obtain ⟨r13, hr14, hF⟩ := bindS hF
   refine wl_call (vs := [(.int .i64 a0.State)]) en64 rfl (fsm_Timed_ok hc H10 hr14) ?_
   rintro v19 w18 ⟨G15, hG16, rfl, H17⟩
   refine wl_nil (then_n ?_)
   rcases bcases r13 with hb20 | hb20
   ·replace hF := ifT hF hb20
    refine wc_true (vb hb20) ?_
    refine wp_seq (wc_region ?_)
    refine wl_rn (rn_field fo23_2 rfl) ?_
    refine wl_loadd H17 (i := 0) rfl lTAuto_Left (dInt .i64) ty3 rfl ?_
    iterate 2 refine wl_rn (rn_pure (.bool (decide (a0.Left ≥ 1))) rfl) ?_
    rcases bcases (decide (a0.Left ≥ 1)) with hb21 | hb21
    ·replace hF := ifT hF hb21
     refine wl_yes rfl rfl rfl (vb hb21) ?_
     refine wl_rn (rn_field fo23_2 rfl) ?_
     refine wl_yes rfl rfl rfl (vb hb21) ?_
     refine wl_loadd H17 (i := 0) rfl lTAuto_Left (dInt .i64) ty3 rfl ?_
     refine wl_yes rfl rfl rfl (vb hb21) ?_
     refine wl_rn (rn_pure (.bool (decide (a0.Left ≤ 3))) rfl) ?_
     refine wl_rn (rn_pickT (.bool (decide (a0.Left ≤ 3))) (vb hb21) rfl) ?_
     refine wl_rn (rn_pure (.bool (decide (a0.Left ≤ 3))) rfl) ?_
     refine wl_nil (then_n ?_)
     refine wp_ret ?_
     refine then_r ?_
     have hF := Option.some.inj hF
     subst hF
     exact ret_mk rfl (RV.tmp rfl RV.nil) ⟨_, (hG9.trans hG16), rfl, (St.pick [(.box b1 23 (kTAuto.at_ a0))] [] [] H17 (by decide) rfl)⟩
    ·replace hF := ifF hF hb21
     iterate 3 refine wl_no rfl rfl rfl (vb hb21) ?_
     refine wl_rn (rn_pickF (.bool false) (vb hb21) rfl) ?_
     refine wl_rn (rn_pure (.bool false) rfl) ?_
     refine wl_nil (then_n ?_)
     refine wp_ret ?_
     refine then_r ?_
     have hF := Option.some.inj hF
     subst hF
     exact ret_mk rfl (RV.tmp rfl RV.nil) ⟨_, (hG9.trans hG16), rfl, (St.pick [(.box b1 23 (kTAuto.at_ a0))] [] [] H17 (by decide) rfl)⟩
   ·replace hF := ifF hF hb20
    refine wc_false (vb hb20) ?_
    refine wp_skip ?_
    refine then_n ?_
    refine wp_seq (wc_region ?_)
    refine wl_rn (rn_field fo23_2 rfl) ?_
    refine wl_loadd H17 (i := 0) rfl lTAuto_Left (dInt .i64) ty3 rfl ?_
    iterate 2 refine wl_rn (rn_pure (.bool (a0.Left == 0)) rfl) ?_
    refine wl_nil (then_n ?_)
    refine wp_ret ?_
    have hF := Option.some.inj hF
    subst hF
    exact ret_mk rfl (RV.tmp rfl RV.nil) ⟨_, (hG9.trans hG16), rfl, (St.pick [(.box b1 23 (kTAuto.at_ a0))] [] [] H17 (by decide) rfl)⟩
 ·refine wc_region ?_
  refine wl_rn (rn_field fo23_0 rfl) ?_
  refine wl_loadd H2 (i := 0) rfl lTAuto_State (dInt .i64) ty3 rfl ?_
  iterate 2 refine wl_rn (rn_pure (.bool (decide (a0.State < 0))) rfl) ?_
  rcases bcases (decide (a0.State < 0)) with hb22 | hb22
  ·replace hF := ifT hF hb22
   iterate 3 refine wl_no rfl rfl rfl (vb hb22) ?_
   refine wl_rn (rn_pickT (.bool true) (vb hb22) rfl) ?_
   refine wl_rn (rn_pure (.bool true) rfl) ?_
   iterate 3 refine wl_no rfl rfl rfl rfl ?_
   refine wl_rn (rn_pickT (.bool true) rfl rfl) ?_
   refine wl_rn (rn_pure (.bool true) rfl) ?_
   iterate 3 refine wl_no rfl rfl rfl rfl ?_
   refine wl_rn (rn_pickT (.bool true) rfl rfl) ?_
   refine wl_nil (then_n ?_)
   exact ⟨_, _, true, frame_eq [(1, (pt b1)), (20, (.bool true))] ⟨rfl, rfl, trivial⟩, GLe.refl _, H2, hF⟩
  ·replace hF := ifF hF hb22
   refine wl_yes rfl rfl rfl (vb hb22) ?_
   refine wl_rn (rn_field fo23_0 rfl) ?_
   refine wl_yes rfl rfl rfl (vb hb22) ?_
   refine wl_loadd H2 (i := 0) rfl lTAuto_State (dInt .i64) ty3 rfl ?_
   refine wl_yes rfl rfl rfl (vb hb22) ?_
   refine wl_rn (rn_pure (.bool (decide (a0.State ≥ 10))) rfl) ?_
   refine wl_rn (rn_pickF (.bool (decide (a0.State ≥ 10))) (vb hb22) rfl) ?_
   refine wl_rn (rn_pure (.bool (decide (a0.State ≥ 10))) rfl) ?_
   rcases bcases (decide (a0.State ≥ 10)) with hb23 | hb23
   ·replace hF := ifT hF hb23
    iterate 3 refine wl_no rfl rfl rfl (vb hb23) ?_
    refine wl_rn (rn_pickT (.bool true) (vb hb23) rfl) ?_
    refine wl_rn (rn_pure (.bool true) rfl) ?_
    iterate 3 refine wl_no rfl rfl rfl rfl ?_
    refine wl_rn (rn_pickT (.bool true) rfl rfl) ?_
    refine wl_nil (then_n ?_)
    exact ⟨_, _, true, frame_eq [(1, (pt b1)), (20, (.bool true))] ⟨rfl, rfl, trivial⟩, GLe.refl _, H2, hF⟩
   ·replace hF := ifF hF hb23
    refine wl_yes rfl rfl rfl (vb hb23) ?_
    refine wl_rn (rn_field fo23_1 rfl) ?_
    refine wl_yes rfl rfl rfl (vb hb23) ?_
    refine wl_loadd H2 (i := 0) rfl lTAuto_Count (dInt .i64) ty3 rfl ?_
    refine wl_yes rfl rfl rfl (vb hb23) ?_
    refine wl_rn (rn_pure (.bool (decide (a0.Count < 0))) rfl) ?_
    refine wl_rn (rn_pickF (.bool (decide (a0.Count < 0))) (vb hb23) rfl) ?_
    refine wl_rn (rn_pure (.bool (decide (a0.Count < 0))) rfl) ?_
    rcases bcases (decide (a0.Count < 0)) with hb24 | hb24
    ·replace hF := ifT hF hb24
     iterate 3 refine wl_no rfl rfl rfl (vb hb24) ?_
     refine wl_rn (rn_pickT (.bool true) (vb hb24) rfl) ?_
     refine wl_nil (then_n ?_)
     exact ⟨_, _, true, frame_eq [(1, (pt b1)), (20, (.bool true))] ⟨rfl, rfl, trivial⟩, GLe.refl _, H2, hF⟩
    ·replace hF := ifF hF hb24
     refine wl_yes rfl rfl rfl (vb hb24) ?_
     refine wl_rn (rn_field fo23_1 rfl) ?_
     refine wl_yes rfl rfl rfl (vb hb24) ?_
     refine wl_loadd H2 (i := 0) rfl lTAuto_Count (dInt .i64) ty3 rfl ?_
     refine wl_yes rfl rfl rfl (vb hb24) ?_
     refine wl_rn (rn_pure (.bool (decide (a0.Count > 5))) rfl) ?_
     refine wl_rn (rn_pickF (.bool (decide (a0.Count > 5))) (vb hb24) rfl) ?_
     refine wl_nil (then_n ?_)
     exact ⟨_, _, (decide (a0.Count > 5)), frame_eq [(1, (pt b1)), (20, (.bool (decide (a0.Count > 5))))] ⟨rfl, rfl, trivial⟩, GLe.refl _, H2, hF⟩

theorem nego_Right_1_ok {c : World} (hc : Hc c) {G : Ghost} {w : World} {σ : List Ent} {a0 : TOpt} {v0_ : Value} (h0_ : kTOpt.V G v0_ a0) (H : St c G w (σ)) {r : Bool} (hF : nego_Right_1 a0 = some r) :
  Calls Tryd.prog 42 ([v0_] : List Value).toArray w (Ends fun v w' => ∃ (G' : Ghost), GLe G G' ∧ tup [(.bool r)] = v ∧ St c G' w' (σ)) := by
 unfold nego_Right_1 at hF
 refine calls_mk Tryd.func42 rfl rfl rfl ?_
 refine wp_seq (wc_region ?_)
 refine wl_box (K := kTOpt) (x := a0) H rfl h0_ ?_
 intro b1 w4 H2
 refine wl_rn (rn_pure (.bool false) rfl) ?_
 refine wl_nil (then_n (wp_seq (wc_region ?_)))
 refine wl_rn (rn_field fo60_0 rfl) ?_
 refine wl_loadd H2 (i := 0) rfl lTOpt_Typ (dInt .u8) ty5 rfl ?_
 iterate 2 refine wl_rn (rn_pure (.bool (a0.Typ == 5)) rfl) ?_
 rcases bcases (a0.Typ == 5) with hb5 | hb5
 ·replace hF := ifT hF hb5
  refine wl_yes rfl rfl rfl (vb hb5) ?_
  refine wl_rn (rn_field fo60_1 rfl) ?_
  refine wl_yes rfl rfl rfl (vb hb5) ?_
  refine wl_load H2 (i := 0) rfl lTOpt_Data ty30 rfl ?_
  intro v6 hv7
  obtain ⟨A8, c9, rfl, hs10⟩ := slice_V hv7
  refine wl_yes rfl rfl rfl (vb hb5) ?_
  refine wl_rn (rn_len sl30 rfl) ?_
  refine wl_yes rfl rfl rfl (vb hb5) ?_
  refine wl_rn (rn_pure (.bool ((a0.Data.length : Int) != 4)) rfl) ?_
  refine wl_rn (rn_pickT (.bool ((a0.Data.length : Int) != 4)) (vb hb5) rfl) ?_
  refine wl_rn (rn_pure (.bool ((a0.Data.length : Int) != 4)) rfl) ?_
  refine wl_nil (then_n ?_)
  refine wp_ret ?_
  have hF := Option.some.inj hF
  subst hF
  exact ret_mk rfl (RV.tmp rfl RV.nil) ⟨_, GLe.refl _, rfl, (St.pick [(.box b1 60 (kTOpt.at_ a0))] [] [] H2 (by decide) rfl)⟩
 ·replace hF := ifF hF hb5
  iterate 4 refine wl_no rfl rfl rfl (vb hb5) ?_
  refine wl_rn (rn_pickF (.bool false) (vb hb5) rfl) ?_
  refine wl_rn (rn_pure (.bool false) rfl) ?_
  refine wl_nil (then_n ?_)
  refine wp_ret ?_
  have hF := Option.some.inj hF
  subst hF
  exact ret_mk rfl (RV.tmp rfl RV.nil) ⟨_, GLe.refl _, rfl, (St.pick [(.box b1 60 (kTOpt.at_ a0))] [] [] H2 (by decide) rfl)⟩

theorem slices_IndexFunc_Opt_42_ok {c : World} (hc : Hc c) {G : Ghost} {w : World} {σ : List Ent} {a0 : (List TOpt)} {A0_ : Option Addr} {c0_ : Nat} (h0_ : SlR kTOpt G A0_ c0_ a0) (H : St c G w (σ)) {r : Int} (hF : slices_IndexFunc_Opt_42 a0 = some r) :
  Calls Tryd.prog 65 ([(.slice A0_ a0.length c0_), (.func (.func 42) #[] #[])] : List Value).toArray w (Ends fun v w' => ∃ (G' : Ghost), GLe G G' ∧ tup [(.int .i64 r)] = v ∧ St c G' w' (σ)) := by
 unfold slices_IndexFunc_Opt_42 at hF
 refine calls_mk Tryd.func65 rfl rfl rfl ?_
 refine wp_seq (wc_region ?_)
 refine wl_rn (rn_pure (.int .i64 0) rfl) ?_
 refine wl_nil (then_n ?_)
 refine wp_seq ?_
 refine wp_seq (wc_region ?_)
 refine wl_rn (rn_pure (.slice A0_ a0.length c0_) rfl) ?_
 refine wl_rn (rn_len sl27 rfl) ?_
 refine wl_rn (rn_pure (.int .i64 0) rfl) ?_
 refine wl_nil (then_n ?_)
 refine wp_block ?_
 refine wp_loopX (fun (s : Int) a w => ∃ (T0 : Fr) (G1 : Ghost), a = mk 19 (upds T0 [(0, (.slice A0_ a0.length c0_)), (1, (.func (.func 42) #[] #[])), (7, (.int .i64 (a0.length : Int))), (8, (.int .i64 s))]) ∧ GLe G G1 ∧ St c G1 w (σ)) hF ?_ ?_
 ·exact ⟨_, _, frame_eq [(0, (.slice A0_ a0.length c0_)), (1, (.func (.func 42) #[] #[])), (7, (.int .i64 (a0.length : Int))), (8, (.int .i64 0))] ⟨rfl, rfl, rfl, rfl, trivial⟩, GLe.refl _, H⟩
 ·rintro x18 a w y21 ⟨T0, G22, rfl, hG19, H20⟩ hF hy1
  refine wp_seq (wc_region ?_)
  refine wl_rn (rn_pure (.bool (decide (x18 < (a0.length : Int)))) rfl) ?_
  refine wl_nil (then_n ?_)
  refine wp_seq ?_
  rcases bcases (decide (x18 < (a0.length : Int))) with hb23 | hb23
  ·replace hF := ifT hF hb23
   refine wc_true (vb hb23) ?_
   refine wp_skip ?_
   refine then_n ?_
   refine wp_seq ?_
   refine wp_block ?_
   refine wp_seq (wc_region ?_)
   iterate 2 refine wl_rn (rn_pure (.int .i64 x18) rfl) ?_
   refine wl_nil (then_n (wp_seq (wc_region ?_)))
   refine wl_rn (rn_pure (.func (.func 42) #[] #[]) rfl) ?_
   refine wl_rn (rn_pure (.slice A0_ a0.length c0_) rfl) ?_
   refine wl_rn (rn_pure (.int .i64 x18) rfl) ?_
   obtain ⟨x24, hx25, hF⟩ := bindS hF
   refine wl_rnE (rn_index (h0_.mono hG19) sl27 ty60 rfl rfl hx25) ?_
   intro a26 hp27
   refine wl_loadp H20 hp27 ty60 rfl ?_
   intro v28 hv29
   obtain ⟨r30, hr31, hF⟩ := bindS hF
   refine wl_callv (first := []) (captured := []) (vs := [v28]) en42 rfl rfl (nego_Right_1_ok hc hv29 H20 hr31) ?_
   rintro v36 w35 ⟨G32, hG33, rfl, H34⟩
   refine wl_nil (then_n ?_)
   rcases bcases r30 with hb37 | hb37
   ·replace hF := ifT hF hb37
    refine wc_true (vb hb37) ?_
    refine wp_seq (wc_region ?_)
    iterate 2 refine wl_rn (rn_pure (.int .i64 x18) rfl) ?_
    refine wl_nil (then_n ?_)
    refine wp_ret ?_
    refine blk_r ?_
    iterate 2 refine then_r ?_
    replace hF := exitS hF hy1
    refine blk_r ?_
    refine then_r ?_
    have hF := Option.some.inj hF
    subst hF
    exact ret_mk rfl (RV.tmp rfl RV.nil) ⟨_, (hG19.trans hG33), rfl, H34⟩
   ·replace hF := ifF hF hb37
    refine wc_false (vb hb37) ?_
    refine wp_skip ?_
    refine blk_n ?_
    refine then_n ?_
    refine wc_region ?_
    iterate 2 refine wl_rn (rn_pure (.int .i64 (IntKind.i64.wrap (x18 + 1))) rfl) ?_
    refine wl_nil (then_n ?_)
    exact ⟨_, (Option.some.inj hF).symm, _, _, frame_eq [(0, (.slice A0_ a0.length c0_)), (1, (.func (.func 42) #[] #[])), (7, (.int .i64 (a0.length : Int))), (8, (.int .i64 (IntKind.i64.wrap (x18 + 1))))] ⟨rfl, rfl, rfl, rfl, trivial⟩, (hG19.trans hG33), H34⟩
  ·replace hF := ifF hF hb23
   refine wc_false (vb hb23) ?_
   refine wp_exit ?_
   iterate 2 refine then_e ?_
   replace hF := exitS hF hy1
   refine blk_e ?_
   refine then_n ?_
   refine wp_seq (wc_region ?_)
   refine wl_rn (rn_pure (.int .i64 (-1)) rfl) ?_
   refine wl_nil (then_n ?_)
   refine wp_ret ?_
   have hF := Option.some.inj hF
   subst hF
   exact ret_mk rfl (RV.tmp rfl RV.nil) ⟨_, hG19, rfl, H20⟩

theorem slices_ContainsFunc_Opt_42_ok {c : World} (hc : Hc c) {G : Ghost} {w : World} {σ : List Ent} {a0 : (List TOpt)} {A0_ : Option Addr} {c0_ : Nat} (h0_ : SlR kTOpt G A0_ c0_ a0) (H : St c G w (σ)) {r : Bool} (hF : slices_ContainsFunc_Opt_42 a0 = some r) :
  Calls Tryd.prog 44 ([(.slice A0_ a0.length c0_), (.func (.func 42) #[] #[])] : List Value).toArray w (Ends fun v w' => ∃ (G' : Ghost), GLe G G' ∧ tup [(.bool r)] = v ∧ St c G' w' (σ)) := by
 unfold slices_ContainsFunc_Opt_42 at hF
 refine calls_mk Tryd.func44 rfl rfl rfl ?_
 refine wp_seq (wc_region ?_)
 refine wl_rn (rn_pure (.bool false) rfl) ?_
 refine wl_nil (then_n (wp_seq (wc_region ?_)))
 refine wl_rn (rn_pure (.slice A0_ a0.length c0_) rfl) ?_
 refine wl_rn (rn_pure (.func (.func 42) #[] #[]) rfl) ?_
 obtain ⟨r1, hr2, hF⟩ := bindS hF
 refine wl_call (vs := [(.slice A0_ a0.length c0_), (.func (.func 42) #[] #[])]) en65 rfl (slices_IndexFunc_Opt_42_ok hc h0_ H hr2) ?_
 rintro v7 w6 ⟨G3, hG4, rfl, H5⟩
 iterate 2 refine wl_rn (rn_pure (.bool (decide (r1 ≥ 0))) rfl) ?_
 refine wl_nil (then_n ?_)
 refine wp_ret ?_
 have hF := Option.some.inj hF
 subst hF
 exact ret_mk rfl (RV.tmp rfl RV.nil) ⟨_, hG4, rfl, H5⟩

theorem nego_Right_ok {c : World} (hc : Hc c) {G : Ghost} {w : World} {σ : List Ent} {a0 : TNego} {v0_ : Value} (h0_ : kTNego.V G v0_ a0) (H : St c G w (σ)) {r : Bool} (hF : nego_Right a0 = some r) :
  Calls Tryd.prog 25 ([v0_] : List Value).toArray w (Ends fun v w' => ∃ (G' : Ghost), GLe G G' ∧ tup [(.bool r)] = v ∧ St c G' w' (σ)) := by
 unfold nego_Right at hF
 refine calls_mk Tryd.func25 rfl rfl rfl ?_
 refine wp_seq (wc_region ?_)
 refine wl_box (K := kTNego) (x := a0) H rfl h0_ ?_
 intro b1 w4 H2
 refine wl_rn (rn_pure (.bool false) rfl) ?_
 refine wl_nil (then_n (wp_seq (wc_region ?_)))
 refine wl_rn (rn_field fo29_2 rfl) ?_
 refine wl_load H2 (i := 0) rfl lTNego_Ours ty27 rfl ?_
 intro v5 hv6
 obtain ⟨A7, c8, rfl, hs9⟩ := slice_V hv6
 obtain ⟨r10, hr11, hF⟩ := bindS hF
 refine wl_call (vs := [(.slice A7 a0.Ours.length c8)]) en41 rfl (opts_Bytes_ok hc hs9 H2 hr11) ?_
 rintro v16 w15 ⟨G12, A17, c18, hG13, rfl, H14, hs19⟩
 refine wl_rn (rn_pure (.tuple #[(.slice A17 r10.1.length c18), (.int .i64 r10.2)]) rfl) ?_
 refine wl_rn (rn_pure (.slice A17 r10.1.length c18) rfl) ?_
 refine wl_rn (rn_pure (.int .i64 r10.2) rfl) ?_
 refine wl_rn (rn_pure (.slice A17 r10.1.length c18) rfl) ?_
 refine wl_rn (rn_pure (.int .i64 r10.2) rfl) ?_
 refine wl_nil (then_n (wp_seq (wc_region ?_)))
 refine wl_rn (rn_pure (.func (.func 42) #[] #[]) rfl) ?_
 refine wl_nil (then_n (wp_seq (wc_region ?_)))
 refine wl_rn (rn_field fo29_0 rfl) ?_
 refine wl_load H14 (i := 0) rfl lTNego_A ty23 rfl ?_
 intro v20 hv21
 obtain ⟨r22, hr23, hF⟩ := bindS hF
 refine wl_call (vs := [v20]) en43 rfl (auto_Right_ok hc hv21 H14 hr23) ?_
 rintro v28 w27 ⟨G24, hG25, rfl, H26⟩
 refine wl_rn (rn_pure (.bool r22) rfl) ?_
 rcases bcases r22 with hb29 | hb29
 ·replace hF := ifT hF hb29
  refine wl_yes rfl rfl rfl (vb hb29) ?_
  refine wl_rn (rn_field fo29_3 rfl) ?_
  refine wl_yes rfl rfl rfl (vb hb29) ?_
  refine wl_loadd H26 (i := 0) rfl lTNego_Naks (dInt .i64) ty3 rfl ?_
  refine wl_yes rfl rfl rfl (vb hb29) ?_
  refine wl_rn (rn_pure (.bool (decide (a0.Naks ≥ 0))) rfl) ?_
  refine wl_rn (rn_pickT (.bool (decide (a0.Naks ≥ 0))) (vb hb29) rfl) ?_
  refine wl_rn (rn_pure (.bool (decide (a0.Naks ≥ 0))) rfl) ?_
  rcases bcases (decide (a0.Naks ≥ 0)) with hb30 | hb30
  ·replace hF := ifT hF hb30
   refine wl_yes rfl rfl rfl (vb hb30) ?_
   refine wl_rn (rn_field fo29_3 rfl) ?_
   refine wl_yes rfl rfl rfl (vb hb30) ?_
   refine wl_loadd H26 (i := 0) rfl lTNego_Naks (dInt .i64) ty3 rfl ?_
   refine wl_yes rfl rfl rfl (vb hb30) ?_
   refine wl_rn (rn_pure (.bool (decide (a0.Naks ≤ 3))) rfl) ?_
   refine wl_rn (rn_pickT (.bool (decide (a0.Naks ≤ 3))) (vb hb30) rfl) ?_
   refine wl_rn (rn_pure (.bool (decide (a0.Naks ≤ 3))) rfl) ?_
   rcases bcases (decide (a0.Naks ≤ 3)) with hb31 | hb31
   ·replace hF := ifT hF hb31
    refine wl_yes rfl rfl rfl (vb hb31) ?_
    refine wl_rn (rn_pure (.int .i64 r10.2) rfl) ?_
    refine wl_yes rfl rfl rfl (vb hb31) ?_
    refine wl_rn (rn_pure (.bool (r10.2 == 0)) rfl) ?_
    refine wl_rn (rn_pickT (.bool (r10.2 == 0)) (vb hb31) rfl) ?_
    refine wl_rn (rn_pure (.bool (r10.2 == 0)) rfl) ?_
    rcases bcases (r10.2 == 0) with hb32 | hb32
    ·replace hF := ifT hF hb32
     refine wl_yes rfl rfl rfl (vb hb32) ?_
     refine wl_rn (rn_field fo29_2 rfl) ?_
     refine wl_yes rfl rfl rfl (vb hb32) ?_
     refine wl_load H26 (i := 0) rfl lTNego_Ours ty27 rfl ?_
     intro v33 hv34
     obtain ⟨A35, c36, rfl, hs37⟩ := slice_V hv34
     refine wl_yes rfl rfl rfl (vb hb32) ?_
     refine wl_rn (rn_pure (.func (.func 42) #[] #[]) rfl) ?_
     refine wl_yes rfl rfl rfl (vb hb32) ?_
     obtain ⟨r38, hr39, hF⟩ := bindS hF
     refine wl_call (vs := [(.slice A35 a0.Ours.length c36), (.func (.func 42) #[] #[])]) en44 rfl (slices_ContainsFunc_Opt_42_ok hc hs37 H26 hr39) ?_
     rintro v44 w43 ⟨G40, hG41, rfl, H42⟩
     refine wl_yes rfl rfl rfl (vb hb32) ?_
     refine wl_rn (rn_pure (.bool (!r38)) rfl) ?_
     refine wl_rn (rn_pickT (.bool (!r38)) (vb hb32) rfl) ?_
     refine wl_rn (rn_pure (.bool (!r38)) rfl) ?_
     refine wl_nil (then_n ?_)
     refine wp_ret ?_
     have hF := Option.some.inj hF
     subst hF
     exact ret_mk rfl (RV.tmp rfl RV.nil) ⟨_, ((hG13.trans hG25).trans hG41), rfl, (St.pick [(.box b1 29 (kTNego.at_ a0))] [] [] H42 (by decide) rfl)⟩
    ·replace hF := ifF hF hb32
     iterate 5 refine wl_no rfl rfl rfl (vb hb32) ?_
     refine wl_rn (rn_pickF (.bool false) (vb hb32) rfl) ?_
     refine wl_rn (rn_pure (.bool false) rfl) ?_
     refine wl_nil (then_n ?_)
     refine wp_ret ?_
     have hF := Option.some.inj hF
     subst hF
     exact ret_mk rfl (RV.tmp rfl RV.nil) ⟨_, (hG13.trans hG25), rfl, (St.pick [(.box b1 29 (kTNego.at_ a0))] [] [] H26 (by decide) rfl)⟩
   ·replace hF := ifF hF hb31
    iterate 2 refine wl_no rfl rfl rfl (vb hb31) ?_
    refine wl_rn (rn_pickF (.bool false) (vb hb31) rfl) ?_
    refine wl_rn (rn_pure (.bool false) rfl) ?_
    iterate 5 refine wl_no rfl rfl rfl rfl ?_
    refine wl_rn (rn_pickF (.bool false) rfl rfl) ?_
    refine wl_rn (rn_pure (.bool false) rfl) ?_
    refine wl_nil (then_n ?_)
    refine wp_ret ?_
    have hF := Option.some.inj hF
    subst hF
    exact ret_mk rfl (RV.tmp rfl RV.nil) ⟨_, (hG13.trans hG25), rfl, (St.pick [(.box b1 29 (kTNego.at_ a0))] [] [] H26 (by decide) rfl)⟩
  ·replace hF := ifF hF hb30
   iterate 3 refine wl_no rfl rfl rfl (vb hb30) ?_
   refine wl_rn (rn_pickF (.bool false) (vb hb30) rfl) ?_
   refine wl_rn (rn_pure (.bool false) rfl) ?_
   iterate 2 refine wl_no rfl rfl rfl rfl ?_
   refine wl_rn (rn_pickF (.bool false) rfl rfl) ?_
   refine wl_rn (rn_pure (.bool false) rfl) ?_
   iterate 5 refine wl_no rfl rfl rfl rfl ?_
   refine wl_rn (rn_pickF (.bool false) rfl rfl) ?_
   refine wl_rn (rn_pure (.bool false) rfl) ?_
   refine wl_nil (then_n ?_)
   refine wp_ret ?_
   have hF := Option.some.inj hF
   subst hF
   exact ret_mk rfl (RV.tmp rfl RV.nil) ⟨_, (hG13.trans hG25), rfl, (St.pick [(.box b1 29 (kTNego.at_ a0))] [] [] H26 (by decide) rfl)⟩
 ·replace hF := ifF hF hb29
  iterate 3 refine wl_no rfl rfl rfl (vb hb29) ?_
  refine wl_rn (rn_pickF (.bool false) (vb hb29) rfl) ?_
  refine wl_rn (rn_pure (.bool false) rfl) ?_
  iterate 3 refine wl_no rfl rfl rfl rfl ?_
  refine wl_rn (rn_pickF (.bool false) rfl rfl) ?_
  refine wl_rn (rn_pure (.bool false) rfl) ?_
  iterate 2 refine wl_no rfl rfl rfl rfl ?_
  refine wl_rn (rn_pickF (.bool false) rfl rfl) ?_
  refine wl_rn (rn_pure (.bool false) rfl) ?_
  iterate 5 refine wl_no rfl rfl rfl rfl ?_
  refine wl_rn (rn_pickF (.bool false) rfl rfl) ?_
  refine wl_rn (rn_pure (.bool false) rfl) ?_
  refine wl_nil (then_n ?_)
  refine wp_ret ?_
  have hF := Option.some.inj hF
  subst hF
  exact ret_mk rfl (RV.tmp rfl RV.nil) ⟨_, (hG13.trans hG25), rfl, (St.pick [(.box b1 29 (kTNego.at_ a0))] [] [] H26 (by decide) rfl)⟩

theorem opts_Same_1_ok {c : World} (hc : Hc c) {G : Ghost} {w : World} {σ : List Ent} {a0 : TOpt} {v0_ : Value} {a1 : TOpt} {v1_ : Value} (h0_ : kTOpt.V G v0_ a0) (h1_ : kTOpt.V G v1_ a1) (H : St c G w (σ)) {r : Bool} (hF : opts_Same_1 a0 a1 = some r) :
  Calls Tryd.prog 67 ([v0_, v1_] : List Value).toArray w (Ends fun v w' => ∃ (G' : Ghost), GLe G G' ∧ tup [(.bool r)] = v ∧ St c G' w' (σ)) := by
 unfold opts_Same_1 at hF
 refine calls_mk Tryd.func67 rfl rfl rfl ?_
 refine wp_seq (wc_region ?_)
 refine wl_box (K := kTOpt) (x := a0) H rfl h0_ ?_
 intro b1 w4 H2
 refine wl_box (K := kTOpt) (x := a1) H2 rfl h1_ ?_
 intro b5 w8 H6
 refine wl_rn (rn_pure (.bool false) rfl) ?_
 refine wl_nil (then_n (wp_seq (wc_region ?_)))
 refine wl_rn (rn_field fo60_0 rfl) ?_
 refine wl_loadd H6 (i := 1) rfl lTOpt_Typ (dInt .u8) ty5 rfl ?_
 refine wl_rn (rn_field fo60_0 rfl) ?_
 refine wl_loadd H6 (i := 0) rfl lTOpt_Typ (dInt .u8) ty5 rfl ?_
 iterate 2 refine wl_rn (rn_pure (.bool (a0.Typ == a1.Typ)) rfl) ?_
 rcases bcases (a0.Typ == a1.Typ) with hb9 | hb9
 ·replace hF := ifT hF hb9
  refine wl_yes rfl rfl rfl (vb hb9) ?_
  refine wl_rn (rn_field fo60_1 rfl) ?_
  refine wl_yes rfl rfl rfl (vb hb9) ?_
  refine wl_load H6 (i := 1) rfl lTOpt_Data ty30 rfl ?_
  intro v10 hv11
  obtain ⟨A12, c13, rfl, hs14⟩ := slice_V hv11
  refine wl_yes rfl rfl rfl (vb hb9) ?_
  refine wl_rn (rn_field fo60_1 rfl) ?_
  refine wl_yes rfl rfl rfl (vb hb9) ?_
  refine wl_load H6 (i := 0) rfl lTOpt_Data ty30 rfl ?_
  intro v15 hv16
  obtain ⟨A17, c18, rfl, hs19⟩ := slice_V hv16
  refine wl_yes rfl rfl rfl (vb hb9) ?_
  obtain ⟨r20, hr21, hF⟩ := bindS hF
  refine wl_call (vs := [(.slice A12 a0.Data.length c13), (.slice A17 a1.Data.length c18)]) en68 rfl (bytes_Equal_ok hc hs14 hs19 H6 hr21) ?_
  rintro v26 w25 ⟨G22, hG23, rfl, H24⟩
  refine wl_rn (rn_pickT (.bool r20) (vb hb9) rfl) ?_
  refine wl_rn (rn_pure (.bool r20) rfl) ?_
  refine wl_nil (then_n ?_)
  refine wp_ret ?_
  have hF := Option.some.inj hF
  subst hF
  exact ret_mk rfl (RV.tmp rfl RV.nil) ⟨_, hG23, rfl, (St.pick [(.box b5 60 (kTOpt.at_ a1)), (.box b1 60 (kTOpt.at_ a0))] [] [] H24 (by decide) rfl)⟩
 ·replace hF := ifF hF hb9
  iterate 5 refine wl_no rfl rfl rfl (vb hb9) ?_
  refine wl_rn (rn_pickF (.bool false) (vb hb9) rfl) ?_
  refine wl_rn (rn_pure (.bool false) rfl) ?_
  refine wl_nil (then_n ?_)
  refine wp_ret ?_
  have hF := Option.some.inj hF
  subst hF
  exact ret_mk rfl (RV.tmp rfl RV.nil) ⟨_, GLe.refl _, rfl, (St.pick [(.box b5 60 (kTOpt.at_ a1)), (.box b1 60 (kTOpt.at_ a0))] [] [] H6 (by decide) rfl)⟩

theorem slices_EqualFunc_Opt_67_ok {c : World} (hc : Hc c) {G : Ghost} {w : World} {σ : List Ent} {a0 : (List TOpt)} {A0_ : Option Addr} {c0_ : Nat} {a1 : (List TOpt)} {A1_ : Option Addr} {c1_ : Nat} (h0_ : SlR kTOpt G A0_ c0_ a0) (h1_ : SlR kTOpt G A1_ c1_ a1) (H : St c G w (σ)) {r : Bool} (hF : slices_EqualFunc_Opt_67 a0 a1 = some r) :
  Calls Tryd.prog 66 ([(.slice A0_ a0.length c0_), (.slice A1_ a1.length c1_), (.func (.func 67) #[] #[])] : List Value).toArray w (Ends fun v w' => ∃ (G' : Ghost), GLe G G' ∧ tup [(.bool r)] = v ∧ St c G' w' (σ)) := by
 unfold slices_EqualFunc_Opt_67 at hF
 refine calls_mk Tryd.func66 rfl rfl rfl ?_
 refine wp_seq (wc_region ?_)
 refine wl_rn (rn_pure (.bool false) rfl) ?_
 refine wl_nil (then_n ?_)
 refine wp_seq ?_
 refine wp_seq (wc_region ?_)
 refine wl_rn (rn_pure (.slice A0_ a0.length c0_) rfl) ?_
 refine wl_rn (rn_len sl27 rfl) ?_
 refine wl_rn (rn_pure (.slice A1_ a1.length c1_) rfl) ?_
 refine wl_rn (rn_len sl27 rfl) ?_
 refine wl_rn (rn_pure (.bool ((a0.length : Int) != (a1.length : Int))) rfl) ?_
 refine wl_nil (then_n ?_)
 rcases bcases ((a0.length : Int) != (a1.length : Int)) with hb1 | hb1
 ·replace hF := ifT hF hb1
  refine wc_true (vb hb1) ?_
  refine wp_seq (wc_region ?_)
  refine wl_rn (rn_pure (.bool false) rfl) ?_
  refine wl_nil (then_n ?_)
  refine wp_ret ?_
  refine then_r ?_
  have hF := Option.some.inj hF
  subst hF
  exact ret_mk rfl (RV.tmp rfl RV.nil) ⟨_, GLe.refl _, rfl, H⟩
 ·replace hF := ifF hF hb1
  refine wc_false (vb hb1) ?_
  refine wp_skip ?_
  refine then_n ?_
  refine wp_seq ?_
  refine wp_seq (wc_region ?_)
  refine wl_rn (rn_pure (.slice A0_ a0.length c0_) rfl) ?_
  refine wl_rn (rn_len sl27 rfl) ?_
  refine wl_rn (rn_pure (.int .i64 0) rfl) ?_
  refine wl_nil (then_n ?_)
  refine wp_block ?_
  refine wp_loopX (fun (s : Int) a w => ∃ (T0 : Fr) (G1 : Ghost), a = mk 32 (upds T0 [(1, (.slice A1_ a1.length c1_)), (2, (.func (.func 67) #[] #[])), (15, (.slice A0_ a0.length c0_)), (16, (.int .i64 (a0.length : Int))), (17, (.int .i64 s))]) ∧ GLe G G1 ∧ St c G1 w (σ)) hF ?_ ?_
  ·exact ⟨_, _, frame_eq [(1, (.slice A1_ a1.length c1_)), (2, (.func (.func 67) #[] #[])), (15, (.slice A0_ a0.length c0_)), (16, (.int .i64 (a0.length : Int))), (17, (.int .i64 0))] ⟨rfl, rfl, rfl, rfl, rfl, trivial⟩, GLe.refl _, H⟩
  ·rintro x41 a w y44 ⟨T0, G45, rfl, hG42, H43⟩ hF hy2
   refine wp_seq (wc_region ?_)
   refine wl_rn (rn_pure (.bool (decide (x41 < (a0.length : Int)))) rfl) ?_
   refine wl_nil (then_n ?_)
   refine wp_seq ?_
   rcases bcases (decide (x41 < (a0.length : Int))) with hb46 | hb46
   ·replace hF := ifT hF hb46
    refine wc_true (vb hb46) ?_
    refine wp_skip ?_
    refine then_n ?_
    refine wp_seq ?_
    refine wp_block ?_
    refine wp_seq (wc_region ?_)
    refine wl_rn (rn_pure (.int .i64 x41) rfl) ?_
    obtain ⟨x47, hx48, hF⟩ := bindS hF
    refine wl_rnE (rn_index (h0_.mono hG42) sl27 ty60 rfl rfl hx48) ?_
    intro a49 hp50
    refine wl_loadp H43 hp50 ty60 rfl ?_
    intro v51 hv52
    refine wl_alloc H43 zr60 ?_
    intro b53 w56 H54
    refine wl_rn (rn_pure (.int .i64 x41) rfl) ?_
    refine wl_store (z := x47) H54 (i := 0) rfl (Lens.id kTOpt) ty60 rfl rfl hv52 ?_
    intro w58 H57
    refine wl_nil (then_n (wp_seq (wc_region ?_)))
    refine wl_rn (rn_pure (.slice A1_ a1.length c1_) rfl) ?_
    refine wl_rn (rn_pure (.int .i64 x41) rfl) ?_
    obtain ⟨x59, hx60, hF⟩ := bindS hF
    refine wl_rnE (rn_index (h1_.mono hG42) sl27 ty60 rfl rfl hx60) ?_
    intro a61 hp62
    refine wl_loadp H57 hp62 ty60 rfl ?_
    intro v63 hv64
    refine wl_alloc H57 zr60 ?_
    intro b65 w68 H66
    refine wl_store (z := x59) H66 (i := 0) rfl (Lens.id kTOpt) ty60 rfl rfl hv64 ?_
    intro w70 H69
    refine wl_nil (then_n (wp_seq (wc_region ?_)))
    refine wl_rn (rn_pure (.func (.func 67) #[] #[]) rfl) ?_
    refine wl_load H69 (i := 1) rfl (Lens.id kTOpt) ty60 rfl ?_
    intro v71 hv72
    refine wl_load H69 (i := 0) rfl (Lens.id kTOpt) ty60 rfl ?_
    intro v73 hv74
    obtain ⟨r75, hr76, hF⟩ := bindS hF
    refine wl_callv (first := []) (captured := []) (vs := [v71, v73]) en67 rfl rfl (opts_Same_1_ok hc hv72 hv74 H69 hr76) ?_
    rintro v81 w80 ⟨G77, hG78, rfl, H79⟩
    refine wl_rn (rn_pure (.bool (!r75)) rfl) ?_
    refine wl_nil (then_n ?_)
    rcases bcases (!r75) with hb82 | hb82
    ·replace hF := ifT hF hb82
     refine wc_true (vb hb82) ?_
     refine wp_seq (wc_region ?_)
     refine wl_rn (rn_pure (.bool false) rfl) ?_
     refine wl_nil (then_n ?_)
     refine wp_ret ?_
     refine blk_r ?_
     iterate 2 refine then_r ?_
     replace hF := exitS hF hy2
     refine blk_r ?_
     refine then_r ?_
     have hF := Option.some.inj hF
     subst hF
     exact ret_mk rfl (RV.tmp rfl RV.nil) ⟨_, (hG42.trans hG78), rfl, (St.pick [(.box b65 60 (kTOpt.at_ x59)), (.box b53 60 (kTOpt.at_ x47))] [] [] H79 (by decide) rfl)⟩
    ·replace hF := ifF hF hb82
     refine wc_false (vb hb82) ?_
     refine wp_skip ?_
     refine blk_n ?_
     refine then_n ?_
     refine wc_region ?_
     iterate 2 refine wl_rn (rn_pure (.int .i64 (IntKind.i64.wrap (x41 + 1))) rfl) ?_
     refine wl_nil (then_n ?_)
     exact ⟨_, (Option.some.inj hF).symm, _, _, frame_eq [(1, (.slice A1_ a1.length c1_)), (2, (.func (.func 67) #[] #[])), (15, (.slice A0_ a0.length c0_)), (16, (.int .i64 (a0.length : Int))), (17, (.int .i64 (IntKind.i64.wrap (x41 + 1))))] ⟨rfl, rfl, rfl, rfl, rfl, trivial⟩, (hG42.trans hG78), (St.pick [(.box b65 60 (kTOpt.at_ x59)), (.box b53 60 (kTOpt.at_ x47))] [] [] H79 (by decide) rfl)⟩
   ·replace hF := ifF hF hb46
    refine wc_false (vb hb46) ?_
    refine wp_exit ?_
    iterate 2 refine then_e ?_
    replace hF := exitS hF hy2
    refine blk_e ?_
    refine then_n ?_
    refine wp_seq (wc_region ?_)
    refine wl_rn (rn_pure (.bool true) rfl) ?_
    refine wl_nil (then_n ?_)
    refine wp_ret ?_
    have hF := Option.some.inj hF
    subst hF
    exact ret_mk rfl (RV.tmp rfl RV.nil) ⟨_, hG42, rfl, H43⟩

theorem opts_Same_ok {c : World} (hc : Hc c) {G : Ghost} {w : World} {σ : List Ent} {a0 : (List TOpt)} {A0_ : Option Addr} {c0_ : Nat} {a1 : (List TOpt)} {A1_ : Option Addr} {c1_ : Nat} (h0_ : SlR kTOpt G A0_ c0_ a0) (h1_ : SlR kTOpt G A1_ c1_ a1) (H : St c G w (σ)) {r : Bool} (hF : opts_Same a0 a1 = some r) :
  Calls Tryd.prog 45 ([(.slice A0_ a0.length c0_), (.slice A1_ a1.length c1_)] : List Value).toArray w (Ends fun v w' => ∃ (G' : Ghost), GLe G G' ∧ tup [(.bool r)] = v ∧ St c G' w' (σ)) := by
 unfold opts_Same at hF
 refine calls_mk Tryd.func45 rfl rfl rfl ?_
 refine wp_seq (wc_region ?_)
 refine wl_rn (rn_pure (.bool false) rfl) ?_
 refine wl_nil (then_n (wp_seq (wc_region ?_)))
 refine wl_rn (rn_pure (.slice A0_ a0.length c0_) rfl) ?_
 refine wl_rn (rn_pure (.slice A1_ a1.length c1_) rfl) ?_
 obtain ⟨r1, hr2, hF⟩ := bindS hF
 refine wl_call (vs := [(.slice A0_ a0.length c0_), (.slice A1_ a1.length c1_), (.func (.func 67) #[] #[])]) en66 rfl (slices_EqualFunc_Opt_67_ok hc h0_ h1_ H hr2) ?_
 rintro v7 w6 ⟨G3, hG4, rfl, H5⟩
 refine wl_rn (rn_pure (.bool r1) rfl) ?_
 refine wl_nil (then_n ?_)
 refine wp_ret ?_
 have hF := Option.some.inj hF
 subst hF
 exact ret_mk rfl (RV.tmp rfl RV.nil) ⟨_, hG4, rfl, H5⟩

theorem nego_Same_ok {c : World} (hc : Hc c) {G : Ghost} {w : World} {σ : List Ent} {a0 : TNego} {v0_ : Value} {a1 : TNego} {v1_ : Value} (h0_ : kTNego.V G v0_ a0) (h1_ : kTNego.V G v1_ a1) (H : St c G w (σ)) {r : Bool} (hF : nego_Same a0 a1 = some r) :
  Calls Tryd.prog 26 ([v0_, v1_] : List Value).toArray w (Ends fun v w' => ∃ (G' : Ghost), GLe G G' ∧ tup [(.bool r)] = v ∧ St c G' w' (σ)) := by
 unfold nego_Same at hF
 refine calls_mk Tryd.func26 rfl rfl rfl ?_
 refine wp_seq (wc_region ?_)
 refine wl_box (K := kTNego) (x := a0) H rfl h0_ ?_
 intro b1 w4 H2
 refine wl_box (K := kTNego) (x := a1) H2 rfl h1_ ?_
 intro b5 w8 H6
 refine wl_rn (rn_pure (.bool false) rfl) ?_
 refine wl_nil (then_n (wp_seq (wc_region ?_)))
 refine wl_rn (rn_field fo29_0 rfl) ?_
 refine wl_load H6 (i := 1) rfl lTNego_A ty23 rfl ?_
 intro v9 hv10
 refine wl_rn (rn_field fo29_0 rfl) ?_
 refine wl_load H6 (i := 0) rfl lTNego_A ty23 rfl ?_
 intro v11 hv12
 refine wl_rn (rn_eql eqTAuto rfl eg23 rfl rfl rfl hv10 hv12) ?_
 refine wl_rn (rn_pure (.bool (eTAuto a0.A a1.A)) rfl) ?_
 rcases bcases (eTAuto a0.A a1.A) with hb13 | hb13
 ·replace hF := ifT hF hb13
  refine wl_yes rfl rfl rfl (vb hb13) ?_
  refine wl_rn (rn_field fo29_1 rfl) ?_
  refine wl_yes rfl rfl rfl (vb hb13) ?_
  refine wl_load H6 (i := 1) rfl lTNego_R ty26 rfl ?_
  intro v14 hv15
  refine wl_yes rfl rfl rfl (vb hb13) ?_
  refine wl_rn (rn_field fo29_1 rfl) ?_
  refine wl_yes rfl rfl rfl (vb hb13) ?_
  refine wl_load H6 (i := 0) rfl lTNego_R ty26 rfl ?_
  intro v16 hv17
  refine wl_yes rfl rfl rfl (vb hb13) ?_
  refine wl_rn (rn_eql eqTRule rfl eg26 rfl rfl rfl hv15 hv17) ?_
  refine wl_rn (rn_pickT (.bool (eTRule a0.R a1.R)) (vb hb13) rfl) ?_
  refine wl_rn (rn_pure (.bool (eTRule a0.R a1.R)) rfl) ?_
  rcases bcases (eTRule a0.R a1.R) with hb18 | hb18
  ·replace hF := ifT hF hb18
   refine wl_yes rfl rfl rfl (vb hb18) ?_
   refine wl_rn (rn_field fo29_3 rfl) ?_
   refine wl_yes rfl rfl rfl (vb hb18) ?_
   refine wl_loadd H6 (i := 1) rfl lTNego_Naks (dInt .i64) ty3 rfl ?_
   refine wl_yes rfl rfl rfl (vb hb18) ?_
   refine wl_rn (rn_field fo29_3 rfl) ?_
   refine wl_yes rfl rfl rfl (vb hb18) ?_
   refine wl_loadd H6 (i := 0) rfl lTNego_Naks (dInt .i64) ty3 rfl ?_
   refine wl_yes rfl rfl rfl (vb hb18) ?_
   refine wl_rn (rn_pure (.bool (a0.Naks == a1.Naks)) rfl) ?_
   refine wl_rn (rn_pickT (.bool (a0.Naks == a1.Naks)) (vb hb18) rfl) ?_
   refine wl_rn (rn_pure (.bool (a0.Naks == a1.Naks)) rfl) ?_
   rcases bcases (a0.Naks == a1.Naks) with hb19 | hb19
   ·replace hF := ifT hF hb19
    refine wl_yes rfl rfl rfl (vb hb19) ?_
    refine wl_rn (rn_field fo29_2 rfl) ?_
    refine wl_yes rfl rfl rfl (vb hb19) ?_
    refine wl_load H6 (i := 1) rfl lTNego_Ours ty27 rfl ?_
    intro v20 hv21
    obtain ⟨A22, c23, rfl, hs24⟩ := slice_V hv21
    refine wl_yes rfl rfl rfl (vb hb19) ?_
    refine wl_rn (rn_field fo29_2 rfl) ?_
    refine wl_yes rfl rfl rfl (vb hb19) ?_
    refine wl_load H6 (i := 0) rfl lTNego_Ours ty27 rfl ?_
    intro v25 hv26
    obtain ⟨A27, c28, rfl, hs29⟩ := slice_V hv26
    refine wl_yes rfl rfl rfl (vb hb19) ?_
    obtain ⟨r30, hr31, hF⟩ := bindS hF
    refine wl_call (vs := [(.slice A22 a0.Ours.length c23), (.slice A27 a1.Ours.length c28)]) en45 rfl (opts_Same_ok hc hs24 hs29 H6 hr31) ?_
    rintro v36 w35 ⟨G32, hG33, rfl, H34⟩
    refine wl_rn (rn_pickT (.bool r30) (vb hb19) rfl) ?_
    refine wl_rn (rn_pure (.bool r30) rfl) ?_
    rcases bcases r30 with hb37 | hb37
    ·replace hF := ifT hF hb37
     refine wl_yes rfl rfl rfl (vb hb37) ?_
     refine wl_rn (rn_field fo29_4 rfl) ?_
     refine wl_yes rfl rfl rfl (vb hb37) ?_
     refine wl_load H34 (i := 1) rfl lTNego_Peer ty27 rfl ?_
     intro v38 hv39
     obtain ⟨A40, c41, rfl, hs42⟩ := slice_V hv39
     refine wl_yes rfl rfl rfl (vb hb37) ?_
     refine wl_rn (rn_field fo29_4 rfl) ?_
     refine wl_yes rfl rfl rfl (vb hb37) ?_
     refine wl_load H34 (i := 0) rfl lTNego_Peer ty27 rfl ?_
     intro v43 hv44
     obtain ⟨A45, c46, rfl, hs47⟩ := slice_V hv44
     refine wl_yes rfl rfl rfl (vb hb37) ?_
     obtain ⟨r48, hr49, hF⟩ := bindS hF
     refine wl_call (vs := [(.slice A40 a0.Peer.length c41), (.slice A45 a1.Peer.length c46)]) en45 rfl (opts_Same_ok hc hs42 hs47 H34 hr49) ?_
     rintro v54 w53 ⟨G50, hG51, rfl, H52⟩
     refine wl_rn (rn_pickT (.bool r48) (vb hb37) rfl) ?_
     refine wl_rn (rn_pure (.bool r48) rfl) ?_
     refine wl_nil (then_n ?_)
     refine wp_ret ?_
     have hF := Option.some.inj hF
     subst hF
     exact ret_mk rfl (RV.tmp rfl RV.nil) ⟨_, (hG33.trans hG51), rfl, (St.pick [(.box b5 29 (kTNego.at_ a1)), (.box b1 29 (kTNego.at_ a0))] [] [] H52 (by decide) rfl)⟩
    ·replace hF := ifF hF hb37
     iterate 5 refine wl_no rfl rfl rfl (vb hb37) ?_
     refine wl_rn (rn_pickF (.bool false) (vb hb37) rfl) ?_
     refine wl_rn (rn_pure (.bool false) rfl) ?_
     refine wl_nil (then_n ?_)
     refine wp_ret ?_
     have hF := Option.some.inj hF
     subst hF
     exact ret_mk rfl (RV.tmp rfl RV.nil) ⟨_, hG33, rfl, (St.pick [(.box b5 29 (kTNego.at_ a1)), (.box b1 29 (kTNego.at_ a0))] [] [] H34 (by decide) rfl)⟩
   ·replace hF := ifF hF hb19
    iterate 5 refine wl_no rfl rfl rfl (vb hb19) ?_
    refine wl_rn (rn_pickF (.bool false) (vb hb19) rfl) ?_
    refine wl_rn (rn_pure (.bool false) rfl) ?_
    iterate 5 refine wl_no rfl rfl rfl rfl ?_
    refine wl_rn (rn_pickF (.bool false) rfl rfl) ?_
    refine wl_rn (rn_pure (.bool false) rfl) ?_
    refine wl_nil (then_n ?_)
    refine wp_ret ?_
    have hF := Option.some.inj hF
    subst hF
    exact ret_mk rfl (RV.tmp rfl RV.nil) ⟨_, GLe.refl _, rfl, (St.pick [(.box b5 29 (kTNego.at_ a1)), (.box b1 29 (kTNego.at_ a0))] [] [] H6 (by decide) rfl)⟩
  ·replace hF := ifF hF hb18
   iterate 5 refine wl_no rfl rfl rfl (vb hb18) ?_
   refine wl_rn (rn_pickF (.bool false) (vb hb18) rfl) ?_
   refine wl_rn (rn_pure (.bool false) rfl) ?_
   iterate 5 refine wl_no rfl rfl rfl rfl ?_
   refine wl_rn (rn_pickF (.bool false) rfl rfl) ?_
   refine wl_rn (rn_pure (.bool false) rfl) ?_
   iterate 5 refine wl_no rfl rfl rfl rfl ?_
   refine wl_rn (rn_pickF (.bool false) rfl rfl) ?_
   refine wl_rn (rn_pure (.bool false) rfl) ?_
   refine wl_nil (then_n ?_)
   refine wp_ret ?_
   have hF := Option.some.inj hF
   subst hF
   exact ret_mk rfl (RV.tmp rfl RV.nil) ⟨_, GLe.refl _, rfl, (St.pick [(.box b5 29 (kTNego.at_ a1)), (.box b1 29 (kTNego.at_ a0))] [] [] H6 (by decide) rfl)⟩
 ·replace hF := ifF hF hb13
  iterate 5 refine wl_no rfl rfl rfl (vb hb13) ?_
  refine wl_rn (rn_pickF (.bool false) (vb hb13) rfl) ?_
  refine wl_rn (rn_pure (.bool false) rfl) ?_
  iterate 5 refine wl_no rfl rfl rfl rfl ?_
  refine wl_rn (rn_pickF (.bool false) rfl rfl) ?_
  refine wl_rn (rn_pure (.bool false) rfl) ?_
  iterate 5 refine wl_no rfl rfl rfl rfl ?_
  refine wl_rn (rn_pickF (.bool false) rfl rfl) ?_
  refine wl_rn (rn_pure (.bool false) rfl) ?_
  iterate 5 refine wl_no rfl rfl rfl rfl ?_
  refine wl_rn (rn_pickF (.bool false) rfl rfl) ?_
  refine wl_rn (rn_pure (.bool false) rfl) ?_
  refine wl_nil (then_n ?_)
  refine wp_ret ?_
  have hF := Option.some.inj hF
  subst hF
  exact ret_mk rfl (RV.tmp rfl RV.nil) ⟨_, GLe.refl _, rfl, (St.pick [(.box b5 29 (kTNego.at_ a1)), (.box b1 29 (kTNego.at_ a0))] [] [] H6 (by decide) rfl)⟩

theorem portreevelaw14_shown_ok {c : World} (hc : Hc c) {G : Ghost} {w : World} {σ : List Ent}   (H : St c G w (σ)) {r : Bool} (hF : portreevelaw14_shown = some r) :
  Calls Tryd.prog 8 ([] : List Value).toArray w (Ends fun v w' => ∃ (G' : Ghost), GLe G G' ∧ tup [(.bool r)] = v ∧ St c G' w' (σ)) := by
 unfold portreevelaw14_shown at hF
 refine calls_mk Tryd.func8 rfl rfl rfl ?_
 refine wp_seq (wc_region ?_)
 refine wl_rn (rn_pure (.bool false) rfl) ?_
 refine wl_nil (then_n (wp_seq (wc_region ?_)))
 refine wl_rnE (rn_build (G := G) zr26 rfl bs26 rfl (Parts.cons fo26_1 lTRule_Magic ((dInt .u32).toV _ _) (Parts.nil _))) ?_
 intro v1 hv2
 obtain ⟨r3, hr4, hF⟩ := bindS hF
 refine wl_call (vs := [v1]) en18 rfl (nego_New_ok hc hv2 H hr4) ?_
 rintro v9 w8 ⟨G5, v10, hG6, rfl, H7, hv11⟩
 obtain ⟨r12, hr13, hF⟩ := bindS hF
 refine wl_call (vs := [v10, (.int .i64 2)]) en11 rfl (nego_Do_ok hc hv11 H7 hr13) ?_
 rintro v18 w17 ⟨G14, v19, A21, c22, A24, c25, hG15, rfl, H16, hv20, hs23, hs26⟩
 refine wl_rn (rn_pure (.tuple #[v19, (.slice A21 r12.2.1.length c22), (.slice A24 r12.2.2.length c25)]) rfl) ?_
 refine wl_rn (rn_pure v19 rfl) ?_
 refine wl_rn (rn_pure (.slice A21 r12.2.1.length c22) rfl) ?_
 refine wl_rn (rn_pure (.slice A24 r12.2.2.length c25) rfl) ?_
 refine wl_alloc H16 zr29 ?_
 intro b27 w30 H28
 refine wl_store (z := r12.1) H28 (i := 0) rfl (Lens.id kTNego) ty29 rfl rfl hv20 ?_
 intro w32 H31
 refine wl_rn (rn_pure (.slice A21 r12.2.1.length c22) rfl) ?_
 refine wl_rn (rn_pure (.slice A24 r12.2.2.length c25) rfl) ?_
 refine wl_nil (then_n (wp_seq (wc_region ?_)))
 refine wl_load H31 (i := 0) rfl (Lens.id kTNego) ty29 rfl ?_
 intro v33 hv34
 obtain ⟨r35, hr36, hF⟩ := bindS hF
 refine wl_call (vs := [v33, (.int .i64 0)]) en11 rfl (nego_Do_ok hc hv34 H31 hr36) ?_
 rintro v41 w40 ⟨G37, v42, A44, c45, A47, c48, hG38, rfl, H39, hv43, hs46, hs49⟩
 refine wl_rn (rn_pure (.tuple #[v42, (.slice A44 r35.2.1.length c45), (.slice A47 r35.2.2.length c48)]) rfl) ?_
 refine wl_rn (rn_pure v42 rfl) ?_
 refine wl_rn (rn_pure (.slice A44 r35.2.1.length c45) rfl) ?_
 refine wl_rn (rn_pure (.slice A47 r35.2.2.length c48) rfl) ?_
 refine wl_alloc H39 zr29 ?_
 intro b50 w53 H51
 refine wl_store (z := r35.1) H51 (i := 0) rfl (Lens.id kTNego) ty29 rfl rfl hv43 ?_
 intro w55 H54
 refine wl_rn (rn_pure (.slice A44 r35.2.1.length c45) rfl) ?_
 refine wl_rn (rn_pure (.slice A47 r35.2.2.length c48) rfl) ?_
 refine wl_nil (then_n (wp_seq (wc_region ?_)))
 refine wl_load H54 (i := 0) rfl (Lens.id kTNego) ty29 rfl ?_
 intro v56 hv57
 refine wl_rnE (rn_build (G := G37) zr32 rfl bs32 rfl (Parts.cons fo32_0 lTPkt_Code ((dInt .u8).toV _ _) (Parts.cons fo32_1 lTPkt_Id ((dInt .u8).toV _ _) (Parts.nil _)))) ?_
 intro v58 hv59
 obtain ⟨r60, hr61, hF⟩ := bindS hF
 refine wl_call (vs := [v56, v58]) en13 rfl (nego_Take_ok hc hv57 hv59 H54 hr61) ?_
 rintro v66 w65 ⟨G62, v67, A69, c70, A72, c73, hG63, rfl, H64, hv68, hs71, hs74⟩
 refine wl_rn (rn_pure (.tuple #[v67, (.slice A69 r60.2.1.length c70), (.slice A72 r60.2.2.length c73)]) rfl) ?_
 refine wl_rn (rn_pure v67 rfl) ?_
 refine wl_rn (rn_pure (.slice A69 r60.2.1.length c70) rfl) ?_
 refine wl_rn (rn_pure (.slice A72 r60.2.2.length c73) rfl) ?_
 refine wl_alloc H64 zr29 ?_
 intro b75 w78 H76
 refine wl_store (z := r60.1) H76 (i := 0) rfl (Lens.id kTNego) ty29 rfl rfl hv68 ?_
 intro w80 H79
 refine wl_rn (rn_pure (.slice A69 r60.2.1.length c70) rfl) ?_
 refine wl_rn (rn_pure (.slice A72 r60.2.2.length c73) rfl) ?_
 refine wl_nil (then_n (wp_seq (wc_region ?_)))
 refine wl_load H79 (i := 0) rfl (Lens.id kTNego) ty29 rfl ?_
 intro v81 hv82
 obtain ⟨r83, hr84, hF⟩ := bindS hF
 refine wl_call (vs := [v81]) en12 rfl (nego_Tick_ok hc hv82 H79 hr84) ?_
 rintro v89 w88 ⟨G85, v90, A92, c93, A95, c96, hG86, rfl, H87, hv91, hs94, hs97⟩
 refine wl_rn (rn_pure (.tuple #[v90, (.slice A92 r83.2.1.length c93), (.slice A95 r83.2.2.length c96)]) rfl) ?_
 refine wl_rn (rn_pure v90 rfl) ?_
 refine wl_rn (rn_pure (.slice A92 r83.2.1.length c93) rfl) ?_
 refine wl_rn (rn_pure (.slice A95 r83.2.2.length c96) rfl) ?_
 refine wl_alloc H87 zr29 ?_
 intro b98 w101 H99
 refine wl_store (z := r83.1) H99 (i := 0) rfl (Lens.id kTNego) ty29 rfl rfl hv91 ?_
 intro w103 H102
 refine wl_rn (rn_pure (.slice A92 r83.2.1.length c93) rfl) ?_
 refine wl_rn (rn_pure (.slice A95 r83.2.2.length c96) rfl) ?_
 refine wl_nil (then_n (wp_seq (wc_region ?_)))
 refine wl_rn (rn_pure (.slice A24 r12.2.2.length c25) rfl) ?_
 refine wl_rn (rn_len sl36 rfl) ?_
 iterate 2 refine wl_rn (rn_pure (.bool ((r12.2.2.length : Int) == 1)) rfl) ?_
 rcases bcases ((r12.2.2.length : Int) == 1) with hb104 | hb104
 ·replace hF := ifT hF hb104
  refine wl_yes rfl rfl rfl (vb hb104) ?_
  refine wl_rn (rn_pure (.slice A24 r12.2.2.length c25) rfl) ?_
  refine wl_yes rfl rfl rfl (vb hb104) ?_
  obtain ⟨x105, hx106, hF⟩ := bindS hF
  refine wl_rnE (rn_index (hs26.mono ((hG38.trans hG63).trans hG86)) sl36 ty3 rfl rfl hx106) ?_
  intro a107 hp108
  refine wl_yes rfl rfl rfl (vb hb104) ?_
  refine wl_loadpd H102 hp108 (dInt .i64) ty3 rfl ?_
  refine wl_yes rfl rfl rfl (vb hb104) ?_
  refine wl_rn (rn_pure (.bool (x105 == 3)) rfl) ?_
  refine wl_rn (rn_pickT (.bool (x105 == 3)) (vb hb104) rfl) ?_
  refine wl_rn (rn_pure (.bool (x105 == 3)) rfl) ?_
  rcases bcases (x105 == 3) with hb109 | hb109
  ·replace hF := ifT hF hb109
   refine wl_yes rfl rfl rfl (vb hb109) ?_
   refine wl_rn (rn_pure (.slice A44 r35.2.1.length c45) rfl) ?_
   refine wl_yes rfl rfl rfl (vb hb109) ?_
   refine wl_rn (rn_len sl35 rfl) ?_
   refine wl_yes rfl rfl rfl (vb hb109) ?_
   refine wl_rn (rn_pure (.bool ((r35.2.1.length : Int) == 1)) rfl) ?_
   refine wl_rn (rn_pickT (.bool ((r35.2.1.length : Int) == 1)) (vb hb109) rfl) ?_
   refine wl_rn (rn_pure (.bool ((r35.2.1.length : Int) == 1)) rfl) ?_
   rcases bcases ((r35.2.1.length : Int) == 1) with hb110 | hb110
   ·replace hF := ifT hF hb110
    refine wl_yes rfl rfl rfl (vb hb110) ?_
    refine wl_rn (rn_pure (.slice A44 r35.2.1.length c45) rfl) ?_
    refine wl_yes rfl rfl rfl (vb hb110) ?_
    obtain ⟨x111, hx112, hF⟩ := bindS hF
    refine wl_rnE (rn_index (hs46.mono (hG63.trans hG86)) sl35 ty32 rfl rfl hx112) ?_
    intro a113 hp114
    refine wl_yes rfl rfl rfl (vb hb110) ?_
    refine wl_rn (rn_fieldp fo32_0 rfl) ?_
    refine wl_yes rfl rfl rfl (vb hb110) ?_
    refine wl_loadpd H102 (hp114.lens lTPkt_Code) (dInt .u8) ty5 rfl ?_
    refine wl_yes rfl rfl rfl (vb hb110) ?_
    refine wl_rn (rn_pure (.bool (x111.Code == 1)) rfl) ?_
    refine wl_rn (rn_pickT (.bool (x111.Code == 1)) (vb hb110) rfl) ?_
    refine wl_rn (rn_pure (.bool (x111.Code == 1)) rfl) ?_
    rcases bcases (x111.Code == 1) with hb115 | hb115
    ·replace hF := ifT hF hb115
     refine wl_yes rfl rfl rfl (vb hb115) ?_
     refine wl_rn (rn_pure (.slice A44 r35.2.1.length c45) rfl) ?_
     refine wl_yes rfl rfl rfl (vb hb115) ?_
     obtain ⟨x116, hx117, hF⟩ := bindS hF
     refine wl_rnE (rn_index (hs46.mono (hG63.trans hG86)) sl35 ty32 rfl rfl hx117) ?_
     intro a118 hp119
     refine wl_yes rfl rfl rfl (vb hb115) ?_
     refine wl_rn (rn_fieldp fo32_1 rfl) ?_
     refine wl_yes rfl rfl rfl (vb hb115) ?_
     refine wl_loadpd H102 (hp119.lens lTPkt_Id) (dInt .u8) ty5 rfl ?_
     refine wl_yes rfl rfl rfl (vb hb115) ?_
     refine wl_rn (rn_pure (.bool (x116.Id == 1)) rfl) ?_
     refine wl_rn (rn_pickT (.bool (x116.Id == 1)) (vb hb115) rfl) ?_
     refine wl_rn (rn_pure (.bool (x116.Id == 1)) rfl) ?_
     rcases bcases (x116.Id == 1) with hb120 | hb120
     ·replace hF := ifT hF hb120
      refine wl_yes rfl rfl rfl (vb hb120) ?_
      refine wl_rn (rn_pure (.slice A69 r60.2.1.length c70) rfl) ?_
      refine wl_yes rfl rfl rfl (vb hb120) ?_
      refine wl_rn (rn_len sl35 rfl) ?_
      refine wl_yes rfl rfl rfl (vb hb120) ?_
      refine wl_rn (rn_pure (.bool ((r60.2.1.length : Int) == 1)) rfl) ?_
      refine wl_rn (rn_pickT (.bool ((r60.2.1.length : Int) == 1)) (vb hb120) rfl) ?_
      refine wl_rn (rn_pure (.bool ((r60.2.1.length : Int) == 1)) rfl) ?_
      rcases bcases ((r60.2.1.length : Int) == 1) with hb121 | hb121
      ·replace hF := ifT hF hb121
       refine wl_yes rfl rfl rfl (vb hb121) ?_
       refine wl_rn (rn_pure (.slice A69 r60.2.1.length c70) rfl) ?_
       refine wl_yes rfl rfl rfl (vb hb121) ?_
       obtain ⟨x122, hx123, hF⟩ := bindS hF
       refine wl_rnE (rn_index (hs71.mono hG86) sl35 ty32 rfl rfl hx123) ?_
       intro a124 hp125
       refine wl_yes rfl rfl rfl (vb hb121) ?_
       refine wl_rn (rn_fieldp fo32_0 rfl) ?_
       refine wl_yes rfl rfl rfl (vb hb121) ?_
       refine wl_loadpd H102 (hp125.lens lTPkt_Code) (dInt .u8) ty5 rfl ?_
       refine wl_yes rfl rfl rfl (vb hb121) ?_
       refine wl_rn (rn_pure (.bool (x122.Code == 2)) rfl) ?_
       refine wl_rn (rn_pickT (.bool (x122.Code == 2)) (vb hb121) rfl) ?_
       refine wl_rn (rn_pure (.bool (x122.Code == 2)) rfl) ?_
       rcases bcases (x122.Code == 2) with hb126 | hb126
       ·replace hF := ifT hF hb126
        refine wl_yes rfl rfl rfl (vb hb126) ?_
        refine wl_rn (rn_pure (.slice A69 r60.2.1.length c70) rfl) ?_
        refine wl_yes rfl rfl rfl (vb hb126) ?_
        obtain ⟨x127, hx128, hF⟩ := bindS hF
        refine wl_rnE (rn_index (hs71.mono hG86) sl35 ty32 rfl rfl hx128) ?_
        intro a129 hp130
        refine wl_yes rfl rfl rfl (vb hb126) ?_
        refine wl_rn (rn_fieldp fo32_1 rfl) ?_
        refine wl_yes rfl rfl rfl (vb hb126) ?_
        refine wl_loadpd H102 (hp130.lens lTPkt_Id) (dInt .u8) ty5 rfl ?_
        refine wl_yes rfl rfl rfl (vb hb126) ?_
        refine wl_rn (rn_pure (.bool (x127.Id == 9)) rfl) ?_
        refine wl_rn (rn_pickT (.bool (x127.Id == 9)) (vb hb126) rfl) ?_
        refine wl_rn (rn_pure (.bool (x127.Id == 9)) rfl) ?_
        rcases bcases (x127.Id == 9) with hb131 | hb131
        ·replace hF := ifT hF hb131
         refine wl_yes rfl rfl rfl (vb hb131) ?_
         refine wl_rn (rn_field fo29_0 rfl) ?_
         refine wl_yes rfl rfl rfl (vb hb131) ?_
         refine wl_rn (rn_field fo23_0 rfl) ?_
         refine wl_yes rfl rfl rfl (vb hb131) ?_
         refine wl_loadd H102 (i := 1) rfl (Lens.then lTNego_A lTAuto_State) (dInt .i64) ty3 rfl ?_
         refine wl_yes rfl rfl rfl (vb hb131) ?_
         refine wl_rn (rn_pure (.bool (r60.1.A.State == 8)) rfl) ?_
         refine wl_rn (rn_pickT (.bool (r60.1.A.State == 8)) (vb hb131) rfl) ?_
         refine wl_rn (rn_pure (.bool (r60.1.A.State == 8)) rfl) ?_
         rcases bcases (r60.1.A.State == 8) with hb132 | hb132
         ·replace hF := ifT hF hb132
          refine wl_yes rfl rfl rfl (vb hb132) ?_
          refine wl_rn (rn_field fo29_0 rfl) ?_
          refine wl_yes rfl rfl rfl (vb hb132) ?_
          refine wl_rn (rn_field fo23_2 rfl) ?_
          refine wl_yes rfl rfl rfl (vb hb132) ?_
          refine wl_loadd H102 (i := 0) rfl (Lens.then lTNego_A lTAuto_Left) (dInt .i64) ty3 rfl ?_
          refine wl_yes rfl rfl rfl (vb hb132) ?_
          refine wl_rn (rn_pure (.bool (r83.1.A.Left == 2)) rfl) ?_
          refine wl_rn (rn_pickT (.bool (r83.1.A.Left == 2)) (vb hb132) rfl) ?_
          refine wl_rn (rn_pure (.bool (r83.1.A.Left == 2)) rfl) ?_
          rcases bcases (r83.1.A.Left == 2) with hb133 | hb133
          ·replace hF := ifT hF hb133
           refine wl_yes rfl rfl rfl (vb hb133) ?_
           refine wl_load H102 (i := 2) rfl (Lens.id kTNego) ty29 rfl ?_
           intro v134 hv135
           refine wl_yes rfl rfl rfl (vb hb133) ?_
           obtain ⟨r136, hr137, hF⟩ := bindS hF
           refine wl_call (vs := [v134]) en24 rfl (nego_Magic_ok hc hv135 H102 hr137) ?_
           rintro v142 w141 ⟨G138, hG139, rfl, H140⟩
           refine wl_yes rfl rfl rfl (vb hb133) ?_
           refine wl_rn (rn_pure (.bool (r136 == 7)) rfl) ?_
           refine wl_rn (rn_pickT (.bool (r136 == 7)) (vb hb133) rfl) ?_
           refine wl_rn (rn_pure (.bool (r136 == 7)) rfl) ?_
           rcases bcases (r136 == 7) with hb143 | hb143
           ·replace hF := ifT hF hb143
            refine wl_yes rfl rfl rfl (vb hb143) ?_
            refine wl_load H140 (i := 2) rfl (Lens.id kTNego) ty29 rfl ?_
            intro v144 hv145
            refine wl_yes rfl rfl rfl (vb hb143) ?_
            obtain ⟨r146, hr147, hF⟩ := bindS hF
            refine wl_call (vs := [v144]) en25 rfl (nego_Right_ok hc hv145 H140 hr147) ?_
            rintro v152 w151 ⟨G148, hG149, rfl, H150⟩
            refine wl_rn (rn_pickT (.bool r146) (vb hb143) rfl) ?_
            refine wl_rn (rn_pure (.bool r146) rfl) ?_
            rcases bcases r146 with hb153 | hb153
            ·replace hF := ifT hF hb153
             refine wl_yes rfl rfl rfl (vb hb153) ?_
             refine wl_load H150 (i := 3) rfl (Lens.id kTNego) ty29 rfl ?_
             intro v154 hv155
             refine wl_yes rfl rfl rfl (vb hb153) ?_
             refine wl_load H150 (i := 3) rfl (Lens.id kTNego) ty29 rfl ?_
             intro v156 hv157
             refine wl_yes rfl rfl rfl (vb hb153) ?_
             obtain ⟨r158, hr159, hF⟩ := bindS hF
             refine wl_call (vs := [v154, v156]) en26 rfl (nego_Same_ok hc hv155 hv157 H150 hr159) ?_
             rintro v164 w163 ⟨G160, hG161, rfl, H162⟩
             refine wl_rn (rn_pickT (.bool r158) (vb hb153) rfl) ?_
             refine wl_rn (rn_pure (.bool r158) rfl) ?_
             refine wl_nil (then_n ?_)
             refine wp_ret ?_
             have hF := Option.some.inj hF
             subst hF
             exact ret_mk rfl (RV.tmp rfl RV.nil) ⟨_, (((((((hG6.trans hG15).trans hG38).trans hG63).trans hG86).trans hG139).trans hG149).trans hG161), rfl, (St.pick [(.box b98 29 (kTNego.at_ r83.1)), (.box b75 29 (kTNego.at_ r60.1)), (.box b50 29 (kTNego.at_ r35.1)), (.box b27 29 (kTNego.at_ r12.1))] [] [] H162 (by decide) rfl)⟩
            ·replace hF := ifF hF hb153
             iterate 3 refine wl_no rfl rfl rfl (vb hb153) ?_
             refine wl_rn (rn_pickF (.bool false) (vb hb153) rfl) ?_
             refine wl_rn (rn_pure (.bool false) rfl) ?_
             refine wl_nil (then_n ?_)
             refine wp_ret ?_
             have hF := Option.some.inj hF
             subst hF
             exact ret_mk rfl (RV.tmp rfl RV.nil) ⟨_, ((((((hG6.trans hG15).trans hG38).trans hG63).trans hG86).trans hG139).trans hG149), rfl, (St.pick [(.box b98 29 (kTNego.at_ r83.1)), (.box b75 29 (kTNego.at_ r60.1)), (.box b50 29 (kTNego.at_ r35.1)), (.box b27 29 (kTNego.at_ r12.1))] [] [] H150 (by decide) rfl)⟩
           ·replace hF := ifF hF hb143
            iterate 2 refine wl_no rfl rfl rfl (vb hb143) ?_
            refine wl_rn (rn_pickF (.bool false) (vb hb143) rfl) ?_
            refine wl_rn (rn_pure (.bool false) rfl) ?_
            iterate 3 refine wl_no rfl rfl rfl rfl ?_
            refine wl_rn (rn_pickF (.bool false) rfl rfl) ?_
            refine wl_rn (rn_pure (.bool false) rfl) ?_
            refine wl_nil (then_n ?_)
            refine wp_ret ?_
            have hF := Option.some.inj hF
            subst hF
            exact ret_mk rfl (RV.tmp rfl RV.nil) ⟨_, (((((hG6.trans hG15).trans hG38).trans hG63).trans hG86).trans hG139), rfl, (St.pick [(.box b98 29 (kTNego.at_ r83.1)), (.box b75 29 (kTNego.at_ r60.1)), (.box b50 29 (kTNego.at_ r35.1)), (.box b27 29 (kTNego.at_ r12.1))] [] [] H140 (by decide) rfl)⟩
          ·replace hF := ifF hF hb133
           iterate 3 refine wl_no rfl rfl rfl (vb hb133) ?_
           refine wl_rn (rn_pickF (.bool false) (vb hb133) rfl) ?_
           refine wl_rn (rn_pure (.bool false) rfl) ?_
           iterate 2 refine wl_no rfl rfl rfl rfl ?_
           refine wl_rn (rn_pickF (.bool false) rfl rfl) ?_
           refine wl_rn (rn_pure (.bool false) rfl) ?_
           iterate 3 refine wl_no rfl rfl rfl rfl ?_
           refine wl_rn (rn_pickF (.bool false) rfl rfl) ?_
           refine wl_rn (rn_pure (.bool false) rfl) ?_
           refine wl_nil (then_n ?_)
           refine wp_ret ?_
           have hF := Option.some.inj hF
           subst hF
           exact ret_mk rfl (RV.tmp rfl RV.nil) ⟨_, ((((hG6.trans hG15).trans hG38).trans hG63).trans hG86), rfl, (St.pick [(.box b98 29 (kTNego.at_ r83.1)), (.box b75 29 (kTNego.at_ r60.1)), (.box b50 29 (kTNego.at_ r35.1)), (.box b27 29 (kTNego.at_ r12.1))] [] [] H102 (by decide) rfl)⟩
         ·replace hF := ifF hF hb132
          iterate 4 refine wl_no rfl rfl rfl (vb hb132) ?_
          refine wl_rn (rn_pickF (.bool false) (vb hb132) rfl) ?_
          refine wl_rn (rn_pure (.bool false) rfl) ?_
          iterate 3 refine wl_no rfl rfl rfl rfl ?_
          refine wl_rn (rn_pickF (.bool false) rfl rfl) ?_
          refine wl_rn (rn_pure (.bool false) rfl) ?_
          iterate 2 refine wl_no rfl rfl rfl rfl ?_
          refine wl_rn (rn_pickF (.bool false) rfl rfl) ?_
          refine wl_rn (rn_pure (.bool false) rfl) ?_
          iterate 3 refine wl_no rfl rfl rfl rfl ?_
          refine wl_rn (rn_pickF (.bool false) rfl rfl) ?_
          refine wl_rn (rn_pure (.bool false) rfl) ?_
          refine wl_nil (then_n ?_)
          refine wp_ret ?_
          have hF := Option.some.inj hF
          subst hF
          exact ret_mk rfl (RV.tmp rfl RV.nil) ⟨_, ((((hG6.trans hG15).trans hG38).trans hG63).trans hG86), rfl, (St.pick [(.box b98 29 (kTNego.at_ r83.1)), (.box b75 29 (kTNego.at_ r60.1)), (.box b50 29 (kTNego.at_ r35.1)), (.box b27 29 (kTNego.at_ r12.1))] [] [] H102 (by decide) rfl)⟩
        ·replace hF := ifF hF hb131
         iterate 4 refine wl_no rfl rfl rfl (vb hb131) ?_
         refine wl_rn (rn_pickF (.bool false) (vb hb131) rfl) ?_
         refine wl_rn (rn_pure (.bool false) rfl) ?_
         iterate 4 refine wl_no rfl rfl rfl rfl ?_
         refine wl_rn (rn_pickF (.bool false) rfl rfl) ?_
         refine wl_rn (rn_pure (.bool false) rfl) ?_
         iterate 3 refine wl_no rfl rfl rfl rfl ?_
         refine wl_rn (rn_pickF (.bool false) rfl rfl) ?_
         refine wl_rn (rn_pure (.bool false) rfl) ?_
         iterate 2 refine wl_no rfl rfl rfl rfl ?_
         refine wl_rn (rn_pickF (.bool false) rfl rfl) ?_
         refine wl_rn (rn_pure (.bool false) rfl) ?_
         iterate 3 refine wl_no rfl rfl rfl rfl ?_
         refine wl_rn (rn_pickF (.bool false) rfl rfl) ?_
         refine wl_rn (rn_pure (.bool false) rfl) ?_
         refine wl_nil (then_n ?_)
         refine wp_ret ?_
         have hF := Option.some.inj hF
         subst hF
         exact ret_mk rfl (RV.tmp rfl RV.nil) ⟨_, ((((hG6.trans hG15).trans hG38).trans hG63).trans hG86), rfl, (St.pick [(.box b98 29 (kTNego.at_ r83.1)), (.box b75 29 (kTNego.at_ r60.1)), (.box b50 29 (kTNego.at_ r35.1)), (.box b27 29 (kTNego.at_ r12.1))] [] [] H102 (by decide) rfl)⟩
       ·replace hF := ifF hF hb126
        iterate 5 refine wl_no rfl rfl rfl (vb hb126) ?_
        refine wl_rn (rn_pickF (.bool false) (vb hb126) rfl) ?_
        refine wl_rn (rn_pure (.bool false) rfl) ?_
        iterate 4 refine wl_no rfl rfl rfl rfl ?_
        refine wl_rn (rn_pickF (.bool false) rfl rfl) ?_
        refine wl_rn (rn_pure (.bool false) rfl) ?_
        iterate 4 refine wl_no rfl rfl rfl rfl ?_
        refine wl_rn (rn_pickF (.bool false) rfl rfl) ?_
        refine wl_rn (rn_pure (.bool false) rfl) ?_
        iterate 3 refine wl_no rfl rfl rfl rfl ?_
        refine wl_rn (rn_pickF (.bool false) rfl rfl) ?_
        refine wl_rn (rn_pure (.bool false) rfl) ?_
        iterate 2 refine wl_no rfl rfl rfl rfl ?_
        refine wl_rn (rn_pickF (.bool false) rfl rfl) ?_
        refine wl_rn (rn_pure (.bool false) rfl) ?_
        iterate 3 refine wl_no rfl rfl rfl rfl ?_
        refine wl_rn (rn_pickF (.bool false) rfl rfl) ?_
        refine wl_rn (rn_pure (.bool false) rfl) ?_
        refine wl_nil (then_n ?_)
        refine wp_ret ?_
        have hF := Option.some.inj hF
        subst hF
        exact ret_mk rfl (RV.tmp rfl RV.nil) ⟨_, ((((hG6.trans hG15).trans hG38).trans hG63).trans hG86), rfl, (St.pick [(.box b98 29 (kTNego.at_ r83.1)), (.box b75 29 (kTNego.at_ r60.1)), (.box b50 29 (kTNego.at_ r35.1)), (.box b27 29 (kTNego.at_ r12.1))] [] [] H102 (by decide) rfl)⟩
      ·replace hF := ifF hF hb121
       iterate 5 refine wl_no rfl rfl rfl (vb hb121) ?_
       refine wl_rn (rn_pickF (.bool false) (vb hb121) rfl) ?_
       refine wl_rn (rn_pure (.bool false) rfl) ?_
       iterate 5 refine wl_no rfl rfl rfl rfl ?_
       refine wl_rn (rn_pickF (.bool false) rfl rfl) ?_
       refine wl_rn (rn_pure (.bool false) rfl) ?_
       iterate 4 refine wl_no rfl rfl rfl rfl ?_
       refine wl_rn (rn_pickF (.bool false) rfl rfl) ?_
       refine wl_rn (rn_pure (.bool false) rfl) ?_
       iterate 4 refine wl_no rfl rfl rfl rfl ?_
       refine wl_rn (rn_pickF (.bool false) rfl rfl) ?_
       refine wl_rn (rn_pure (.bool false) rfl) ?_
       iterate 3 refine wl_no rfl rfl rfl rfl ?_
       refine wl_rn (rn_pickF (.bool false) rfl rfl) ?_
       refine wl_rn (rn_pure (.bool false) rfl) ?_
       iterate 2 refine wl_no rfl rfl rfl rfl ?_
       refine wl_rn (rn_pickF (.bool false) rfl rfl) ?_
       refine wl_rn (rn_pure (.bool false) rfl) ?_
       iterate 3 refine wl_no rfl rfl rfl rfl ?_
       refine wl_rn (rn_pickF (.bool false) rfl rfl) ?_
       refine wl_rn (rn_pure (.bool false) rfl) ?_
       refine wl_nil (then_n ?_)
       refine wp_ret ?_
       have hF := Option.some.inj hF
       subst hF
       exact ret_mk rfl (RV.tmp rfl RV.nil) ⟨_, ((((hG6.trans hG15).trans hG38).trans hG63).trans hG86), rfl, (St.pick [(.box b98 29 (kTNego.at_ r83.1)), (.box b75 29 (kTNego.at_ r60.1)), (.box b50 29 (kTNego.at_ r35.1)), (.box b27 29 (kTNego.at_ r12.1))] [] [] H102 (by decide) rfl)⟩
     ·replace hF := ifF hF hb120
      iterate 3 refine wl_no rfl rfl rfl (vb hb120) ?_
      refine wl_rn (rn_pickF (.bool false) (vb hb120) rfl) ?_
      refine wl_rn (rn_pure (.bool false) rfl) ?_
      iterate 5 refine wl_no rfl rfl rfl rfl ?_
      refine wl_rn (rn_pickF (.bool false) rfl rfl) ?_
      refine wl_rn (rn_pure (.bool false) rfl) ?_
      iterate 5 refine wl_no rfl rfl rfl rfl ?_
      refine wl_rn (rn_pickF (.bool false) rfl rfl) ?_
      refine wl_rn (rn_pure (.bool false) rfl) ?_
      iterate 4 refine wl_no rfl rfl rfl rfl ?_
      refine wl_rn (rn_pickF (.bool false) rfl rfl) ?_
      refine wl_rn (rn_pure (.bool false) rfl) ?_
      iterate 4 refine wl_no rfl rfl rfl rfl ?_
      refine wl_rn (rn_pickF (.bool false) rfl rfl) ?_
      refine wl_rn (rn_pure (.bool false) rfl) ?_
      iterate 3 refine wl_no rfl rfl rfl rfl ?_
      refine wl_rn (rn_pickF (.bool false) rfl rfl) ?_
      refine wl_rn (rn_pure (.bool false) rfl) ?_
      iterate 2 refine wl_no rfl rfl rfl rfl ?_
      refine wl_rn (rn_pickF (.bool false) rfl rfl) ?_
      refine wl_rn (rn_pure (.bool false) rfl) ?_
      iterate 3 refine wl_no rfl rfl rfl rfl ?_
      refine wl_rn (rn_pickF (.bool false) rfl rfl) ?_
      refine wl_rn (rn_pure (.bool false) rfl) ?_
      refine wl_nil (then_n ?_)
      refine wp_ret ?_
      have hF := Option.some.inj hF
      subst hF
      exact ret_mk rfl (RV.tmp rfl RV.nil) ⟨_, ((((hG6.trans hG15).trans hG38).trans hG63).trans hG86), rfl, (St.pick [(.box b98 29 (kTNego.at_ r83.1)), (.box b75 29 (kTNego.at_ r60.1)), (.box b50 29 (kTNego.at_ r35.1)), (.box b27 29 (kTNego.at_ r12.1))] [] [] H102 (by decide) rfl)⟩
    ·replace hF := ifF hF hb115
     iterate 5 refine wl_no rfl rfl rfl (vb hb115) ?_
     refine wl_rn (rn_pickF (.bool false) (vb hb115) rfl) ?_
     refine wl_rn (rn_pure (.bool false) rfl) ?_
     iterate 3 refine wl_no rfl rfl rfl rfl ?_
     refine wl_rn (rn_pickF (.bool false) rfl rfl) ?_
     refine wl_rn (rn_pure (.bool false) rfl) ?_
     iterate 5 refine wl_no rfl rfl rfl rfl ?_
     refine wl_rn (rn_pickF (.bool false) rfl rfl) ?_
     refine wl_rn (rn_pure (.bool false) rfl) ?_
     iterate 5 refine wl_no rfl rfl rfl rfl ?_
     refine wl_rn (rn_pickF (.bool false) rfl rfl) ?_
     refine wl_rn (rn_pure (.bool false) rfl) ?_
     iterate 4 refine wl_no rfl rfl rfl rfl ?_
     refine wl_rn (rn_pickF (.bool false) rfl rfl) ?_
     refine wl_rn (rn_pure (.bool false) rfl) ?_
     iterate 4 refine wl_no rfl rfl rfl rfl ?_
     refine wl_rn (rn_pickF (.bool false) rfl rfl) ?_
     refine wl_rn (rn_pure (.bool false) rfl) ?_
     iterate 3 refine wl_no rfl rfl rfl rfl ?_
     refine wl_rn (rn_pickF (.bool false) rfl rfl) ?_
     refine wl_rn (rn_pure (.bool false) rfl) ?_
     iterate 2 refine wl_no rfl rfl rfl rfl ?_
     refine wl_rn (rn_pickF (.bool false) rfl rfl) ?_
     refine wl_rn (rn_pure (.bool false) rfl) ?_
     iterate 3 refine wl_no rfl rfl rfl rfl ?_
     refine wl_rn (rn_pickF (.bool false) rfl rfl) ?_
     refine wl_rn (rn_pure (.bool false) rfl) ?_
     refine wl_nil (then_n ?_)
     refine wp_ret ?_
     have hF := Option.some.inj hF
     subst hF
     exact ret_mk rfl (RV.tmp rfl RV.nil) ⟨_, ((((hG6.trans hG15).trans hG38).trans hG63).trans hG86), rfl, (St.pick [(.box b98 29 (kTNego.at_ r83.1)), (.box b75 29 (kTNego.at_ r60.1)), (.box b50 29 (kTNego.at_ r35.1)), (.box b27 29 (kTNego.at_ r12.1))] [] [] H102 (by decide) rfl)⟩
   ·replace hF := ifF hF hb110
    iterate 5 refine wl_no rfl rfl rfl (vb hb110) ?_
    refine wl_rn (rn_pickF (.bool false) (vb hb110) rfl) ?_
    refine wl_rn (rn_pure (.bool false) rfl) ?_
    iterate 5 refine wl_no rfl rfl rfl rfl ?_
    refine wl_rn (rn_pickF (.bool false) rfl rfl) ?_
    refine wl_rn (rn_pure (.bool false) rfl) ?_
    iterate 3 refine wl_no rfl rfl rfl rfl ?_
    refine wl_rn (rn_pickF (.bool false) rfl rfl) ?_
    refine wl_rn (rn_pure (.bool false) rfl) ?_
    iterate 5 refine wl_no rfl rfl rfl rfl ?_
    refine wl_rn (rn_pickF (.bool false) rfl rfl) ?_
    refine wl_rn (rn_pure (.bool false) rfl) ?_
    iterate 5 refine wl_no rfl rfl rfl rfl ?_
    refine wl_rn (rn_pickF (.bool false) rfl rfl) ?_
    refine wl_rn (rn_pure (.bool false) rfl) ?_
    iterate 4 refine wl_no rfl rfl rfl rfl ?_
    refine wl_rn (rn_pickF (.bool false) rfl rfl) ?_
    refine wl_rn (rn_pure (.bool false) rfl) ?_
    iterate 4 refine wl_no rfl rfl rfl rfl ?_
    refine wl_rn (rn_pickF (.bool false) rfl rfl) ?_
    refine wl_rn (rn_pure (.bool false) rfl) ?_
    iterate 3 refine wl_no rfl rfl rfl rfl ?_
    refine wl_rn (rn_pickF (.bool false) rfl rfl) ?_
    refine wl_rn (rn_pure (.bool false) rfl) ?_
    iterate 2 refine wl_no rfl rfl rfl rfl ?_
    refine wl_rn (rn_pickF (.bool false) rfl rfl) ?_
    refine wl_rn (rn_pure (.bool false) rfl) ?_
    iterate 3 refine wl_no rfl rfl rfl rfl ?_
    refine wl_rn (rn_pickF (.bool false) rfl rfl) ?_
    refine wl_rn (rn_pure (.bool false) rfl) ?_
    refine wl_nil (then_n ?_)
    refine wp_ret ?_
    have hF := Option.some.inj hF
    subst hF
    exact ret_mk rfl (RV.tmp rfl RV.nil) ⟨_, ((((hG6.trans hG15).trans hG38).trans hG63).trans hG86), rfl, (St.pick [(.box b98 29 (kTNego.at_ r83.1)), (.box b75 29 (kTNego.at_ r60.1)), (.box b50 29 (kTNego.at_ r35.1)), (.box b27 29 (kTNego.at_ r12.1))] [] [] H102 (by decide) rfl)⟩
  ·replace hF := ifF hF hb109
   iterate 3 refine wl_no rfl rfl rfl (vb hb109) ?_
   refine wl_rn (rn_pickF (.bool false) (vb hb109) rfl) ?_
   refine wl_rn (rn_pure (.bool false) rfl) ?_
   iterate 5 refine wl_no rfl rfl rfl rfl ?_
   refine wl_rn (rn_pickF (.bool false) rfl rfl) ?_
   refine wl_rn (rn_pure (.bool false) rfl) ?_
   iterate 5 refine wl_no rfl rfl rfl rfl ?_
   refine wl_rn (rn_pickF (.bool false) rfl rfl) ?_
   refine wl_rn (rn_pure (.bool false) rfl) ?_
   iterate 3 refine wl_no rfl rfl rfl rfl ?_
   refine wl_rn (rn_pickF (.bool false) rfl rfl) ?_
   refine wl_rn (rn_pure (.bool false) rfl) ?_
   iterate 5 refine wl_no rfl rfl rfl rfl ?_
   refine wl_rn (rn_pickF (.bool false) rfl rfl) ?_
   refine wl_rn (rn_pure (.bool false) rfl) ?_
   iterate 5 refine wl_no rfl rfl rfl rfl ?_
   refine wl_rn (rn_pickF (.bool false) rfl rfl) ?_
   refine wl_rn (rn_pure (.bool false) rfl) ?_
   iterate 4 refine wl_no rfl rfl rfl rfl ?_
   refine wl_rn (rn_pickF (.bool false) rfl rfl) ?_
   refine wl_rn (rn_pure (.bool false) rfl) ?_
   iterate 4 refine wl_no rfl rfl rfl rfl ?_
   refine wl_rn (rn_pickF (.bool false) rfl rfl) ?_
   refine wl_rn (rn_pure (.bool false) rfl) ?_
   iterate 3 refine wl_no rfl rfl rfl rfl ?_
   refine wl_rn (rn_pickF (.bool false) rfl rfl) ?_
   refine wl_rn (rn_pure (.bool false) rfl) ?_
   iterate 2 refine wl_no rfl rfl rfl rfl ?_
   refine wl_rn (rn_pickF (.bool false) rfl rfl) ?_
   refine wl_rn (rn_pure (.bool false) rfl) ?_
   iterate 3 refine wl_no rfl rfl rfl rfl ?_
   refine wl_rn (rn_pickF (.bool false) rfl rfl) ?_
   refine wl_rn (rn_pure (.bool false) rfl) ?_
   refine wl_nil (then_n ?_)
   refine wp_ret ?_
   have hF := Option.some.inj hF
   subst hF
   exact ret_mk rfl (RV.tmp rfl RV.nil) ⟨_, ((((hG6.trans hG15).trans hG38).trans hG63).trans hG86), rfl, (St.pick [(.box b98 29 (kTNego.at_ r83.1)), (.box b75 29 (kTNego.at_ r60.1)), (.box b50 29 (kTNego.at_ r35.1)), (.box b27 29 (kTNego.at_ r12.1))] [] [] H102 (by decide) rfl)⟩
 ·replace hF := ifF hF hb104
  iterate 4 refine wl_no rfl rfl rfl (vb hb104) ?_
  refine wl_rn (rn_pickF (.bool false) (vb hb104) rfl) ?_
  refine wl_rn (rn_pure (.bool false) rfl) ?_
  iterate 3 refine wl_no rfl rfl rfl rfl ?_
  refine wl_rn (rn_pickF (.bool false) rfl rfl) ?_
  refine wl_rn (rn_pure (.bool false) rfl) ?_
  iterate 5 refine wl_no rfl rfl rfl rfl ?_
  refine wl_rn (rn_pickF (.bool false) rfl rfl) ?_
  refine wl_rn (rn_pure (.bool false) rfl) ?_
  iterate 5 refine wl_no rfl rfl rfl rfl ?_
  refine wl_rn (rn_pickF (.bool false) rfl rfl) ?_
  refine wl_rn (rn_pure (.bool false) rfl) ?_
  iterate 3 refine wl_no rfl rfl rfl rfl ?_
  refine wl_rn (rn_pickF (.bool false) rfl rfl) ?_
  refine wl_rn (rn_pure (.bool false) rfl) ?_
  iterate 5 refine wl_no rfl rfl rfl rfl ?_
  refine wl_rn (rn_pickF (.bool false) rfl rfl) ?_
  refine wl_rn (rn_pure (.bool false) rfl) ?_
  iterate 5 refine wl_no rfl rfl rfl rfl ?_
  refine wl_rn (rn_pickF (.bool false) rfl rfl) ?_
  refine wl_rn (rn_pure (.bool false) rfl) ?_
  iterate 4 refine wl_no rfl rfl rfl rfl ?_
  refine wl_rn (rn_pickF (.bool false) rfl rfl) ?_
  refine wl_rn (rn_pure (.bool false) rfl) ?_
  iterate 4 refine wl_no rfl rfl rfl rfl ?_
  refine wl_rn (rn_pickF (.bool false) rfl rfl) ?_
  refine wl_rn (rn_pure (.bool false) rfl) ?_
  iterate 3 refine wl_no rfl rfl rfl rfl ?_
  refine wl_rn (rn_pickF (.bool false) rfl rfl) ?_
  refine wl_rn (rn_pure (.bool false) rfl) ?_
  iterate 2 refine wl_no rfl rfl rfl rfl ?_
  refine wl_rn (rn_pickF (.bool false) rfl rfl) ?_
  refine wl_rn (rn_pure (.bool false) rfl) ?_
  iterate 3 refine wl_no rfl rfl rfl rfl ?_
  refine wl_rn (rn_pickF (.bool false) rfl rfl) ?_
  refine wl_rn (rn_pure (.bool false) rfl) ?_
  refine wl_nil (then_n ?_)
  refine wp_ret ?_
  have hF := Option.some.inj hF
  subst hF
  exact ret_mk rfl (RV.tmp rfl RV.nil) ⟨_, ((((hG6.trans hG15).trans hG38).trans hG63).trans hG86), rfl, (St.pick [(.box b98 29 (kTNego.at_ r83.1)), (.box b75 29 (kTNego.at_ r60.1)), (.box b50 29 (kTNego.at_ r35.1)), (.box b27 29 (kTNego.at_ r12.1))] [] [] H102 (by decide) rfl)⟩

theorem portreeveref10_Few_ok {c : World} (hc : Hc c) {G : Ghost} {w : World} {σ : List Ent} {a0 : (List TOpt)} {A0_ : Option Addr} {c0_ : Nat} (h0_ : SlR kTOpt G A0_ c0_ a0) (H : St c G w (σ)) {r : Bool} (hF : portreeveref10_Few a0 = some r) :
  Calls Tryd.prog 27 ([(.slice A0_ a0.length c0_)] : List Value).toArray w (Ends fun v w' => ∃ (G' : Ghost), GLe G G' ∧ tup [(.bool r)] = v ∧ St c G' w' (σ)) := by
 unfold portreeveref10_Few at hF
 refine calls_mk Tryd.func27 rfl rfl rfl ?_
 refine wp_seq (wc_region ?_)
 refine wl_rn (rn_pure (.bool false) rfl) ?_
 refine wl_nil (then_n ?_)
 refine wp_seq ?_
 refine wp_seq (wc_region ?_)
 refine wl_rn (rn_pure (.int .i64 0) rfl) ?_
 refine wl_nil (then_n ?_)
 refine wp_block ?_
 refine wp_loopX (fun (s : Int) a w => ∃ (T0 : Fr) (G1 : Ghost), a = mk 21 (upds T0 [(0, (.slice A0_ a0.length c0_)), (3, (.int .i64 s))]) ∧ GLe G G1 ∧ St c G1 w (σ)) hF ?_ ?_
 ·exact ⟨_, _, frame_eq [(0, (.slice A0_ a0.length c0_)), (3, (.int .i64 0))] ⟨rfl, rfl, trivial⟩, GLe.refl _, H⟩
 ·rintro x16 a w y19 ⟨T0, G20, rfl, hG17, H18⟩ hF hy1
  refine wp_seq ?_
  refine wp_seq (wc_region ?_)
  refine wl_rn (rn_pure (.int .i64 x16) rfl) ?_
  refine wl_rn (rn_pure (.slice A0_ a0.length c0_) rfl) ?_
  refine wl_rn (rn_len sl27 rfl) ?_
  refine wl_rn (rn_pure (.bool (decide (x16 < (a0.length : Int)))) rfl) ?_
  refine wl_nil (then_n ?_)
  rcases bcases (decide (x16 < (a0.length : Int))) with hb21 | hb21
  ·replace hF := ifT hF hb21
   refine wc_true (vb hb21) ?_
   refine wp_skip ?_
   refine then_n ?_
   refine wp_seq ?_
   refine wp_block ?_
   refine wp_seq (join (fun a w => ∃ (T0 : Fr) (G1 : Ghost) (x32 : Bool), a = mk 21 (upds T0 [(0, (.slice A0_ a0.length c0_)), (3, (.int .i64 x16)), (20, (.bool x32))]) ∧ GLe G20 G1 ∧ St c G1 w (σ) ∧ portreeveref10_Few_j2 x16 x32 = some y19) ?_ ?_)
   ·rintro a w ⟨T0, G35, x32, rfl, hG33, H34, hF⟩
    rcases bcases x32 with hb36 | hb36
    ·replace hF := ifT hF hb36
     refine wc_true (vb hb36) ?_
     refine wp_seq (wc_region ?_)
     refine wl_rn (rn_pure (.bool false) rfl) ?_
     refine wl_nil (then_n ?_)
     refine wp_ret ?_
     refine blk_r ?_
     iterate 2 refine then_r ?_
     replace hF := exitS hF hy1
     refine blk_r ?_
     refine then_r ?_
     have hF := Option.some.inj hF
     subst hF
     exact ret_mk rfl (RV.tmp rfl RV.nil) ⟨_, (hG17.trans hG33), rfl, H34⟩
    ·replace hF := ifF hF hb36
     refine wc_false (vb hb36) ?_
     refine wp_skip ?_
     refine blk_n ?_
     refine then_n ?_
     refine wc_region ?_
     refine wl_rn (rn_pure (.int .i64 x16) rfl) ?_
     iterate 2 refine wl_rn (rn_pure (.int .i64 (IntKind.i64.wrap (x16 + 1))) rfl) ?_
     refine wl_nil (then_n ?_)
     exact ⟨_, (Option.some.inj hF).symm, _, _, frame_eq [(0, (.slice A0_ a0.length c0_)), (3, (.int .i64 (IntKind.i64.wrap (x16 + 1))))] ⟨rfl, rfl, trivial⟩, (hG17.trans hG33), H34⟩
   ·refine wc_region ?_
    refine wl_rn (rn_pure (.int .i64 x16) rfl) ?_
    iterate 2 refine wl_rn (rn_pure (.bool (decide (x16 ≥ 30))) rfl) ?_
    rcases bcases (decide (x16 ≥ 30)) with hb37 | hb37
    ·replace hF := ifT hF hb37
     iterate 7 refine wl_no rfl rfl rfl (vb hb37) ?_
     refine wl_rn (rn_pickT (.bool true) (vb hb37) rfl) ?_
     refine wl_nil (then_n ?_)
     exact ⟨_, _, true, frame_eq [(0, (.slice A0_ a0.length c0_)), (3, (.int .i64 x16)), (20, (.bool true))] ⟨rfl, rfl, rfl, trivial⟩, GLe.refl _, H18, hF⟩
    ·replace hF := ifF hF hb37
     refine wl_yes rfl rfl rfl (vb hb37) ?_
     refine wl_rn (rn_pure (.slice A0_ a0.length c0_) rfl) ?_
     refine wl_yes rfl rfl rfl (vb hb37) ?_
     refine wl_rn (rn_pure (.int .i64 x16) rfl) ?_
     refine wl_yes rfl rfl rfl (vb hb37) ?_
     obtain ⟨x38, hx39, hF⟩ := bindS hF
     refine wl_rnE (rn_index (h0_.mono hG17) sl27 ty60 rfl rfl hx39) ?_
     intro a40 hp41
     refine wl_yes rfl rfl rfl (vb hb37) ?_
     refine wl_rn (rn_fieldp fo60_1 rfl) ?_
     refine wl_yes rfl rfl rfl (vb hb37) ?_
     refine wl_loadp H18 (hp41.lens lTOpt_Data) ty30 rfl ?_
     intro v42 hv43
     obtain ⟨A44, c45, rfl, hs46⟩ := slice_V hv43
     refine wl_yes rfl rfl rfl (vb hb37) ?_
     refine wl_rn (rn_len sl30 rfl) ?_
     refine wl_yes rfl rfl rfl (vb hb37) ?_
     refine wl_rn (rn_pure (.bool (decide ((x38.Data.length : Int) > 253))) rfl) ?_
     refine wl_rn (rn_pickF (.bool (decide ((x38.Data.length : Int) > 253))) (vb hb37) rfl) ?_
     refine wl_nil (then_n ?_)
     exact ⟨_, _, (decide ((x38.Data.length : Int) > 253)), frame_eq [(0, (.slice A0_ a0.length c0_)), (3, (.int .i64 x16)), (20, (.bool (decide ((x38.Data.length : Int) > 253))))] ⟨rfl, rfl, rfl, trivial⟩, GLe.refl _, H18, hF⟩
  ·replace hF := ifF hF hb21
   refine wc_false (vb hb21) ?_
   refine wp_exit ?_
   iterate 2 refine then_e ?_
   replace hF := exitS hF hy1
   refine blk_e ?_
   refine then_n ?_
   refine wp_seq (wc_region ?_)
   refine wl_rn (rn_pure (.bool true) rfl) ?_
   refine wl_nil (then_n ?_)
   refine wp_ret ?_
   have hF := Option.some.inj hF
   subst hF
   exact ret_mk rfl (RV.tmp rfl RV.nil) ⟨_, hG17, rfl, H18⟩

theorem portreeveref14_Small_ok {c : World} (hc : Hc c) {G : Ghost} {w : World} {σ : List Ent} {a0 : TNego} {v0_ : Value} (h0_ : kTNego.V G v0_ a0) (H : St c G w (σ)) {r : Bool} (hF : portreeveref14_Small a0 = some r) :
  Calls Tryd.prog 9 ([v0_] : List Value).toArray w (Ends fun v w' => ∃ (G' : Ghost), GLe G G' ∧ tup [(.bool r)] = v ∧ St c G' w' (σ)) := by
 unfold portreeveref14_Small at hF
 refine calls_mk Tryd.func9 rfl rfl rfl ?_
 refine wp_seq (wc_region ?_)
 refine wl_box (K := kTNego) (x := a0) H rfl h0_ ?_
 intro b1 w4 H2
 refine wl_rn (rn_pure (.bool false) rfl) ?_
 refine wl_nil (then_n (wp_seq (wc_region ?_)))
 refine wl_rn (rn_field fo29_2 rfl) ?_
 refine wl_load H2 (i := 0) rfl lTNego_Ours ty27 rfl ?_
 intro v5 hv6
 obtain ⟨A7, c8, rfl, hs9⟩ := slice_V hv6
 obtain ⟨r10, hr11, hF⟩ := bindS hF
 refine wl_call (vs := [(.slice A7 a0.Ours.length c8)]) en27 rfl (portreeveref10_Few_ok hc hs9 H2 hr11) ?_
 rintro v16 w15 ⟨G12, hG13, rfl, H14⟩
 refine wl_rn (rn_pure (.bool r10) rfl) ?_
 refine wl_nil (then_n (wp_seq (wc_region ?_)))
 refine wl_rn (rn_field fo29_4 rfl) ?_
 refine wl_load H14 (i := 0) rfl lTNego_Peer ty27 rfl ?_
 intro v17 hv18
 obtain ⟨A19, c20, rfl, hs21⟩ := slice_V hv18
 obtain ⟨r22, hr23, hF⟩ := bindS hF
 refine wl_call (vs := [(.slice A19 a0.Peer.length c20)]) en27 rfl (portreeveref10_Few_ok hc hs21 H14 hr23) ?_
 rintro v28 w27 ⟨G24, hG25, rfl, H26⟩
 refine wl_rn (rn_pure (.bool r22) rfl) ?_
 refine wl_nil (then_n (wp_seq (wc_region ?_)))
 iterate 2 refine wl_rn (rn_pure (.bool r10) rfl) ?_
 rcases bcases r10 with hb29 | hb29
 ·replace hF := ifT hF hb29
  refine wl_yes rfl rfl rfl (vb hb29) ?_
  refine wl_rn (rn_pure (.bool r22) rfl) ?_
  refine wl_rn (rn_pickT (.bool r22) (vb hb29) rfl) ?_
  refine wl_rn (rn_pure (.bool r22) rfl) ?_
  refine wl_nil (then_n ?_)
  refine wp_ret ?_
  have hF := Option.some.inj hF
  subst hF
  exact ret_mk rfl (RV.tmp rfl RV.nil) ⟨_, (hG13.trans hG25), rfl, (St.pick [(.box b1 29 (kTNego.at_ a0))] [] [] H26 (by decide) rfl)⟩
 ·replace hF := ifF hF hb29
  refine wl_no rfl rfl rfl (vb hb29) ?_
  refine wl_rn (rn_pickF (.bool false) (vb hb29) rfl) ?_
  refine wl_rn (rn_pure (.bool false) rfl) ?_
  refine wl_nil (then_n ?_)
  refine wp_ret ?_
  have hF := Option.some.inj hF
  subst hF
  exact ret_mk rfl (RV.tmp rfl RV.nil) ⟨_, (hG13.trans hG25), rfl, (St.pick [(.box b1 29 (kTNego.at_ a0))] [] [] H26 (by decide) rfl)⟩

theorem portreeveref11_Timed_ok {c : World} (hc : Hc c) {G : Ghost} {w : World} {σ : List Ent} {a0 : Int}  (H : St c G w (σ)) {r : Bool} (hF : portreeveref11_Timed a0 = some r) :
  Calls Tryd.prog 46 ([(.int .i64 a0)] : List Value).toArray w (Ends fun v w' => ∃ (G' : Ghost), GLe G G' ∧ tup [(.bool r)] = v ∧ St c G' w' (σ)) := by
 unfold portreeveref11_Timed at hF
 refine calls_mk Tryd.func46 rfl rfl rfl ?_
 refine wp_seq (wc_region ?_)
 refine wl_rn (rn_pure (.bool false) rfl) ?_
 refine wl_nil (then_n (wp_seq (wc_region ?_)))
 refine wl_rn (rn_pure (.int .i64 a0) rfl) ?_
 iterate 2 refine wl_rn (rn_pure (.bool (decide (a0 ≥ 4))) rfl) ?_
 rcases bcases (decide (a0 ≥ 4)) with hb1 | hb1
 ·replace hF := ifT hF hb1
  refine wl_yes rfl rfl rfl (vb hb1) ?_
  refine wl_rn (rn_pure (.int .i64 a0) rfl) ?_
  refine wl_yes rfl rfl rfl (vb hb1) ?_
  refine wl_rn (rn_pure (.bool (decide (a0 ≤ 8))) rfl) ?_
  refine wl_rn (rn_pickT (.bool (decide (a0 ≤ 8))) (vb hb1) rfl) ?_
  refine wl_rn (rn_pure (.bool (decide (a0 ≤ 8))) rfl) ?_
  refine wl_nil (then_n ?_)
  refine wp_ret ?_
  have hF := Option.some.inj hF
  subst hF
  exact ret_mk rfl (RV.tmp rfl RV.nil) ⟨_, GLe.refl _, rfl, H⟩
 ·replace hF := ifF hF hb1
  iterate 2 refine wl_no rfl rfl rfl (vb hb1) ?_
  refine wl_rn (rn_pickF (.bool false) (vb hb1) rfl) ?_
  refine wl_rn (rn_pure (.bool false) rfl) ?_
  refine wl_nil (then_n ?_)
  refine wp_ret ?_
  have hF := Option.some.inj hF
  subst hF
  exact ret_mk rfl (RV.tmp rfl RV.nil) ⟨_, GLe.refl _, rfl, H⟩

theorem portreeveref12_Right_ok {c : World} (hc : Hc c) {G : Ghost} {w : World} {σ : List Ent} {a0 : TAuto} {v0_ : Value} (h0_ : kTAuto.V G v0_ a0) (H : St c G w (σ)) {r : Bool} (hF : portreeveref12_Right a0 = some r) :
  Calls Tryd.prog 28 ([v0_] : List Value).toArray w (Ends fun v w' => ∃ (G' : Ghost), GLe G G' ∧ tup [(.bool r)] = v ∧ St c G' w' (σ)) := by
 unfold portreeveref12_Right at hF
 refine calls_mk Tryd.func28 rfl rfl rfl ?_
 refine wp_seq (wc_region ?_)
 refine wl_box (K := kTAuto) (x := a0) H rfl h0_ ?_
 intro b1 w4 H2
 refine wl_rn (rn_pure (.bool false) rfl) ?_
 refine wl_nil (then_n ?_)
 refine wp_seq ?_
 refine wp_seq (join (fun a w => ∃ (T0 : Fr) (G1 : Ghost) (x8 : Bool), a = mk 45 (upds T0 [(1, (pt b1)), (21, (.bool x8))]) ∧ GLe G G1 ∧ St c G1 w ((.box b1 23 (kTAuto.at_ a0)) :: σ) ∧ portreeveref12_Right_j1 a0 x8 = some r) ?_ ?_)
 ·rintro a w ⟨T0, G11, x8, rfl, hG9, H10, hF⟩
  rcases bcases x8 with hb12 | hb12
  ·replace hF := ifT hF hb12
   refine wc_true (vb hb12) ?_
   refine wp_seq (wc_region ?_)
   refine wl_rn (rn_pure (.bool false) rfl) ?_
   refine wl_nil (then_n ?_)
   refine wp_ret ?_
   refine then_r ?_
   have hF := Option.some.inj hF
   subst hF
   exact ret_mk rfl (RV.tmp rfl RV.nil) ⟨_, hG9, rfl, (St.pick [(.box b1 23 (kTAuto.at_ a0))] [] [] H10 (by decide) rfl)⟩
  ·replace hF := ifF hF hb12
   refine wc_false (vb hb12) ?_
   refine wp_skip ?_
   refine then_n ?_
   refine wp_seq (wc_region ?_)
   refine wl_rn (rn_field fo23_0 rfl) ?_
   refine wl_loadd H10 (i := 0) rfl lTAuto_State (dInt .i64) ty3 rfl ?_
   obtain ⟨r13, hr14, hF⟩ := bindS hF
   refine wl_call (vs := [(.int .i64 a0.State)]) en46 rfl (portreeveref11_Timed_ok hc H10 hr14) ?_
   rintro v19 w18 ⟨G15, hG16, rfl, H17⟩
   refine wl_rn (rn_pure (.bool r13) rfl) ?_
   refine wl_nil (then_n (wp_seq (wc_region ?_)))
   iterate 2 refine wl_rn (rn_pure (.bool r13) rfl) ?_
   rcases bcases r13 with hb20 | hb20
   ·replace hF := ifT hF hb20
    refine wl_yes rfl rfl rfl (vb hb20) ?_
    refine wl_rn (rn_field fo23_2 rfl) ?_
    refine wl_yes rfl rfl rfl (vb hb20) ?_
    refine wl_loadd H17 (i := 0) rfl lTAuto_Left (dInt .i64) ty3 rfl ?_
    refine wl_yes rfl rfl rfl (vb hb20) ?_
    refine wl_rn (rn_pure (.bool (decide (a0.Left ≥ 1))) rfl) ?_
    refine wl_rn (rn_pickT (.bool (decide (a0.Left ≥ 1))) (vb hb20) rfl) ?_
    refine wl_rn (rn_pure (.bool (decide (a0.Left ≥ 1))) rfl) ?_
    rcases bcases (decide (a0.Left ≥ 1)) with hb21 | hb21
    ·replace hF := ifT hF hb21
     refine wl_yes rfl rfl rfl (vb hb21) ?_
     refine wl_rn (rn_field fo23_2 rfl) ?_
     refine wl_yes rfl rfl rfl (vb hb21) ?_
     refine wl_loadd H17 (i := 0) rfl lTAuto_Left (dInt .i64) ty3 rfl ?_
     refine wl_yes rfl rfl rfl (vb hb21) ?_
     refine wl_rn (rn_pure (.bool (decide (a0.Left ≤ 3))) rfl) ?_
     refine wl_rn (rn_pickT (.bool (decide (a0.Left ≤ 3))) (vb hb21) rfl) ?_
     refine wl_rn (rn_pure (.bool (decide (a0.Left ≤ 3))) rfl) ?_
     rcases bcases (decide (a0.Left ≤ 3)) with hb22 | hb22
     ·replace hF := ifT hF hb22
      iterate 3 refine wl_no rfl rfl rfl (vb hb22) ?_
      iterate 3 refine wl_nou rfl rfl rfl rfl ?_
      refine wl_no rfl rfl rfl (vb hb22) ?_
      refine wl_rn (rn_pickT (.bool true) (vb hb22) rfl) ?_
      refine wl_rn (rn_pure (.bool true) rfl) ?_
      refine wl_nil (then_n ?_)
      refine wp_ret ?_
      have hF := Option.some.inj hF
      subst hF
      exact ret_mk rfl (RV.tmp rfl RV.nil) ⟨_, (hG9.trans hG16), rfl, (St.pick [(.box b1 23 (kTAuto.at_ a0))] [] [] H17 (by decide) rfl)⟩
     ·replace hF := ifF hF hb22
      refine wl_yes rfl rfl rfl (vb hb22) ?_
      refine wl_rn (rn_pure (.bool r13) rfl) ?_
      refine wl_yes rfl rfl rfl (vb hb22) ?_
      refine wl_rn (rn_pure (.bool (!r13)) rfl) ?_
      refine wl_yes rfl rfl rfl (vb hb22) ?_
      refine wl_rn (rn_pure (.bool (!r13)) rfl) ?_
      rcases bcases (!r13) with hb23 | hb23
      ·replace hF := ifT hF hb23
       refine wl_yes rfl rfl rfl (vb hb23) ?_
       refine wl_rn (rn_field fo23_2 rfl) ?_
       refine wl_yes rfl rfl rfl (vb hb23) ?_
       refine wl_loadd H17 (i := 0) rfl lTAuto_Left (dInt .i64) ty3 rfl ?_
       refine wl_yes rfl rfl rfl (vb hb23) ?_
       refine wl_rn (rn_pure (.bool (a0.Left == 0)) rfl) ?_
       refine wl_yes rfl rfl rfl (vb hb22) ?_
       refine wl_rn (rn_pickT (.bool (a0.Left == 0)) (vb hb23) rfl) ?_
       refine wl_rn (rn_pickF (.bool (a0.Left == 0)) (vb hb22) rfl) ?_
       refine wl_rn (rn_pure (.bool (a0.Left == 0)) rfl) ?_
       refine wl_nil (then_n ?_)
       refine wp_ret ?_
       have hF := Option.some.inj hF
       subst hF
       exact ret_mk rfl (RV.tmp rfl RV.nil) ⟨_, (hG9.trans hG16), rfl, (St.pick [(.box b1 23 (kTAuto.at_ a0))] [] [] H17 (by decide) rfl)⟩
      ·replace hF := ifF hF hb23
       iterate 3 refine wl_no rfl rfl rfl (vb hb23) ?_
       refine wl_yes rfl rfl rfl (vb hb22) ?_
       refine wl_rn (rn_pickF (.bool false) (vb hb23) rfl) ?_
       refine wl_rn (rn_pickF (.bool false) (vb hb22) rfl) ?_
       refine wl_rn (rn_pure (.bool false) rfl) ?_
       refine wl_nil (then_n ?_)
       refine wp_ret ?_
       have hF := Option.some.inj hF
       subst hF
       exact ret_mk rfl (RV.tmp rfl RV.nil) ⟨_, (hG9.trans hG16), rfl, (St.pick [(.box b1 23 (kTAuto.at_ a0))] [] [] H17 (by decide) rfl)⟩
    ·replace hF := ifF hF hb21
     iterate 3 refine wl_no rfl rfl rfl (vb hb21) ?_
     refine wl_rn (rn_pickF (.bool false) (vb hb21) rfl) ?_
     refine wl_rn (rn_pure (.bool false) rfl) ?_
     refine wl_yes rfl rfl rfl rfl ?_
     refine wl_rn (rn_pure (.bool r13) rfl) ?_
     refine wl_yes rfl rfl rfl rfl ?_
     refine wl_rn (rn_pure (.bool (!r13)) rfl) ?_
     refine wl_yes rfl rfl rfl rfl ?_
     refine wl_rn (rn_pure (.bool (!r13)) rfl) ?_
     rcases bcases (!r13) with hb24 | hb24
     ·replace hF := ifT hF hb24
      refine wl_yes rfl rfl rfl (vb hb24) ?_
      refine wl_rn (rn_field fo23_2 rfl) ?_
      refine wl_yes rfl rfl rfl (vb hb24) ?_
      refine wl_loadd H17 (i := 0) rfl lTAuto_Left (dInt .i64) ty3 rfl ?_
      refine wl_yes rfl rfl rfl (vb hb24) ?_
      refine wl_rn (rn_pure (.bool (a0.Left == 0)) rfl) ?_
      refine wl_yes rfl rfl rfl rfl ?_
      refine wl_rn (rn_pickT (.bool (a0.Left == 0)) (vb hb24) rfl) ?_
      refine wl_rn (rn_pickF (.bool (a0.Left == 0)) rfl rfl) ?_
      refine wl_rn (rn_pure (.bool (a0.Left == 0)) rfl) ?_
      refine wl_nil (then_n ?_)
      refine wp_ret ?_
      have hF := Option.some.inj hF
      subst hF
      exact ret_mk rfl (RV.tmp rfl RV.nil) ⟨_, (hG9.trans hG16), rfl, (St.pick [(.box b1 23 (kTAuto.at_ a0))] [] [] H17 (by decide) rfl)⟩
     ·replace hF := ifF hF hb24
      iterate 3 refine wl_no rfl rfl rfl (vb hb24) ?_
      refine wl_yes rfl rfl rfl rfl ?_
      refine wl_rn (rn_pickF (.bool false) (vb hb24) rfl) ?_
      refine wl_rn (rn_pickF (.bool false) rfl rfl) ?_
      refine wl_rn (rn_pure (.bool false) rfl) ?_
      refine wl_nil (then_n ?_)
      refine wp_ret ?_
      have hF := Option.some.inj hF
      subst hF
      exact ret_mk rfl (RV.tmp rfl RV.nil) ⟨_, (hG9.trans hG16), rfl, (St.pick [(.box b1 23 (kTAuto.at_ a0))] [] [] H17 (by decide) rfl)⟩
   ·replace hF := ifF hF hb20
    iterate 3 refine wl_no rfl rfl rfl (vb hb20) ?_
    refine wl_rn (rn_pickF (.bool false) (vb hb20) rfl) ?_
    refine wl_rn (rn_pure (.bool false) rfl) ?_
    iterate 3 refine wl_no rfl rfl rfl rfl ?_
    refine wl_rn (rn_pickF (.bool false) rfl rfl) ?_
    refine wl_rn (rn_pure (.bool false) rfl) ?_
    refine wl_yes rfl rfl rfl rfl ?_
    refine wl_rn (rn_pure (.bool r13) rfl) ?_
    refine wl_yes rfl rfl rfl rfl ?_
    refine wl_rn (rn_pure (.bool (!r13)) rfl) ?_
    refine wl_yes rfl rfl rfl rfl ?_
    refine wl_rn (rn_pure (.bool (!r13)) rfl) ?_
    rcases bcases (!r13) with hb25 | hb25
    ·replace hF := ifT hF hb25
     refine wl_yes rfl rfl rfl (vb hb25) ?_
     refine wl_rn (rn_field fo23_2 rfl) ?_
     refine wl_yes rfl rfl rfl (vb hb25) ?_
     refine wl_loadd H17 (i := 0) rfl lTAuto_Left (dInt .i64) ty3 rfl ?_
     refine wl_yes rfl rfl rfl (vb hb25) ?_
     refine wl_rn (rn_pure (.bool (a0.Left == 0)) rfl) ?_
     refine wl_yes rfl rfl rfl rfl ?_
     refine wl_rn (rn_pickT (.bool (a0.Left == 0)) (vb hb25) rfl) ?_
     refine wl_rn (rn_pickF (.bool (a0.Left == 0)) rfl rfl) ?_
     refine wl_rn (rn_pure (.bool (a0.Left == 0)) rfl) ?_
     refine wl_nil (then_n ?_)
     refine wp_ret ?_
     have hF := Option.some.inj hF
     subst hF
     exact ret_mk rfl (RV.tmp rfl RV.nil) ⟨_, (hG9.trans hG16), rfl, (St.pick [(.box b1 23 (kTAuto.at_ a0))] [] [] H17 (by decide) rfl)⟩
    ·replace hF := ifF hF hb25
     iterate 3 refine wl_no rfl rfl rfl (vb hb25) ?_
     refine wl_yes rfl rfl rfl rfl ?_
     refine wl_rn (rn_pickF (.bool false) (vb hb25) rfl) ?_
     refine wl_rn (rn_pickF (.bool false) rfl rfl) ?_
     refine wl_rn (rn_pure (.bool false) rfl) ?_
     refine wl_nil (then_n ?_)
     refine wp_ret ?_
     have hF := Option.some.inj hF
     subst hF
     exact ret_mk rfl (RV.tmp rfl RV.nil) ⟨_, (hG9.trans hG16), rfl, (St.pick [(.box b1 23 (kTAuto.at_ a0))] [] [] H17 (by decide) rfl)⟩
 ·refine wc_region ?_
  refine wl_rn (rn_field fo23_0 rfl) ?_
  refine wl_loadd H2 (i := 0) rfl lTAuto_State (dInt .i64) ty3 rfl ?_
  iterate 2 refine wl_rn (rn_pure (.bool (decide (a0.State < 0))) rfl) ?_
  rcases bcases (decide (a0.State < 0)) with hb26 | hb26
  ·replace hF := ifT hF hb26
   iterate 3 refine wl_no rfl rfl rfl (vb hb26) ?_
   refine wl_rn (rn_pickT (.bool true) (vb hb26) rfl) ?_
   refine wl_rn (rn_pure (.bool true) rfl) ?_
   iterate 3 refine wl_no rfl rfl rfl rfl ?_
   refine wl_rn (rn_pickT (.bool true) rfl rfl) ?_
   refine wl_rn (rn_pure (.bool true) rfl) ?_
   iterate 3 refine wl_no rfl rfl rfl rfl ?_
   refine wl_rn (rn_pickT (.bool true) rfl rfl) ?_
   refine wl_nil (then_n ?_)
   exact ⟨_, _, true, frame_eq [(1, (pt b1)), (21, (.bool true))] ⟨rfl, rfl, trivial⟩, GLe.refl _, H2, hF⟩
  ·replace hF := ifF hF hb26
   refine wl_yes rfl rfl rfl (vb hb26) ?_
   refine wl_rn (rn_field fo23_0 rfl) ?_
   refine wl_yes rfl rfl rfl (vb hb26) ?_
   refine wl_loadd H2 (i := 0) rfl lTAuto_State (dInt .i64) ty3 rfl ?_
   refine wl_yes rfl rfl rfl (vb hb26) ?_
   refine wl_rn (rn_pure (.bool (decide (a0.State > 9))) rfl) ?_
   refine wl_rn (rn_pickF (.bool (decide (a0.State > 9))) (vb hb26) rfl) ?_
   refine wl_rn (rn_pure (.bool (decide (a0.State > 9))) rfl) ?_
   rcases bcases (decide (a0.State > 9)) with hb27 | hb27
   ·replace hF := ifT hF hb27
    iterate 3 refine wl_no rfl rfl rfl (vb hb27) ?_
    refine wl_rn (rn_pickT (.bool true) (vb hb27) rfl) ?_
    refine wl_rn (rn_pure (.bool true) rfl) ?_
    iterate 3 refine wl_no rfl rfl rfl rfl ?_
    refine wl_rn (rn_pickT (.bool true) rfl rfl) ?_
    refine wl_nil (then_n ?_)
    exact ⟨_, _, true, frame_eq [(1, (pt b1)), (21, (.bool true))] ⟨rfl, rfl, trivial⟩, GLe.refl _, H2, hF⟩
   ·replace hF := ifF hF hb27
    refine wl_yes rfl rfl rfl (vb hb27) ?_
    refine wl_rn (rn_field fo23_1 rfl) ?_
    refine wl_yes rfl rfl rfl (vb hb27) ?_
    refine wl_loadd H2 (i := 0) rfl lTAuto_Count (dInt .i64) ty3 rfl ?_
    refine wl_yes rfl rfl rfl (vb hb27) ?_
    refine wl_rn (rn_pure (.bool (decide (a0.Count < 0))) rfl) ?_
    refine wl_rn (rn_pickF (.bool (decide (a0.Count < 0))) (vb hb27) rfl) ?_
    refine wl_rn (rn_pure (.bool (decide (a0.Count < 0))) rfl) ?_
    rcases bcases (decide (a0.Count < 0)) with hb28 | hb28
    ·replace hF := ifT hF hb28
     iterate 3 refine wl_no rfl rfl rfl (vb hb28) ?_
     refine wl_rn (rn_pickT (.bool true) (vb hb28) rfl) ?_
     refine wl_nil (then_n ?_)
     exact ⟨_, _, true, frame_eq [(1, (pt b1)), (21, (.bool true))] ⟨rfl, rfl, trivial⟩, GLe.refl _, H2, hF⟩
    ·replace hF := ifF hF hb28
     refine wl_yes rfl rfl rfl (vb hb28) ?_
     refine wl_rn (rn_field fo23_1 rfl) ?_
     refine wl_yes rfl rfl rfl (vb hb28) ?_
     refine wl_loadd H2 (i := 0) rfl lTAuto_Count (dInt .i64) ty3 rfl ?_
     refine wl_yes rfl rfl rfl (vb hb28) ?_
     refine wl_rn (rn_pure (.bool (decide (a0.Count > 5))) rfl) ?_
     refine wl_rn (rn_pickF (.bool (decide (a0.Count > 5))) (vb hb28) rfl) ?_
     refine wl_nil (then_n ?_)
     exact ⟨_, _, (decide (a0.Count > 5)), frame_eq [(1, (pt b1)), (21, (.bool (decide (a0.Count > 5))))] ⟨rfl, rfl, trivial⟩, GLe.refl _, H2, hF⟩

theorem portreeveref10_Bytes_ok {c : World} (hc : Hc c) {G : Ghost} {w : World} {σ : List Ent} {a0 : (List TOpt)} {A0_ : Option Addr} {c0_ : Nat} (h0_ : SlR kTOpt G A0_ c0_ a0) (H : St c G w (σ)) {r : ((List Int) × Int)} (hF : portreeveref10_Bytes a0 = some r) :
  Calls Tryd.prog 29 ([(.slice A0_ a0.length c0_)] : List Value).toArray w (Ends fun v w' => ∃ (G' : Ghost) (A1' : Option Addr) (c2' : Nat), GLe G G' ∧ tup [(.slice A1' r.1.length c2'), (.int .i64 r.2)] = v ∧ St c G' w' (σ) ∧ SlR kB G' A1' c2' r.1) := by
 unfold portreeveref10_Bytes at hF
 refine calls_mk Tryd.func29 rfl rfl rfl ?_
 refine wp_seq (wc_region ?_)
 refine wl_rn (rn_pure (.slice none 0 0) rfl) ?_
 refine wl_rn (rn_pure (.int .i64 0) rfl) ?_
 refine wl_nil (then_n (wp_seq (wc_region ?_)))
 refine wl_rn (rn_pure (.slice none 0 0) rfl) ?_
 refine wl_nil (then_n ?_)
 refine wp_seq ?_
 refine wp_seq (wc_region ?_)
 refine wl_rn (rn_pure (.int .i64 0) rfl) ?_
 refine wl_nil (then_n ?_)
 refine wp_block ?_
 have H230 := H.nilrow kB none 5
 refine wp_loopX (fun (s : ((List Int) × Int)) a w => ∃ (T0 : Fr) (G1 : Ghost) (g89 : Option Nat) (A90 : Option Addr) (c91 : Nat), a = mk 46 (upds T0 [(0, (.slice A0_ a0.length c0_)), (4, (.slice A90 s.1.length c91)), (5, (.int .i64 s.2))]) ∧ GLe G G1 ∧ St c G1 w ((.row kB g89 A90 c91 5 s.1) :: σ)) hF ?_ ?_
 ·exact ⟨_, _, none, none, 0, frame_eq [(0, (.slice A0_ a0.length c0_)), (4, (.slice none ([] : (List Int)).length 0)), (5, (.int .i64 0))] ⟨rfl, rfl, rfl, trivial⟩, GLe.refl _, H230⟩
 ·rintro ⟨x88, x93⟩ a w y96 ⟨T0, G97, g89, A90, c91, rfl, hG94, H95⟩ hF hy1
  refine wp_seq ?_
  refine wp_seq (wc_region ?_)
  refine wl_rn (rn_pure (.int .i64 x93) rfl) ?_
  refine wl_rn (rn_pure (.slice A0_ a0.length c0_) rfl) ?_
  refine wl_rn (rn_len sl27 rfl) ?_
  refine wl_rn (rn_pure (.bool (decide (x93 < (a0.length : Int)))) rfl) ?_
  refine wl_nil (then_n ?_)
  rcases bcases (decide (x93 < (a0.length : Int))) with hb98 | hb98
  ·replace hF := ifT hF hb98
   refine wc_true (vb hb98) ?_
   refine wp_skip ?_
   refine then_n ?_
   refine wp_seq ?_
   refine wp_block ?_
   refine wp_seq ?_
   refine wp_seq (wc_region ?_)
   refine wl_rn (rn_pure (.slice A0_ a0.length c0_) rfl) ?_
   refine wl_rn (rn_pure (.int .i64 x93) rfl) ?_
   obtain ⟨x99, hx100, hF⟩ := bindS hF
   refine wl_rnE (rn_index (h0_.mono hG94) sl27 ty60 rfl rfl hx100) ?_
   intro a101 hp102
   refine wl_rn (rn_fieldp fo60_1 rfl) ?_
   refine wl_loadp H95 (hp102.lens lTOpt_Data) ty30 rfl ?_
   intro v103 hv104
   obtain ⟨A105, c106, rfl, hs107⟩ := slice_V hv104
   refine wl_rn (rn_len sl30 rfl) ?_
   refine wl_rn (rn_pure (.bool (decide ((x99.Data.length : Int) > 253))) rfl) ?_
   refine wl_nil (then_n ?_)
   rcases bcases (decide ((x99.Data.length : Int) > 253)) with hb108 | hb108
   ·replace hF := ifT hF hb108
    refine wc_true (vb hb108) ?_
    refine wp_seq (wc_region ?_)
    refine wl_rn (rn_pure (.slice none 0 0) rfl) ?_
    refine wl_rn (rn_pure (.int .i64 1) rfl) ?_
    refine wl_nil (then_n ?_)
    refine wp_ret ?_
    refine then_r ?_
    refine blk_r ?_
    iterate 2 refine then_r ?_
    replace hF := exitS hF hy1
    refine blk_r ?_
    refine then_r ?_
    have hF := Option.some.inj hF
    subst hF
    exact ret_mk rfl (RV.tmp rfl (RV.tmp rfl RV.nil)) ⟨_, none, 0, hG94, rfl, (St.pick [(.row kB g89 A90 c91 5 x88)] [] [] H95 (by decide) rfl), (SlR.nil _ _)⟩
   ·replace hF := ifF hF hb108
    refine wc_false (vb hb108) ?_
    refine wp_skip ?_
    refine then_n ?_
    refine wp_seq ?_
    refine wc_anyS (f := 17) H95 mixed ?_
    intro w133 H134
    refine any_pf (by repeat (first | exact PF.base | apply PF.then_ | apply PF.blk)) ?_
    intro hPF hns
    obtain ⟨x135, hx136, hF⟩ := bindS hF
    obtain ⟨x139, hx140, hF⟩ := bindS hF
    obtain ⟨r152, hr153, hF⟩ := bindS hF
    refine any_memo (fuel := 3) (m := 16383) (fun a w => ∃ (T0 : Fr) (G1 : Ghost), a = mk 46 (upds T0 [(0, (.slice A0_ a0.length c0_)), (5, (.int .i64 x93)), (19, (.slice A90 x88.length c91)), (24, (.int .u8 x135.Typ)), (32, (.int .u8 (IntKind.u8.wrap ((IntKind.i64.wrap (2 + (x139.Data.length : Int)))))))]) ∧ GLe G97 G1 ∧ St c G1 w ((.row kB g89 A90 c91 5 x88) :: σ)) ?_ ?_
    ·rintro a w ⟨T0, G176, rfl, hG174, H175⟩
     refine any_alls [14] ⟨any_ops (m' := 32767) fun Q' hN => ?_, trivial⟩
     refine wl_lit (K := kB) (vs := [(.int .u8 x135.Typ), (.int .u8 (IntKind.u8.wrap ((IntKind.i64.wrap (2 + (x139.Data.length : Int))))))]) (xs := ([x135.Typ, (IntKind.u8.wrap ((IntKind.i64.wrap (2 + (x139.Data.length : Int)))))] : (List Int))) H175 sl30 el5 rfl ⟨((dInt .u8).toV _ _), ((dInt .u8).toV _ _), trivial⟩ rfl (by decide) ?_
     intro g186 w188 H187
     refine wl_nil (hN _ _ ?_)
     refine any_alls [15] ⟨any_ops (m' := 65535) fun Q' hN => ?_, trivial⟩
     refine wl_append H187 sl30 el5 (i := 1) rfl rfl rfl ((H187.okAt (i := 0) rfl).src) hr153 ?_
     intro g190 A191 c192 w193 H194
     refine wl_nil (hN _ _ ?_)
     refine any_rn (i := 16) (m' := 131071) rfl (rn_pure (.slice A191 r152.length c192) rfl) hPF hns ?_
     refine any_end ?_
     refine then_n ?_
     refine wc_region ?_
     refine wl_rn (rn_pure (.slice A191 r152.length c192) rfl) ?_
     refine wl_rn (rn_pure (.slice A0_ a0.length c0_) rfl) ?_
     refine wl_rn (rn_pure (.int .i64 x93) rfl) ?_
     obtain ⟨x195, hx196, hF⟩ := bindS hF
     refine wl_rnE (rn_index (h0_.mono (hG94.trans hG174)) sl27 ty60 rfl rfl hx196) ?_
     intro a197 hp198
     refine wl_rn (rn_fieldp fo60_1 rfl) ?_
     refine wl_loadp H194 (hp198.lens lTOpt_Data) ty30 rfl ?_
     intro v199 hv200
     obtain ⟨A201, c202, rfl, hs203⟩ := slice_V hv200
     obtain ⟨r204, hr205, hF⟩ := bindS hF
     refine wl_append H194 sl30 el5 (i := 1) rfl rfl rfl (hs203.src H194.ag) hr205 ?_
     intro g206 A207 c208 w209 H210
     refine wl_rn (rn_pure (.slice A207 r204.length c208) rfl) ?_
     refine wl_nil (blk_n ?_)
     refine then_n ?_
     refine wc_region ?_
     refine wl_rn (rn_pure (.int .i64 x93) rfl) ?_
     iterate 2 refine wl_rn (rn_pure (.int .i64 (IntKind.i64.wrap (x93 + 1))) rfl) ?_
     refine wl_nil (then_n ?_)
     exact ⟨_, (Option.some.inj hF).symm, _, _, g206, A207, c208, frame_eq [(0, (.slice A0_ a0.length c0_)), (4, (.slice A207 r204.length c208)), (5, (.int .i64 (IntKind.i64.wrap (x93 + 1))))] ⟨rfl, rfl, rfl, trivial⟩, (hG94.trans hG174), (St.pick [(.row kB (some g186) (some ⟨g186, 0, none⟩) 2 5 ([x135.Typ, (IntKind.u8.wrap ((IntKind.i64.wrap (2 + (x139.Data.length : Int)))))] : (List Int))), (.row kB g206 A207 c208 5 r204)] [(.row kB g206 A207 c208 5 r204)] [1] H210 (by decide) rfl)⟩
    intro hM173
    refine any_rn (i := 0) (m' := 1) rfl (rn_pure (.slice A90 x88.length c91) rfl) hPF hns ?_
    refine any_rn (i := 1) (m' := 3) rfl (rn_pure (.slice A0_ a0.length c0_) rfl) hPF hns ?_
    refine any_rn (i := 2) (m' := 7) rfl (rn_pure (.int .i64 x93) rfl) hPF hns ?_
    refine any_rnE (i := 3) (m' := 15) rfl (rn_index (h0_.mono hG94) sl27 ty60 rfl rfl hx136) hPF hns ?_
    intro a211 hp212
    refine any_rn (i := 4) (m' := 31) rfl (rn_fieldp fo60_0 rfl) hPF hns ?_
    refine any_rn (i := 6) (m' := 95) rfl (rn_pure (.slice A0_ a0.length c0_) rfl) hPF hns ?_
    refine any_rn (i := 7) (m' := 223) rfl (rn_pure (.int .i64 x93) rfl) hPF hns ?_
    refine any_rnE (i := 8) (m' := 479) rfl (rn_index (h0_.mono hG94) sl27 ty60 rfl rfl hx140) hPF hns ?_
    intro a213 hp214
    refine any_rn (i := 9) (m' := 991) rfl (rn_fieldp fo60_1 rfl) hPF hns ?_
    refine any_alls [5, 10] ⟨?_, ?_, trivial⟩
    ·refine any_ops (m' := 1023) fun Q' hN => ?_
     refine wl_loadpd H134 (hp212.lens lTOpt_Typ) (dInt .u8) ty5 rfl ?_
     refine wl_nil (hN _ _ ?_)
     refine any_alls [10] ⟨any_ops (m' := 2047) fun Q' hN => ?_, trivial⟩
     refine wl_loadp H134 (hp214.lens lTOpt_Data) ty30 rfl ?_
     intro v215 hv216
     obtain ⟨A217, c218, rfl, hs219⟩ := slice_V hv216
     refine wl_nil (hN _ _ ?_)
     refine any_rn (i := 11) (m' := 4095) rfl (rn_len sl30 rfl) hPF hns ?_
     refine any_rn (i := 12) (m' := 8191) rfl (rn_pure (.int .i64 (IntKind.i64.wrap (2 + (x139.Data.length : Int)))) rfl) hPF hns ?_
     refine any_rn (i := 13) (m' := 16383) rfl (rn_convert un3 un5 rfl) hPF hns ?_
     exact hM173 _ _ ⟨_, _, frame_eq [(0, (.slice A0_ a0.length c0_)), (5, (.int .i64 x93)), (19, (.slice A90 x88.length c91)), (24, (.int .u8 x135.Typ)), (32, (.int .u8 (IntKind.u8.wrap ((IntKind.i64.wrap (2 + (x139.Data.length : Int)))))))] ⟨rfl, rfl, rfl, rfl, rfl, trivial⟩, GLe.refl _, H134⟩
    ·refine any_ops (m' := 2015) fun Q' hN => ?_
     refine wl_loadp H134 (hp214.lens lTOpt_Data) ty30 rfl ?_
     intro v220 hv221
     obtain ⟨A222, c223, rfl, hs224⟩ := slice_V hv221
     refine wl_nil (hN _ _ ?_)
     refine any_rn (i := 11) (m' := 4063) rfl (rn_len sl30 rfl) hPF hns ?_
     refine any_rn (i := 12) (m' := 8159) rfl (rn_pure (.int .i64 (IntKind.i64.wrap (2 + (x139.Data.length : Int)))) rfl) hPF hns ?_
     refine any_rn (i := 13) (m' := 16351) rfl (rn_convert un3 un5 rfl) hPF hns ?_
     refine any_alls [5] ⟨any_ops (m' := 16383) fun Q' hN => ?_, trivial⟩
     refine wl_loadpd H134 (hp212.lens lTOpt_Typ) (dInt .u8) ty5 rfl ?_
     refine wl_nil (hN _ _ ?_)
     exact hM173 _ _ ⟨_, _, frame_eq [(0, (.slice A0_ a0.length c0_)), (5, (.int .i64 x93)), (19, (.slice A90 x88.length c91)), (24, (.int .u8 x135.Typ)), (32, (.int .u8 (IntKind.u8.wrap ((IntKind.i64.wrap (2 + (x139.Data.length : Int)))))))] ⟨rfl, rfl, rfl, rfl, rfl, trivial⟩, GLe.refl _, H134⟩
  ·replace hF := ifF hF hb98
   refine wc_false (vb hb98) ?_
   refine wp_exit ?_
   iterate 2 refine then_e ?_
   replace hF := exitS hF hy1
   refine blk_e ?_
   refine then_n ?_
   refine wp_seq ?_
   refine wp_seq (wc_region ?_)
   refine wl_rn (rn_pure (.slice A90 x88.length c91) rfl) ?_
   refine wl_rn (rn_len sl30 rfl) ?_
   refine wl_rn (rn_pure (.bool (decide ((x88.length : Int) > 1496))) rfl) ?_
   refine wl_nil (then_n ?_)
   rcases bcases (decide ((x88.length : Int) > 1496)) with hb225 | hb225
   ·replace hF := ifT hF hb225
    refine wc_true (vb hb225) ?_
    refine wp_seq (wc_region ?_)
    refine wl_rn (rn_pure (.slice none 0 0) rfl) ?_
    refine wl_rn (rn_pure (.int .i64 1) rfl) ?_
    refine wl_nil (then_n ?_)
    refine wp_ret ?_
    refine then_r ?_
    have hF := Option.some.inj hF
    subst hF
    exact ret_mk rfl (RV.tmp rfl (RV.tmp rfl RV.nil)) ⟨_, none, 0, hG94, rfl, (St.pick [(.row kB g89 A90 c91 5 x88)] [] [] H95 (by decide) rfl), (SlR.nil _ _)⟩
   ·replace hF := ifF hF hb225
    refine wc_false (vb hb225) ?_
    refine wp_skip ?_
    refine then_n ?_
    refine wp_seq (wc_region ?_)
    iterate 2 refine wl_rn (rn_pure (.slice A90 x88.length c91) rfl) ?_
    refine wl_rn (rn_pure (.int .i64 0) rfl) ?_
    refine wl_nil (then_n ?_)
    refine wp_ret ?_
    obtain ⟨G226, hG227, H228, hs229⟩ := H95.stay (i := 0) rfl (H95.capA (i := 0) rfl)
    have hF := Option.some.inj hF
    subst hF
    exact ret_mk rfl (RV.tmp rfl (RV.tmp rfl RV.nil)) ⟨_, A90, c91, (hG94.trans hG227), rfl, H228, hs229⟩

theorem portreeveref14_Right_ok {c : World} (hc : Hc c) {G : Ghost} {w : World} {σ : List Ent} {a0 : TNego} {v0_ : Value} (h0_ : kTNego.V G v0_ a0) (H : St c G w (σ)) {r : Bool} (hF : portreeveref14_Right a0 = some r) :
  Calls Tryd.prog 10 ([v0_] : List Value).toArray w (Ends fun v w' => ∃ (G' : Ghost), GLe G G' ∧ tup [(.bool r)] = v ∧ St c G' w' (σ)) := by
 unfold portreeveref14_Right at hF
 refine calls_mk Tryd.func10 rfl rfl rfl ?_
 refine wp_seq (wc_region ?_)
 refine wl_box (K := kTNego) (x := a0) H rfl h0_ ?_
 intro b1 w4 H2
 refine wl_rn (rn_pure (.bool false) rfl) ?_
 refine wl_nil (then_n (wp_seq (wc_region ?_)))
 refine wl_rn (rn_field fo29_0 rfl) ?_
 refine wl_load H2 (i := 0) rfl lTNego_A ty23 rfl ?_
 intro v5 hv6
 obtain ⟨r7, hr8, hF⟩ := bindS hF
 refine wl_call (vs := [v5]) en28 rfl (portreeveref12_Right_ok hc hv6 H2 hr8) ?_
 rintro v13 w12 ⟨G9, hG10, rfl, H11⟩
 refine wl_rn (rn_pure (.bool r7) rfl) ?_
 refine wl_nil (then_n (wp_seq (wc_region ?_)))
 refine wl_rn (rn_field fo29_2 rfl) ?_
 refine wl_load H11 (i := 0) rfl lTNego_Ours ty27 rfl ?_
 intro v14 hv15
 obtain ⟨A16, c17, rfl, hs18⟩ := slice_V hv15
 obtain ⟨r19, hr20, hF⟩ := bindS hF
 refine wl_call (vs := [(.slice A16 a0.Ours.length c17)]) en29 rfl (portreeveref10_Bytes_ok hc hs18 H11 hr20) ?_
 rintro v25 w24 ⟨G21, A26, c27, hG22, rfl, H23, hs28⟩
 refine wl_rn (rn_pure (.tuple #[(.slice A26 r19.1.length c27), (.int .i64 r19.2)]) rfl) ?_
 refine wl_rn (rn_pure (.slice A26 r19.1.length c27) rfl) ?_
 refine wl_rn (rn_pure (.int .i64 r19.2) rfl) ?_
 refine wl_rn (rn_pure (.slice A26 r19.1.length c27) rfl) ?_
 refine wl_rn (rn_pure (.int .i64 r19.2) rfl) ?_
 refine wl_nil (then_n ?_)
 refine wp_seq ?_
 refine wp_seq (wc_region ?_)
 refine wl_rn (rn_pure (.int .i64 0) rfl) ?_
 refine wl_nil (then_n ?_)
 refine wp_block ?_
 refine wp_loopX (fun (s : Int) a w => ∃ (T0 : Fr) (G1 : Ghost), a = mk 55 (upds T0 [(1, (pt b1)), (3, (.bool r7)), (5, (.int .i64 r19.2)), (6, (.int .i64 s))]) ∧ GLe G21 G1 ∧ St c G1 w ((.box b1 29 (kTNego.at_ a0)) :: σ)) hF ?_ ?_
 ·exact ⟨_, _, frame_eq [(1, (pt b1)), (3, (.bool r7)), (5, (.int .i64 r19.2)), (6, (.int .i64 0))] ⟨rfl, rfl, rfl, rfl, trivial⟩, GLe.refl _, H23⟩
 ·rintro x66 a w y69 ⟨T0, G70, rfl, hG67, H68⟩ hF hy29
  refine wp_seq ?_
  refine wp_seq (wc_region ?_)
  refine wl_rn (rn_pure (.int .i64 x66) rfl) ?_
  refine wl_rn (rn_field fo29_2 rfl) ?_
  refine wl_load H68 (i := 0) rfl lTNego_Ours ty27 rfl ?_
  intro v71 hv72
  obtain ⟨A73, c74, rfl, hs75⟩ := slice_V hv72
  refine wl_rn (rn_len sl27 rfl) ?_
  refine wl_rn (rn_pure (.bool (decide (x66 < (a0.Ours.length : Int)))) rfl) ?_
  refine wl_nil (then_n ?_)
  rcases bcases (decide (x66 < (a0.Ours.length : Int))) with hb76 | hb76
  ·replace hF := ifT hF hb76
   refine wc_true (vb hb76) ?_
   refine wp_skip ?_
   refine then_n ?_
   refine wp_seq ?_
   refine wp_block ?_
   refine wp_seq (join (fun a w => ∃ (T0 : Fr) (G1 : Ghost) (x101 : Bool), a = mk 55 (upds T0 [(1, (pt b1)), (3, (.bool r7)), (5, (.int .i64 r19.2)), (6, (.int .i64 x66)), (39, (.bool x101))]) ∧ GLe G70 G1 ∧ St c G1 w ((.box b1 29 (kTNego.at_ a0)) :: σ) ∧ portreeveref14_Right_j2 x66 x101 = some y69) ?_ ?_)
   ·rintro a w ⟨T0, G104, x101, rfl, hG102, H103, hF⟩
    rcases bcases x101 with hb105 | hb105
    ·replace hF := ifT hF hb105
     refine wc_true (vb hb105) ?_
     refine wp_seq (wc_region ?_)
     refine wl_rn (rn_pure (.bool false) rfl) ?_
     refine wl_nil (then_n ?_)
     refine wp_ret ?_
     refine blk_r ?_
     iterate 2 refine then_r ?_
     replace hF := exitS hF hy29
     refine blk_r ?_
     refine then_r ?_
     have hF := Option.some.inj hF
     subst hF
     exact ret_mk rfl (RV.tmp rfl RV.nil) ⟨_, (((hG10.trans hG22).trans hG67).trans hG102), rfl, (St.pick [(.box b1 29 (kTNego.at_ a0))] [] [] H103 (by decide) rfl)⟩
    ·replace hF := ifF hF hb105
     refine wc_false (vb hb105) ?_
     refine wp_skip ?_
     refine blk_n ?_
     refine then_n ?_
     refine wc_region ?_
     refine wl_rn (rn_pure (.int .i64 x66) rfl) ?_
     iterate 2 refine wl_rn (rn_pure (.int .i64 (IntKind.i64.wrap (x66 + 1))) rfl) ?_
     refine wl_nil (then_n ?_)
     exact ⟨_, (Option.some.inj hF).symm, _, _, frame_eq [(1, (pt b1)), (3, (.bool r7)), (5, (.int .i64 r19.2)), (6, (.int .i64 (IntKind.i64.wrap (x66 + 1))))] ⟨rfl, rfl, rfl, rfl, trivial⟩, (hG67.trans hG102), H103⟩
   ·refine wc_region ?_
    refine wl_rn (rn_field fo29_2 rfl) ?_
    refine wl_load H68 (i := 0) rfl lTNego_Ours ty27 rfl ?_
    intro v106 hv107
    obtain ⟨A108, c109, rfl, hs110⟩ := slice_V hv107
    refine wl_rn (rn_pure (.int .i64 x66) rfl) ?_
    obtain ⟨x111, hx112, hF⟩ := bindS hF
    refine wl_rnE (rn_index hs110 sl27 ty60 rfl rfl hx112) ?_
    intro a113 hp114
    refine wl_rn (rn_fieldp fo60_0 rfl) ?_
    refine wl_loadpd H68 (hp114.lens lTOpt_Typ) (dInt .u8) ty5 rfl ?_
    iterate 2 refine wl_rn (rn_pure (.bool (x111.Typ == 5)) rfl) ?_
    rcases bcases (x111.Typ == 5) with hb115 | hb115
    ·replace hF := ifT hF hb115
     refine wl_yes rfl rfl rfl (vb hb115) ?_
     refine wl_rn (rn_field fo29_2 rfl) ?_
     refine wl_yes rfl rfl rfl (vb hb115) ?_
     refine wl_load H68 (i := 0) rfl lTNego_Ours ty27 rfl ?_
     intro v116 hv117
     obtain ⟨A118, c119, rfl, hs120⟩ := slice_V hv117
     refine wl_yes rfl rfl rfl (vb hb115) ?_
     refine wl_rn (rn_pure (.int .i64 x66) rfl) ?_
     refine wl_yes rfl rfl rfl (vb hb115) ?_
     obtain ⟨x121, hx122, hF⟩ := bindS hF
     refine wl_rnE (rn_index hs120 sl27 ty60 rfl rfl hx122) ?_
     intro a123 hp124
     refine wl_yes rfl rfl rfl (vb hb115) ?_
     refine wl_rn (rn_fieldp fo60_1 rfl) ?_
     refine wl_yes rfl rfl rfl (vb hb115) ?_
     refine wl_loadp H68 (hp124.lens lTOpt_Data) ty30 rfl ?_
     intro v125 hv126
     obtain ⟨A127, c128, rfl, hs129⟩ := slice_V hv126
     refine wl_yes rfl rfl rfl (vb hb115) ?_
     refine wl_rn (rn_len sl30 rfl) ?_
     refine wl_yes rfl rfl rfl (vb hb115) ?_
     refine wl_rn (rn_pure (.bool ((x121.Data.length : Int) != 4)) rfl) ?_
     refine wl_rn (rn_pickT (.bool ((x121.Data.length : Int) != 4)) (vb hb115) rfl) ?_
     refine wl_nil (then_n ?_)
     exact ⟨_, _, ((x121.Data.length : Int) != 4), frame_eq [(1, (pt b1)), (3, (.bool r7)), (5, (.int .i64 r19.2)), (6, (.int .i64 x66)), (39, (.bool ((x121.Data.length : Int) != 4)))] ⟨rfl, rfl, rfl, rfl, rfl, trivial⟩, GLe.refl _, H68, hF⟩
    ·replace hF := ifF hF hb115
     iterate 8 refine wl_no rfl rfl rfl (vb hb115) ?_
     refine wl_rn (rn_pickF (.bool false) (vb hb115) rfl) ?_
     refine wl_nil (then_n ?_)
     exact ⟨_, _, false, frame_eq [(1, (pt b1)), (3, (.bool r7)), (5, (.int .i64 r19.2)), (6, (.int .i64 x66)), (39, (.bool false))] ⟨rfl, rfl, rfl, rfl, rfl, trivial⟩, GLe.refl _, H68, hF⟩
  ·replace hF := ifF hF hb76
   refine wc_false (vb hb76) ?_
   refine wp_exit ?_
   iterate 2 refine then_e ?_
   replace hF := exitS hF hy29
   refine blk_e ?_
   refine then_n ?_
   refine wp_seq (wc_region ?_)
   iterate 2 refine wl_rn (rn_pure (.bool r7) rfl) ?_
   rcases bcases r7 with hb130 | hb130
   ·replace hF := ifT hF hb130
    refine wl_yes rfl rfl rfl (vb hb130) ?_
    refine wl_rn (rn_field fo29_3 rfl) ?_
    refine wl_yes rfl rfl rfl (vb hb130) ?_
    refine wl_loadd H68 (i := 0) rfl lTNego_Naks (dInt .i64) ty3 rfl ?_
    refine wl_yes rfl rfl rfl (vb hb130) ?_
    refine wl_rn (rn_pure (.bool (decide (a0.Naks ≥ 0))) rfl) ?_
    refine wl_rn (rn_pickT (.bool (decide (a0.Naks ≥ 0))) (vb hb130) rfl) ?_
    refine wl_rn (rn_pure (.bool (decide (a0.Naks ≥ 0))) rfl) ?_
    rcases bcases (decide (a0.Naks ≥ 0)) with hb131 | hb131
    ·replace hF := ifT hF hb131
     refine wl_yes rfl rfl rfl (vb hb131) ?_
     refine wl_rn (rn_field fo29_3 rfl) ?_
     refine wl_yes rfl rfl rfl (vb hb131) ?_
     refine wl_loadd H68 (i := 0) rfl lTNego_Naks (dInt .i64) ty3 rfl ?_
     refine wl_yes rfl rfl rfl (vb hb131) ?_
     refine wl_rn (rn_pure (.bool (decide (a0.Naks ≤ 3))) rfl) ?_
     refine wl_rn (rn_pickT (.bool (decide (a0.Naks ≤ 3))) (vb hb131) rfl) ?_
     refine wl_rn (rn_pure (.bool (decide (a0.Naks ≤ 3))) rfl) ?_
     rcases bcases (decide (a0.Naks ≤ 3)) with hb132 | hb132
     ·replace hF := ifT hF hb132
      refine wl_yes rfl rfl rfl (vb hb132) ?_
      refine wl_rn (rn_pure (.int .i64 r19.2) rfl) ?_
      refine wl_yes rfl rfl rfl (vb hb132) ?_
      refine wl_rn (rn_pure (.bool (r19.2 == 0)) rfl) ?_
      refine wl_rn (rn_pickT (.bool (r19.2 == 0)) (vb hb132) rfl) ?_
      refine wl_rn (rn_pure (.bool (r19.2 == 0)) rfl) ?_
      refine wl_nil (then_n ?_)
      refine wp_ret ?_
      have hF := Option.some.inj hF
      subst hF
      exact ret_mk rfl (RV.tmp rfl RV.nil) ⟨_, ((hG10.trans hG22).trans hG67), rfl, (St.pick [(.box b1 29 (kTNego.at_ a0))] [] [] H68 (by decide) rfl)⟩
     ·replace hF := ifF hF hb132
      iterate 2 refine wl_no rfl rfl rfl (vb hb132) ?_
      refine wl_rn (rn_pickF (.bool false) (vb hb132) rfl) ?_
      refine wl_rn (rn_pure (.bool false) rfl) ?_
      refine wl_nil (then_n ?_)
      refine wp_ret ?_
      have hF := Option.some.inj hF
      subst hF
      exact ret_mk rfl (RV.tmp rfl RV.nil) ⟨_, ((hG10.trans hG22).trans hG67), rfl, (St.pick [(.box b1 29 (kTNego.at_ a0))] [] [] H68 (by decide) rfl)⟩
    ·replace hF := ifF hF hb131
     iterate 3 refine wl_no rfl rfl rfl (vb hb131) ?_
     refine wl_rn (rn_pickF (.bool false) (vb hb131) rfl) ?_
     refine wl_rn (rn_pure (.bool false) rfl) ?_
     iterate 2 refine wl_no rfl rfl rfl rfl ?_
     refine wl_rn (rn_pickF (.bool false) rfl rfl) ?_
     refine wl_rn (rn_pure (.bool false) rfl) ?_
     refine wl_nil (then_n ?_)
     refine wp_ret ?_
     have hF := Option.some.inj hF
     subst hF
     exact ret_mk rfl (RV.tmp rfl RV.nil) ⟨_, ((hG10.trans hG22).trans hG67), rfl, (St.pick [(.box b1 29 (kTNego.at_ a0))] [] [] H68 (by decide) rfl)⟩
   ·replace hF := ifF hF hb130
    iterate 3 refine wl_no rfl rfl rfl (vb hb130) ?_
    refine wl_rn (rn_pickF (.bool false) (vb hb130) rfl) ?_
    refine wl_rn (rn_pure (.bool false) rfl) ?_
    iterate 3 refine wl_no rfl rfl rfl rfl ?_
    refine wl_rn (rn_pickF (.bool false) rfl rfl) ?_
    refine wl_rn (rn_pure (.bool false) rfl) ?_
    iterate 2 refine wl_no rfl rfl rfl rfl ?_
    refine wl_rn (rn_pickF (.bool false) rfl rfl) ?_
    refine wl_rn (rn_pure (.bool false) rfl) ?_
    refine wl_nil (then_n ?_)
    refine wp_ret ?_
    have hF := Option.some.inj hF
    subst hF
    exact ret_mk rfl (RV.tmp rfl RV.nil) ⟨_, ((hG10.trans hG22).trans hG67), rfl, (St.pick [(.box b1 29 (kTNego.at_ a0))] [] [] H68 (by decide) rfl)⟩

theorem portreeveref01_Row_ok {c : World} (hc : Hc c) {G : Ghost} {w : World} {σ : List Ent} {a0 : (List Int)} {A0_ : Option Addr} {c0_ : Nat} {a1 : (List Int)} {A1_ : Option Addr} {c1_ : Nat} (h0_ : SlR kB G A0_ c0_ a0) (h1_ : SlR kB G A1_ c1_ a1) (H : St c G w (σ)) {r : Bool} (hF : portreeveref01_Row a0 a1 = some r) :
  Calls Tryd.prog 15 ([(.slice A0_ a0.length c0_), (.slice A1_ a1.length c1_)] : List Value).toArray w (Ends fun v w' => ∃ (G' : Ghost), GLe G G' ∧ tup [(.bool r)] = v ∧ St c G' w' (σ)) := by
 unfold portreeveref01_Row at hF
 refine calls_mk Tryd.func15 rfl rfl rfl ?_
 refine wp_seq (wc_region ?_)
 refine wl_rn (rn_pure (.bool false) rfl) ?_
 refine wl_nil (then_n ?_)
 refine wp_seq ?_
 refine wp_seq (wc_region ?_)
 refine wl_rn (rn_pure (.slice A0_ a0.length c0_) rfl) ?_
 refine wl_rn (rn_len sl30 rfl) ?_
 refine wl_rn (rn_pure (.slice A1_ a1.length c1_) rfl) ?_
 refine wl_rn (rn_len sl30 rfl) ?_
 refine wl_rn (rn_pure (.bool ((a0.length : Int) != (a1.length : Int))) rfl) ?_
 refine wl_nil (then_n ?_)
 rcases bcases ((a0.length : Int) != (a1.length : Int)) with hb1 | hb1
 ·replace hF := ifT hF hb1
  refine wc_true (vb hb1) ?_
  refine wp_seq (wc_region ?_)
  refine wl_rn (rn_pure (.bool false) rfl) ?_
  refine wl_nil (then_n ?_)
  refine wp_ret ?_
  refine then_r ?_
  have hF := Option.some.inj hF
  subst hF
  exact ret_mk rfl (RV.tmp rfl RV.nil) ⟨_, GLe.refl _, rfl, H⟩
 ·replace hF := ifF hF hb1
  refine wc_false (vb hb1) ?_
  refine wp_skip ?_
  refine then_n ?_
  refine wp_seq ?_
  refine wp_seq (wc_region ?_)
  refine wl_rn (rn_pure (.int .i64 0) rfl) ?_
  refine wl_nil (then_n ?_)
  refine wp_block ?_
  refine wp_loopX (fun (s : Int) a w => ∃ (T0 : Fr) (G1 : Ghost), a = mk 26 (upds T0 [(0, (.slice A0_ a0.length c0_)), (1, (.slice A1_ a1.length c1_)), (5, (.int .i64 s))]) ∧ GLe G G1 ∧ St c G1 w (σ)) hF ?_ ?_
  ·exact ⟨_, _, frame_eq [(0, (.slice A0_ a0.length c0_)), (1, (.slice A1_ a1.length c1_)), (5, (.int .i64 0))] ⟨rfl, rfl, rfl, trivial⟩, GLe.refl _, H⟩
  ·rintro x22 a w y25 ⟨T0, G26, rfl, hG23, H24⟩ hF hy2
   refine wp_seq ?_
   refine wp_seq (wc_region ?_)
   refine wl_rn (rn_pure (.int .i64 x22) rfl) ?_
   refine wl_rn (rn_pure (.slice A0_ a0.length c0_) rfl) ?_
   refine wl_rn (rn_len sl30 rfl) ?_
   refine wl_rn (rn_pure (.bool (decide (x22 < (a0.length : Int)))) rfl) ?_
   refine wl_nil (then_n ?_)
   rcases bcases (decide (x22 < (a0.length : Int))) with hb27 | hb27
   ·replace hF := ifT hF hb27
    refine wc_true (vb hb27) ?_
    refine wp_skip ?_
    refine then_n ?_
    refine wp_seq ?_
    refine wp_block ?_
    refine wp_seq ?_
    refine wc_anyS (f := 9) H24 mixed ?_
    intro w36 H37
    refine any_pf (by repeat (first | exact PF.base | apply PF.then_ | apply PF.blk)) ?_
    intro hPF hns
    obtain ⟨x38, hx39, hF⟩ := bindS hF
    obtain ⟨x42, hx43, hF⟩ := bindS hF
    refine any_memo (fuel := 1) (m := 255) (fun a w => ∃ (T0 : Fr) (G1 : Ghost), a = mk 26 (upds T0 [(0, (.slice A0_ a0.length c0_)), (1, (.slice A1_ a1.length c1_)), (5, (.int .i64 x22)), (20, (.int .u8 x38)), (24, (.int .u8 x42))]) ∧ GLe G26 G1 ∧ St c G1 w (σ)) ?_ ?_
    ·rintro a w ⟨T0, G53, rfl, hG51, H52⟩
     refine any_rn (i := 8) (m' := 511) rfl (rn_pure (.bool (x38 != x42)) rfl) hPF hns ?_
     refine any_end ?_
     refine then_n ?_
     rcases bcases (x38 != x42) with hb54 | hb54
     ·replace hF := ifT hF hb54
      refine wc_true (vb hb54) ?_
      refine wp_seq (wc_region ?_)
      refine wl_rn (rn_pure (.bool false) rfl) ?_
      refine wl_nil (then_n ?_)
      refine wp_ret ?_
      refine blk_r ?_
      iterate 2 refine then_r ?_
      replace hF := exitS hF hy2
      refine blk_r ?_
      refine then_r ?_
      have hF := Option.some.inj hF
      subst hF
      exact ret_mk rfl (RV.tmp rfl RV.nil) ⟨_, (hG23.trans hG51), rfl, H52⟩
     ·replace hF := ifF hF hb54
      refine wc_false (vb hb54) ?_
      refine wp_skip ?_
      refine blk_n ?_
      refine then_n ?_
      refine wc_region ?_
      refine wl_rn (rn_pure (.int .i64 x22) rfl) ?_
      iterate 2 refine wl_rn (rn_pure (.int .i64 (IntKind.i64.wrap (x22 + 1))) rfl) ?_
      refine wl_nil (then_n ?_)
      exact ⟨_, (Option.some.inj hF).symm, _, _, frame_eq [(0, (.slice A0_ a0.length c0_)), (1, (.slice A1_ a1.length c1_)), (5, (.int .i64 (IntKind.i64.wrap (x22 + 1))))] ⟨rfl, rfl, rfl, trivial⟩, (hG23.trans hG51), H52⟩
    intro hM50
    refine any_rn (i := 0) (m' := 1) rfl (rn_pure (.slice A0_ a0.length c0_) rfl) hPF hns ?_
    refine any_rn (i := 1) (m' := 3) rfl (rn_pure (.int .i64 x22) rfl) hPF hns ?_
    refine any_rnE (i := 2) (m' := 7) rfl (rn_index (h0_.mono hG23) sl30 ty5 rfl rfl hx39) hPF hns ?_
    intro a55 hp56
    refine any_rn (i := 4) (m' := 23) rfl (rn_pure (.slice A1_ a1.length c1_) rfl) hPF hns ?_
    refine any_rn (i := 5) (m' := 55) rfl (rn_pure (.int .i64 x22) rfl) hPF hns ?_
    refine any_rnE (i := 6) (m' := 119) rfl (rn_index (h1_.mono hG23) sl30 ty5 rfl rfl hx43) hPF hns ?_
    intro a57 hp58
    refine any_alls [3, 7] ⟨?_, ?_, trivial⟩
    ·refine any_ops (m' := 127) fun Q' hN => ?_
     refine wl_loadpd H37 hp56 (dInt .u8) ty5 rfl ?_
     refine wl_nil (hN _ _ ?_)
     refine any_alls [7] ⟨any_ops (m' := 255) fun Q' hN => ?_, trivial⟩
     refine wl_loadpd H37 hp58 (dInt .u8) ty5 rfl ?_
     refine wl_nil (hN _ _ ?_)
     exact hM50 _ _ ⟨_, _, frame_eq [(0, (.slice A0_ a0.length c0_)), (1, (.slice A1_ a1.length c1_)), (5, (.int .i64 x22)), (20, (.int .u8 x38)), (24, (.int .u8 x42))] ⟨rfl, rfl, rfl, rfl, rfl, trivial⟩, GLe.refl _, H37⟩
    ·refine any_ops (m' := 247) fun Q' hN => ?_
     refine wl_loadpd H37 hp58 (dInt .u8) ty5 rfl ?_
     refine wl_nil (hN _ _ ?_)
     refine any_alls [3] ⟨any_ops (m' := 255) fun Q' hN => ?_, trivial⟩
     refine wl_loadpd H37 hp56 (dInt .u8) ty5 rfl ?_
     refine wl_nil (hN _ _ ?_)
     exact hM50 _ _ ⟨_, _, frame_eq [(0, (.slice A0_ a0.length c0_)), (1, (.slice A1_ a1.length c1_)), (5, (.int .i64 x22)), (20, (.int .u8 x38)), (24, (.int .u8 x42))] ⟨rfl, rfl, rfl, rfl, rfl, trivial⟩, GLe.refl _, H37⟩
   ·replace hF := ifF hF hb27
    refine wc_false (vb hb27) ?_
    refine wp_exit ?_
    iterate 2 refine then_e ?_
    replace hF := exitS hF hy2
    refine blk_e ?_
    refine then_n ?_
    refine wp_seq (wc_region ?_)
    refine wl_rn (rn_pure (.bool true) rfl) ?_
    refine wl_nil (then_n ?_)
    refine wp_ret ?_
    have hF := Option.some.inj hF
    subst hF
    exact ret_mk rfl (RV.tmp rfl RV.nil) ⟨_, hG23, rfl, H24⟩

theorem portreeveref10_One_ok {c : World} (hc : Hc c) {G : Ghost} {w : World} {σ : List Ent} {a0 : TOpt} {v0_ : Value} {a1 : TOpt} {v1_ : Value} (h0_ : kTOpt.V G v0_ a0) (h1_ : kTOpt.V G v1_ a1) (H : St c G w (σ)) {r : Bool} (hF : portreeveref10_One a0 a1 = some r) :
  Calls Tryd.prog 37 ([v0_, v1_] : List Value).toArray w (Ends fun v w' => ∃ (G' : Ghost), GLe G G' ∧ tup [(.bool r)] = v ∧ St c G' w' (σ)) := by
 unfold portreeveref10_One at hF
 refine calls_mk Tryd.func37 rfl rfl rfl ?_
 refine wp_seq (wc_region ?_)
 refine wl_box (K := kTOpt) (x := a0) H rfl h0_ ?_
 intro b1 w4 H2
 refine wl_box (K := kTOpt) (x := a1) H2 rfl h1_ ?_
 intro b5 w8 H6
 refine wl_rn (rn_pure (.bool false) rfl) ?_
 refine wl_nil (then_n (wp_seq (wc_region ?_)))
 refine wl_rn (rn_field fo60_1 rfl) ?_
 refine wl_load H6 (i := 1) rfl lTOpt_Data ty30 rfl ?_
 intro v9 hv10
 obtain ⟨A11, c12, rfl, hs13⟩ := slice_V hv10
 refine wl_rn (rn_field fo60_1 rfl) ?_
 refine wl_load H6 (i := 0) rfl lTOpt_Data ty30 rfl ?_
 intro v14 hv15
 obtain ⟨A16, c17, rfl, hs18⟩ := slice_V hv15
 obtain ⟨r19, hr20, hF⟩ := bindS hF
 refine wl_call (vs := [(.slice A11 a0.Data.length c12), (.slice A16 a1.Data.length c17)]) en15 rfl (portreeveref01_Row_ok hc hs13 hs18 H6 hr20) ?_
 rintro v25 w24 ⟨G21, hG22, rfl, H23⟩
 refine wl_rn (rn_pure (.bool r19) rfl) ?_
 refine wl_nil (then_n (wp_seq (wc_region ?_)))
 iterate 2 refine wl_rn (rn_pure (.bool r19) rfl) ?_
 rcases bcases r19 with hb26 | hb26
 ·replace hF := ifT hF hb26
  refine wl_yes rfl rfl rfl (vb hb26) ?_
  refine wl_rn (rn_field fo60_0 rfl) ?_
  refine wl_yes rfl rfl rfl (vb hb26) ?_
  refine wl_loadd H23 (i := 1) rfl lTOpt_Typ (dInt .u8) ty5 rfl ?_
  refine wl_yes rfl rfl rfl (vb hb26) ?_
  refine wl_rn (rn_field fo60_0 rfl) ?_
  refine wl_yes rfl rfl rfl (vb hb26) ?_
  refine wl_loadd H23 (i := 0) rfl lTOpt_Typ (dInt .u8) ty5 rfl ?_
  refine wl_yes rfl rfl rfl (vb hb26) ?_
  refine wl_rn (rn_pure (.bool (a0.Typ == a1.Typ)) rfl) ?_
  refine wl_rn (rn_pickT (.bool (a0.Typ == a1.Typ)) (vb hb26) rfl) ?_
  refine wl_rn (rn_pure (.bool (a0.Typ == a1.Typ)) rfl) ?_
  refine wl_nil (then_n ?_)
  refine wp_ret ?_
  have hF := Option.some.inj hF
  subst hF
  exact ret_mk rfl (RV.tmp rfl RV.nil) ⟨_, hG22, rfl, (St.pick [(.box b5 60 (kTOpt.at_ a1)), (.box b1 60 (kTOpt.at_ a0))] [] [] H23 (by decide) rfl)⟩
 ·replace hF := ifF hF hb26
  iterate 5 refine wl_no rfl rfl rfl (vb hb26) ?_
  refine wl_rn (rn_pickF (.bool false) (vb hb26) rfl) ?_
  refine wl_rn (rn_pure (.bool false) rfl) ?_
  refine wl_nil (then_n ?_)
  refine wp_ret ?_
  have hF := Option.some.inj hF
  subst hF
  exact ret_mk rfl (RV.tmp rfl RV.nil) ⟨_, hG22, rfl, (St.pick [(.box b5 60 (kTOpt.at_ a1)), (.box b1 60 (kTOpt.at_ a0))] [] [] H23 (by decide) rfl)⟩

theorem portreeveref10_Same_ok {c : World} (hc : Hc c) {G : Ghost} {w : World} {σ : List Ent} {a0 : (List TOpt)} {A0_ : Option Addr} {c0_ : Nat} {a1 : (List TOpt)} {A1_ : Option Addr} {c1_ : Nat} (h0_ : SlR kTOpt G A0_ c0_ a0) (h1_ : SlR kTOpt G A1_ c1_ a1) (H : St c G w (σ)) {r : Bool} (hF : portreeveref10_Same a0 a1 = some r) :
  Calls Tryd.prog 17 ([(.slice A0_ a0.length c0_), (.slice A1_ a1.length c1_)] : List Value).toArray w (Ends fun v w' => ∃ (G' : Ghost), GLe G G' ∧ tup [(.bool r)] = v ∧ St c G' w' (σ)) := by
 unfold portreeveref10_Same at hF
 refine calls_mk Tryd.func17 rfl rfl rfl ?_
 refine wp_seq (wc_region ?_)
 refine wl_rn (rn_pure (.bool false) rfl) ?_
 refine wl_nil (then_n ?_)
 refine wp_seq ?_
 refine wp_seq (wc_region ?_)
 refine wl_rn (rn_pure (.slice A0_ a0.length c0_) rfl) ?_
 refine wl_rn (rn_len sl27 rfl) ?_
 refine wl_rn (rn_pure (.slice A1_ a1.length c1_) rfl) ?_
 refine wl_rn (rn_len sl27 rfl) ?_
 refine wl_rn (rn_pure (.bool ((a0.length : Int) != (a1.length : Int))) rfl) ?_
 refine wl_nil (then_n ?_)
 rcases bcases ((a0.length : Int) != (a1.length : Int)) with hb1 | hb1
 ·replace hF := ifT hF hb1
  refine wc_true (vb hb1) ?_
  refine wp_seq (wc_region ?_)
  refine wl_rn (rn_pure (.bool false) rfl) ?_
  refine wl_nil (then_n ?_)
  refine wp_ret ?_
  refine then_r ?_
  have hF := Option.some.inj hF
  subst hF
  exact ret_mk rfl (RV.tmp rfl RV.nil) ⟨_, GLe.refl _, rfl, H⟩
 ·replace hF := ifF hF hb1
  refine wc_false (vb hb1) ?_
  refine wp_skip ?_
  refine then_n ?_
  refine wp_seq ?_
  refine wp_seq (wc_region ?_)
  refine wl_rn (rn_pure (.int .i64 0) rfl) ?_
  refine wl_nil (then_n ?_)
  refine wp_block ?_
  refine wp_loopX (fun (s : Int) a w => ∃ (T0 : Fr) (G1 : Ghost), a = mk 29 (upds T0 [(0, (.slice A0_ a0.length c0_)), (1, (.slice A1_ a1.length c1_)), (5, (.int .i64 s))]) ∧ GLe G G1 ∧ St c G1 w (σ)) hF ?_ ?_
  ·exact ⟨_, _, frame_eq [(0, (.slice A0_ a0.length c0_)), (1, (.slice A1_ a1.length c1_)), (5, (.int .i64 0))] ⟨rfl, rfl, rfl, trivial⟩, GLe.refl _, H⟩
  ·rintro x44 a w y47 ⟨T0, G48, rfl, hG45, H46⟩ hF hy2
   refine wp_seq ?_
   refine wp_seq (wc_region ?_)
   refine wl_rn (rn_pure (.int .i64 x44) rfl) ?_
   refine wl_rn (rn_pure (.slice A0_ a0.length c0_) rfl) ?_
   refine wl_rn (rn_len sl27 rfl) ?_
   refine wl_rn (rn_pure (.bool (decide (x44 < (a0.length : Int)))) rfl) ?_
   refine wl_nil (then_n ?_)
   rcases bcases (decide (x44 < (a0.length : Int))) with hb49 | hb49
   ·replace hF := ifT hF hb49
    refine wc_true (vb hb49) ?_
    refine wp_skip ?_
    refine then_n ?_
    refine wp_seq ?_
    refine wp_block ?_
    refine wp_seq ?_
    refine wc_anyS (f := 10) H46 mixed ?_
    intro w69 H70
    refine any_pf (by repeat (first | exact PF.base | apply PF.then_ | apply PF.blk)) ?_
    intro hPF hns
    obtain ⟨x71, hx72, hF⟩ := bindS hF
    obtain ⟨x77, hx78, hF⟩ := bindS hF
    obtain ⟨r83, hr84, hF⟩ := bindS hF
    refine any_memo (fuel := 2) (m := 255) (fun a w => ∃ (T0 : Fr) (G1 : Ghost) (v104 : Value) (v106 : Value), a = mk 29 (upds T0 [(0, (.slice A0_ a0.length c0_)), (1, (.slice A1_ a1.length c1_)), (5, (.int .i64 x44)), (21, v104), (25, v106)]) ∧ GLe G48 G1 ∧ St c G1 w (σ) ∧ kTOpt.V G1 v104 x71 ∧ kTOpt.V G1 v106 x77) ?_ ?_
    ·rintro a w ⟨T0, G103, v104, v106, rfl, hG101, H102, hv105, hv107⟩
     refine any_alls [8] ⟨any_ops (m' := 511) fun Q' hN => ?_, trivial⟩
     refine wl_call (vs := [v104, v106]) en37 rfl (portreeveref10_One_ok hc hv105 hv107 H102 hr84) ?_
     rintro v117 w116 ⟨G113, hG114, rfl, H115⟩
     refine wl_nil (hN _ _ ?_)
     refine any_rn (i := 9) (m' := 1023) rfl (rn_pure (.bool r83) rfl) hPF hns ?_
     refine any_end ?_
     refine then_n ?_
     refine wp_seq (wc_region ?_)
     refine wl_rn (rn_pure (.bool r83) rfl) ?_
     refine wl_rn (rn_pure (.bool (!r83)) rfl) ?_
     refine wl_nil (then_n ?_)
     rcases bcases (!r83) with hb118 | hb118
     ·replace hF := ifT hF hb118
      refine wc_true (vb hb118) ?_
      refine wp_seq (wc_region ?_)
      refine wl_rn (rn_pure (.bool false) rfl) ?_
      refine wl_nil (then_n ?_)
      refine wp_ret ?_
      refine blk_r ?_
      iterate 2 refine then_r ?_
      replace hF := exitS hF hy2
      refine blk_r ?_
      refine then_r ?_
      have hF := Option.some.inj hF
      subst hF
      exact ret_mk rfl (RV.tmp rfl RV.nil) ⟨_, ((hG45.trans hG101).trans hG114), rfl, H115⟩
     ·replace hF := ifF hF hb118
      refine wc_false (vb hb118) ?_
      refine wp_skip ?_
      refine blk_n ?_
      refine then_n ?_
      refine wc_region ?_
      refine wl_rn (rn_pure (.int .i64 x44) rfl) ?_
      iterate 2 refine wl_rn (rn_pure (.int .i64 (IntKind.i64.wrap (x44 + 1))) rfl) ?_
      refine wl_nil (then_n ?_)
      exact ⟨_, (Option.some.inj hF).symm, _, _, frame_eq [(0, (.slice A0_ a0.length c0_)), (1, (.slice A1_ a1.length c1_)), (5, (.int .i64 (IntKind.i64.wrap (x44 + 1))))] ⟨rfl, rfl, rfl, trivial⟩, ((hG45.trans hG101).trans hG114), H115⟩
    intro hM100
    refine any_rn (i := 0) (m' := 1) rfl (rn_pure (.slice A0_ a0.length c0_) rfl) hPF hns ?_
    refine any_rn (i := 1) (m' := 3) rfl (rn_pure (.int .i64 x44) rfl) hPF hns ?_
    refine any_rnE (i := 2) (m' := 7) rfl (rn_index (h0_.mono hG45) sl27 ty60 rfl rfl hx72) hPF hns ?_
    intro a119 hp120
    refine any_rn (i := 4) (m' := 23) rfl (rn_pure (.slice A1_ a1.length c1_) rfl) hPF hns ?_
    refine any_rn (i := 5) (m' := 55) rfl (rn_pure (.int .i64 x44) rfl) hPF hns ?_
    refine any_rnE (i := 6) (m' := 119) rfl (rn_index (h1_.mono hG45) sl27 ty60 rfl rfl hx78) hPF hns ?_
    intro a121 hp122
    refine any_alls [3, 7] ⟨?_, ?_, trivial⟩
    ·refine any_ops (m' := 127) fun Q' hN => ?_
     refine wl_loadp H70 hp120 ty60 rfl ?_
     intro v123 hv124
     refine wl_nil (hN _ _ ?_)
     refine any_alls [7] ⟨any_ops (m' := 255) fun Q' hN => ?_, trivial⟩
     refine wl_loadp H70 hp122 ty60 rfl ?_
     intro v125 hv126
     refine wl_nil (hN _ _ ?_)
     exact hM100 _ _ ⟨_, _, v123, v125, frame_eq [(0, (.slice A0_ a0.length c0_)), (1, (.slice A1_ a1.length c1_)), (5, (.int .i64 x44)), (21, v123), (25, v125)] ⟨rfl, rfl, rfl, rfl, rfl, trivial⟩, GLe.refl _, H70, hv124, hv126⟩
    ·refine any_ops (m' := 247) fun Q' hN => ?_
     refine wl_loadp H70 hp122 ty60 rfl ?_
     intro v127 hv128
     refine wl_nil (hN _ _ ?_)
     refine any_alls [3] ⟨any_ops (m' := 255) fun Q' hN => ?_, trivial⟩
     refine wl_loadp H70 hp120 ty60 rfl ?_
     intro v129 hv130
     refine wl_nil (hN _ _ ?_)
     exact hM100 _ _ ⟨_, _, v129, v127, frame_eq [(0, (.slice A0_ a0.length c0_)), (1, (.slice A1_ a1.length c1_)), (5, (.int .i64 x44)), (21, v129), (25, v127)] ⟨rfl, rfl, rfl, rfl, rfl, trivial⟩, GLe.refl _, H70, hv130, hv128⟩
   ·replace hF := ifF hF hb49
    refine wc_false (vb hb49) ?_
    refine wp_exit ?_
    iterate 2 refine then_e ?_
    replace hF := exitS hF hy2
    refine blk_e ?_
    refine then_n ?_
    refine wp_seq (wc_region ?_)
    refine wl_rn (rn_pure (.bool true) rfl) ?_
    refine wl_nil (then_n ?_)
    refine wp_ret ?_
    have hF := Option.some.inj hF
    subst hF
    exact ret_mk rfl (RV.tmp rfl RV.nil) ⟨_, hG45, rfl, H46⟩

theorem portreeveref14_Same_ok {c : World} (hc : Hc c) {G : Ghost} {w : World} {σ : List Ent} {a0 : TNego} {v0_ : Value} {a1 : TNego} {v1_ : Value} (h0_ : kTNego.V G v0_ a0) (h1_ : kTNego.V G v1_ a1) (H : St c G w (σ)) {r : Bool} (hF : portreeveref14_Same a0 a1 = some r) :
  Calls Tryd.prog 22 ([v0_, v1_] : List Value).toArray w (Ends fun v w' => ∃ (G' : Ghost), GLe G G' ∧ tup [(.bool r)] = v ∧ St c G' w' (σ)) := by
 unfold portreeveref14_Same at hF
 refine calls_mk Tryd.func22 rfl rfl rfl ?_
 refine wp_seq (wc_region ?_)
 refine wl_box (K := kTNego) (x := a0) H rfl h0_ ?_
 intro b1 w4 H2
 refine wl_box (K := kTNego) (x := a1) H2 rfl h1_ ?_
 intro b5 w8 H6
 refine wl_rn (rn_pure (.bool false) rfl) ?_
 refine wl_nil (then_n (wp_seq (wc_region ?_)))
 refine wl_rn (rn_field fo29_2 rfl) ?_
 refine wl_load H6 (i := 1) rfl lTNego_Ours ty27 rfl ?_
 intro v9 hv10
 obtain ⟨A11, c12, rfl, hs13⟩ := slice_V hv10
 refine wl_rn (rn_field fo29_2 rfl) ?_
 refine wl_load H6 (i := 0) rfl lTNego_Ours ty27 rfl ?_
 intro v14 hv15
 obtain ⟨A16, c17, rfl, hs18⟩ := slice_V hv15
 obtain ⟨r19, hr20, hF⟩ := bindS hF
 refine wl_call (vs := [(.slice A11 a0.Ours.length c12), (.slice A16 a1.Ours.length c17)]) en17 rfl (portreeveref10_Same_ok hc hs13 hs18 H6 hr20) ?_
 rintro v25 w24 ⟨G21, hG22, rfl, H23⟩
 refine wl_rn (rn_pure (.bool r19) rfl) ?_
 refine wl_nil (then_n (wp_seq (wc_region ?_)))
 refine wl_rn (rn_field fo29_4 rfl) ?_
 refine wl_load H23 (i := 1) rfl lTNego_Peer ty27 rfl ?_
 intro v26 hv27
 obtain ⟨A28, c29, rfl, hs30⟩ := slice_V hv27
 refine wl_rn (rn_field fo29_4 rfl) ?_
 refine wl_load H23 (i := 0) rfl lTNego_Peer ty27 rfl ?_
 intro v31 hv32
 obtain ⟨A33, c34, rfl, hs35⟩ := slice_V hv32
 obtain ⟨r36, hr37, hF⟩ := bindS hF
 refine wl_call (vs := [(.slice A28 a0.Peer.length c29), (.slice A33 a1.Peer.length c34)]) en17 rfl (portreeveref10_Same_ok hc hs30 hs35 H23 hr37) ?_
 rintro v42 w41 ⟨G38, hG39, rfl, H40⟩
 refine wl_rn (rn_pure (.bool r36) rfl) ?_
 refine wl_nil (then_n (wp_seq (wc_region ?_)))
 iterate 2 refine wl_rn (rn_pure (.bool r19) rfl) ?_
 rcases bcases r19 with hb43 | hb43
 ·replace hF := ifT hF hb43
  refine wl_yes rfl rfl rfl (vb hb43) ?_
  refine wl_rn (rn_pure (.bool r36) rfl) ?_
  refine wl_rn (rn_pickT (.bool r36) (vb hb43) rfl) ?_
  refine wl_rn (rn_pure (.bool r36) rfl) ?_
  rcases bcases r36 with hb44 | hb44
  ·replace hF := ifT hF hb44
   refine wl_yes rfl rfl rfl (vb hb44) ?_
   refine wl_rn (rn_field fo29_0 rfl) ?_
   refine wl_yes rfl rfl rfl (vb hb44) ?_
   refine wl_load H40 (i := 1) rfl lTNego_A ty23 rfl ?_
   intro v45 hv46
   refine wl_yes rfl rfl rfl (vb hb44) ?_
   refine wl_rn (rn_field fo29_0 rfl) ?_
   refine wl_yes rfl rfl rfl (vb hb44) ?_
   refine wl_load H40 (i := 0) rfl lTNego_A ty23 rfl ?_
   intro v47 hv48
   refine wl_yes rfl rfl rfl (vb hb44) ?_
   refine wl_rn (rn_eql eqTAuto rfl eg23 rfl rfl rfl hv46 hv48) ?_
   refine wl_rn (rn_pickT (.bool (eTAuto a0.A a1.A)) (vb hb44) rfl) ?_
   refine wl_rn (rn_pure (.bool (eTAuto a0.A a1.A)) rfl) ?_
   rcases bcases (eTAuto a0.A a1.A) with hb49 | hb49
   ·replace hF := ifT hF hb49
    refine wl_yes rfl rfl rfl (vb hb49) ?_
    refine wl_rn (rn_field fo29_1 rfl) ?_
    refine wl_yes rfl rfl rfl (vb hb49) ?_
    refine wl_load H40 (i := 1) rfl lTNego_R ty26 rfl ?_
    intro v50 hv51
    refine wl_yes rfl rfl rfl (vb hb49) ?_
    refine wl_rn (rn_field fo29_1 rfl) ?_
    refine wl_yes rfl rfl rfl (vb hb49) ?_
    refine wl_load H40 (i := 0) rfl lTNego_R ty26 rfl ?_
    intro v52 hv53
    refine wl_yes rfl rfl rfl (vb hb49) ?_
    refine wl_rn (rn_eql eqTRule rfl eg26 rfl rfl rfl hv51 hv53) ?_
    refine wl_rn (rn_pickT (.bool (eTRule a0.R a1.R)) (vb hb49) rfl) ?_
    refine wl_rn (rn_pure (.bool (eTRule a0.R a1.R)) rfl) ?_
    rcases bcases (eTRule a0.R a1.R) with hb54 | hb54
    ·replace hF := ifT hF hb54
     refine wl_yes rfl rfl rfl (vb hb54) ?_
     refine wl_rn (rn_field fo29_3 rfl) ?_
     refine wl_yes rfl rfl rfl (vb hb54) ?_
     refine wl_loadd H40 (i := 1) rfl lTNego_Naks (dInt .i64) ty3 rfl ?_
     refine wl_yes rfl rfl rfl (vb hb54) ?_
     refine wl_rn (rn_field fo29_3 rfl) ?_
     refine wl_yes rfl rfl rfl (vb hb54) ?_
     refine wl_loadd H40 (i := 0) rfl lTNego_Naks (dInt .i64) ty3 rfl ?_
     refine wl_yes rfl rfl rfl (vb hb54) ?_
     refine wl_rn (rn_pure (.bool (a0.Naks == a1.Naks)) rfl) ?_
     refine wl_rn (rn_pickT (.bool (a0.Naks == a1.Naks)) (vb hb54) rfl) ?_
     refine wl_rn (rn_pure (.bool (a0.Naks == a1.Naks)) rfl) ?_
     refine wl_nil (then_n ?_)
     refine wp_ret ?_
     have hF := Option.some.inj hF
     subst hF
     exact ret_mk rfl (RV.tmp rfl RV.nil) ⟨_, (hG22.trans hG39), rfl, (St.pick [(.box b5 29 (kTNego.at_ a1)), (.box b1 29 (kTNego.at_ a0))] [] [] H40 (by decide) rfl)⟩
    ·replace hF := ifF hF hb54
     iterate 5 refine wl_no rfl rfl rfl (vb hb54) ?_
     refine wl_rn (rn_pickF (.bool false) (vb hb54) rfl) ?_
     refine wl_rn (rn_pure (.bool false) rfl) ?_
     refine wl_nil (then_n ?_)
     refine wp_ret ?_
     have hF := Option.some.inj hF
     subst hF
     exact ret_mk rfl (RV.tmp rfl RV.nil) ⟨_, (hG22.trans hG39), rfl, (St.pick [(.box b5 29 (kTNego.at_ a1)), (.box b1 29 (kTNego.at_ a0))] [] [] H40 (by decide) rfl)⟩
   ·replace hF := ifF hF hb49
    iterate 5 refine wl_no rfl rfl rfl (vb hb49) ?_
    refine wl_rn (rn_pickF (.bool false) (vb hb49) rfl) ?_
    refine wl_rn (rn_pure (.bool false) rfl) ?_
    iterate 5 refine wl_no rfl rfl rfl rfl ?_
    refine wl_rn (rn_pickF (.bool false) rfl rfl) ?_
    refine wl_rn (rn_pure (.bool false) rfl) ?_
    refine wl_nil (then_n ?_)
    refine wp_ret ?_
    have hF := Option.some.inj hF
    subst hF
    exact ret_mk rfl (RV.tmp rfl RV.nil) ⟨_, (hG22.trans hG39), rfl, (St.pick [(.box b5 29 (kTNego.at_ a1)), (.box b1 29 (kTNego.at_ a0))] [] [] H40 (by decide) rfl)⟩
  ·replace hF := ifF hF hb44
   iterate 5 refine wl_no rfl rfl rfl (vb hb44) ?_
   refine wl_rn (rn_pickF (.bool false) (vb hb44) rfl) ?_
   refine wl_rn (rn_pure (.bool false) rfl) ?_
   iterate 5 refine wl_no rfl rfl rfl rfl ?_
   refine wl_rn (rn_pickF (.bool false) rfl rfl) ?_
   refine wl_rn (rn_pure (.bool false) rfl) ?_
   iterate 5 refine wl_no rfl rfl rfl rfl ?_
   refine wl_rn (rn_pickF (.bool false) rfl rfl) ?_
   refine wl_rn (rn_pure (.bool false) rfl) ?_
   refine wl_nil (then_n ?_)
   refine wp_ret ?_
   have hF := Option.some.inj hF
   subst hF
   exact ret_mk rfl (RV.tmp rfl RV.nil) ⟨_, (hG22.trans hG39), rfl, (St.pick [(.box b5 29 (kTNego.at_ a1)), (.box b1 29 (kTNego.at_ a0))] [] [] H40 (by decide) rfl)⟩
 ·replace hF := ifF hF hb43
  refine wl_no rfl rfl rfl (vb hb43) ?_
  refine wl_rn (rn_pickF (.bool false) (vb hb43) rfl) ?_
  refine wl_rn (rn_pure (.bool false) rfl) ?_
  iterate 5 refine wl_no rfl rfl rfl rfl ?_
  refine wl_rn (rn_pickF (.bool false) rfl rfl) ?_
  refine wl_rn (rn_pure (.bool false) rfl) ?_
  iterate 5 refine wl_no rfl rfl rfl rfl ?_
  refine wl_rn (rn_pickF (.bool false) rfl rfl) ?_
  refine wl_rn (rn_pure (.bool false) rfl) ?_
  iterate 5 refine wl_no rfl rfl rfl rfl ?_
  refine wl_rn (rn_pickF (.bool false) rfl rfl) ?_
  refine wl_rn (rn_pure (.bool false) rfl) ?_
  refine wl_nil (then_n ?_)
  refine wp_ret ?_
  have hF := Option.some.inj hF
  subst hF
  exact ret_mk rfl (RV.tmp rfl RV.nil) ⟨_, (hG22.trans hG39), rfl, (St.pick [(.box b5 29 (kTNego.at_ a1)), (.box b1 29 (kTNego.at_ a0))] [] [] H40 (by decide) rfl)⟩
end Go.Proofs.YtadlndnagfnlgaaDoor.W
