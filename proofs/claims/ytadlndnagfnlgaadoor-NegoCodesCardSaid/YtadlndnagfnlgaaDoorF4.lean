/- Calls come to what the plain functions say: written by a program (gen.py). -/
import Derived.Test.YtadlndnagfnlgaaDoorG
import Derived.Test.YtadlndnagfnlgaaDoorF0
import Derived.Test.YtadlndnagfnlgaaDoorF1
import Derived.Test.YtadlndnagfnlgaaDoorF2
import Derived.Test.YtadlndnagfnlgaaDoorF3
set_option linter.unusedVariables false
set_option maxRecDepth 20000
namespace Go.Proofs.YtadlndnagfnlgaaDoor.W
open Go
set_option maxHeartbeats 4000000
attribute [local irreducible] wpList wpAny Code.wp wpListIn wpAnyIn Code.wpIn
theorem nego_work_proto_ok {c : World} (hc : Hc c) {G : Ghost} {w : World} {σ : List Ent} {b0 : Nat} {x2 : TNego} {x3 : (List TPkt)} {x8 : (List Int)} {x13 : TPkt} {g4 : Option Nat} {A5 : Option Addr} {c6 : Nat} {g9 : Option Nat} {A10 : Option Addr} {c11 : Nat}  (H : St c G w ((.box b0 63 (kTnego_workV.at_ (Tnego_workV.mk x2 (.slice A5 x3.length c6) (.slice A10 x8.length c11) x13))) :: (.row kTPkt g4 A5 c6 32 x3) :: (.row kI g9 A10 c11 3 x8) :: σ)) {r : (TNego × (List TPkt) × (List Int) × TPkt)} (hF : nego_work_proto x2 x3 x8 x13 = some r) :
  Calls Tryd.prog 58 ([(pt b0)] : List Value).toArray w (Ends fun v w' => ∃ (G' : Ghost) (g1' : Option Nat) (A2' : Option Addr) (c3' : Nat) (g4' : Option Nat) (A5' : Option Addr) (c6' : Nat), GLe G G' ∧ tup [] = v ∧ St c G' w' ((.box b0 63 (kTnego_workV.at_ (Tnego_workV.mk r.1 (.slice A2' r.2.1.length c3') (.slice A5' r.2.2.1.length c6') r.2.2.2))) :: (.row kTPkt g1' A2' c3' 32 r.2.1) :: (.row kI g4' A5' c6' 3 r.2.2.1) :: σ)) := by
 unfold nego_work_proto at hF
 refine calls_mk Tryd.func58 rfl rfl rfl ?_
 refine wc_region ?_
 iterate 2 refine wl_rn (rn_pure (pt b0) rfl) ?_
 refine wl_rn (rn_nilCheck rfl) ?_
 refine wl_rn (rn_field fo63_3 rfl) ?_
 refine wl_rn (rn_field fo32_2 rfl) ?_
 refine wl_load H (i := 0) rfl (Lens.then lTnego_workV_P lTPkt_Data) ty30 rfl ?_
 intro v14 hv15
 obtain ⟨A16, c17, rfl, hs18⟩ := slice_V hv15
 refine wl_lit (K := kB) (vs := [(.int .u8 192), (.int .u8 33)]) (xs := ([192, 33] : (List Int))) H sl30 el5 rfl ⟨((dInt .u8).toV _ _), ((dInt .u8).toV _ _), trivial⟩ rfl (by decide) ?_
 intro g19 w21 H20
 obtain ⟨G23, hG24, H25, hs26⟩ := H20.stay (i := 0) rfl (H20.capA (i := 0) rfl)
 obtain ⟨r27, hr28, hF⟩ := bindS hF
 refine wl_call (vs := [(.slice A16 x13.Data.length c17), (.slice (some ⟨g19, 0, none⟩) ([192, 33] : (List Int)).length 2)]) en80 rfl (bytes_HasPrefix_ok hc (hs18.mono hG24) hs26 H25 hr28) ?_
 rintro v33 w32 ⟨G29, hG30, rfl, H31⟩
 refine wl_rn (rn_pure (.bool (!r27)) rfl) ?_
 obtain ⟨r34, hr35, hF⟩ := bindS hF
 refine wl_call (vs := [(pt b0), (.bool (!r27))]) en79 rfl (nego_work_rejected_ok hc H31 hr35) ?_
 rintro v40 w39 ⟨G36, g41, A42, c43, g44, A45, c46, hG37, rfl, H38⟩
 refine wl_nil ?_
 have hF := Option.some.inj hF
 subst hF
 exact end_mk rfl RV.nil ⟨_, g41, A42, c43, g44, A45, c46, ((hG24.trans hG30).trans hG37), rfl, H38⟩

theorem nego_Magic_ok {c : World} (hc : Hc c) {G : Ghost} {w : World} {σ : List Ent} {a0 : TNego} {v0_ : Value} (h0_ : kTNego.V G v0_ a0) (H : St c G w (σ)) {r : Int} (hF : nego_Magic a0 = some r) :
  Calls Tryd.prog 24 ([v0_] : List Value).toArray w (Ends fun v w' => ∃ (G' : Ghost), GLe G G' ∧ tup [(.int .u32 r)] = v ∧ St c G' w' (σ)) := by
 unfold nego_Magic at hF
 refine calls_mk Tryd.func24 rfl rfl rfl ?_
 refine wp_seq (wc_region ?_)
 refine wl_box (K := kTNego) (x := a0) H rfl h0_ ?_
 intro b1 w4 H2
 refine wl_rn (rn_pure (.int .u32 0) rfl) ?_
 refine wl_nil (then_n (wp_seq (wc_region ?_)))
 refine wl_rn (rn_field fo29_2 rfl) ?_
 refine wl_load H2 (i := 0) rfl lTNego_Ours ty27 rfl ?_
 intro v5 hv6
 obtain ⟨A7, c8, rfl, hs9⟩ := slice_V hv6
 obtain ⟨r10, hr11, hF⟩ := bindS hF
 refine wl_call (vs := [(.slice A7 a0.Ours.length c8), (.int .u8 5)]) en39 rfl (opts_Find_ok hc hs9 H2 hr11) ?_
 rintro v16 w15 ⟨G12, v17, hG13, rfl, H14, hv18⟩
 refine wl_rn (rn_pure (.tuple #[v17, (.bool r10.2)]) rfl) ?_
 refine wl_rn (rn_pure v17 rfl) ?_
 refine wl_rn (rn_pure (.bool r10.2) rfl) ?_
 refine wl_alloc H14 zr60 ?_
 intro b19 w22 H20
 refine wl_store (z := r10.1) H20 (i := 0) rfl (Lens.id kTOpt) ty60 rfl rfl hv18 ?_
 intro w24 H23
 refine wl_rn (rn_pure (.bool r10.2) rfl) ?_
 refine wl_nil (then_n ?_)
 refine wp_seq ?_
 refine wp_seq (wc_region ?_)
 refine wl_rn (rn_field fo29_1 rfl) ?_
 refine wl_rn (rn_field fo26_0 rfl) ?_
 refine wl_loadd H23 (i := 1) rfl (Lens.then lTNego_R lTRule_Ip) dBool ty4 rfl ?_
 refine wl_nil (then_n ?_)
 rcases bcases a0.R.Ip with hb25 | hb25
 ·replace hF := ifT hF hb25
  refine wc_true (vb hb25) ?_
  refine wp_seq (wc_region ?_)
  refine wl_rn (rn_pure (.int .u32 0) rfl) ?_
  refine wl_nil (then_n ?_)
  refine wp_ret ?_
  refine then_r ?_
  have hF := Option.some.inj hF
  subst hF
  exact ret_mk rfl (RV.tmp rfl RV.nil) ⟨_, hG13, rfl, (St.pick [(.box b19 60 (kTOpt.at_ r10.1)), (.box b1 29 (kTNego.at_ a0))] [] [] H23 (by decide) rfl)⟩
 ·replace hF := ifF hF hb25
  refine wc_false (vb hb25) ?_
  refine wp_skip ?_
  refine then_n ?_
  refine wp_seq (wc_region ?_)
  refine wl_rn (rn_field fo60_1 rfl) ?_
  refine wl_load H23 (i := 0) rfl lTOpt_Data ty30 rfl ?_
  intro v26 hv27
  obtain ⟨A28, c29, rfl, hs30⟩ := slice_V hv27
  obtain ⟨r31, hr32, hF⟩ := bindS hF
  refine wl_call (vs := [(.slice A28 r10.1.Data.length c29)]) en40 rfl (opts_Number_ok hc hs30 H23 hr32) ?_
  rintro v37 w36 ⟨G33, hG34, rfl, H35⟩
  refine wl_rn (rn_pure (.int .u32 r31) rfl) ?_
  refine wl_nil (then_n ?_)
  refine wp_ret ?_
  have hF := Option.some.inj hF
  subst hF
  exact ret_mk rfl (RV.tmp rfl RV.nil) ⟨_, (hG13.trans hG34), rfl, (St.pick [(.box b19 60 (kTOpt.at_ r10.1)), (.box b1 29 (kTNego.at_ a0))] [] [] H35 (by decide) rfl)⟩

theorem nego_work_echo_ok {c : World} (hc : Hc c) {G : Ghost} {w : World} {σ : List Ent} {b0 : Nat} {x2 : TNego} {x3 : (List TPkt)} {x8 : (List Int)} {x13 : TPkt} {g4 : Option Nat} {A5 : Option Addr} {c6 : Nat} {g9 : Option Nat} {A10 : Option Addr} {c11 : Nat}  (H : St c G w ((.box b0 63 (kTnego_workV.at_ (Tnego_workV.mk x2 (.slice A5 x3.length c6) (.slice A10 x8.length c11) x13))) :: (.row kTPkt g4 A5 c6 32 x3) :: (.row kI g9 A10 c11 3 x8) :: σ)) {r : (TNego × (List TPkt) × (List Int) × TPkt)} (hF : nego_work_echo x2 x3 x8 x13 = some r) :
  Calls Tryd.prog 59 ([(pt b0)] : List Value).toArray w (Ends fun v w' => ∃ (G' : Ghost) (g1' : Option Nat) (A2' : Option Addr) (c3' : Nat) (g4' : Option Nat) (A5' : Option Addr) (c6' : Nat), GLe G G' ∧ tup [] = v ∧ St c G' w' ((.box b0 63 (kTnego_workV.at_ (Tnego_workV.mk r.1 (.slice A2' r.2.1.length c3') (.slice A5' r.2.2.1.length c6') r.2.2.2))) :: (.row kTPkt g1' A2' c3' 32 r.2.1) :: (.row kI g4' A5' c6' 3 r.2.2.1) :: σ)) := by
 unfold nego_work_echo at hF
 refine calls_mk Tryd.func59 rfl rfl rfl ?_
 refine wp_seq (wc_region ?_)
 refine wl_rn (rn_pure (pt b0) rfl) ?_
 refine wl_rn (rn_nilCheck rfl) ?_
 refine wl_rn (rn_field fo63_3 rfl) ?_
 refine wl_rn (rn_field fo32_2 rfl) ?_
 refine wl_load H (i := 0) rfl (Lens.then lTnego_workV_P lTPkt_Data) ty30 rfl ?_
 intro v14 hv15
 obtain ⟨A16, c17, rfl, hs18⟩ := slice_V hv15
 refine wl_rn (rn_len sl30 rfl) ?_
 refine wl_rn (rn_pure (.bool (decide ((x13.Data.length : Int) ≥ 4))) rfl) ?_
 refine wl_nil (then_n ?_)
 rcases bcases (decide ((x13.Data.length : Int) ≥ 4)) with hb19 | hb19
 ·replace hF := ifT hF hb19
  refine wc_true (vb hb19) ?_
  refine wc_anyS (f := 17) H mixed ?_
  intro w20 H21
  refine any_pf (by repeat (first | exact PF.base | apply PF.then_ | apply PF.blk)) ?_
  intro hPF hns
  obtain ⟨r24, hr25, hF⟩ := bindS hF
  obtain ⟨r31, hr32, hF⟩ := bindS hF
  obtain ⟨r47, hr48, hF⟩ := bindS hF
  obtain ⟨r51, hr52, hF⟩ := bindS hF
  obtain ⟨r62, hr63, hF⟩ := bindS hF
  obtain ⟨r77, hr78, hF⟩ := bindS hF
  refine any_memo (fuel := 3) (m := 16383) (fun a w => ∃ (T0 : Fr) (G1 : Ghost) (g157 : Option Nat) (A158 : Option Addr) (c159 : Nat) (A160 : Option Addr) (c161 : Nat), a = mk 26 (upds T0 [(9, (pt b0)), (10, (pt b0)), (16, (.slice A158 r31.length c159)), (22, (.slice A160 r47.length c161))]) ∧ GLe G G1 ∧ St c G1 w ((.box b0 63 (kTnego_workV.at_ (Tnego_workV.mk x2 (.slice A5 x3.length c6) (.slice A10 x8.length c11) x13))) :: (.row kTPkt g4 A5 c6 32 x3) :: (.row kI g9 A10 c11 3 x8) :: (.row kB g157 A158 c159 5 r31) :: σ) ∧ SlR kB G1 A160 c161 r47) ?_ ?_
  ·rintro a w ⟨T0, G156, g157, A158, c159, A160, c161, rfl, hG154, H155, hs162⟩
   refine any_alls [14] ⟨any_ops (m' := 32767) fun Q' hN => ?_, trivial⟩
   refine wl_append H155 sl30 el5 (i := 3) rfl rfl rfl (hs162.src H155.ag) hr52 ?_
   intro g199 A200 c201 w202 H203
   refine wl_nil (hN _ _ ?_)
   refine any_alls [15] ⟨any_ops (m' := 65535) fun Q' hN => ?_, trivial⟩
   obtain ⟨G204, hG205, H206, hs207⟩ := H203.stay (i := 3) rfl (H203.capA (i := 3) rfl)
   refine wl_call (vs := [(pt b0), (.int .u8 10), (.slice A200 r51.length c201)]) en76 rfl (nego_work_reply_ok hc hs207 H206 hr63) ?_
   rintro v212 w211 ⟨G208, v213, g215, A216, c217, g218, A219, c220, hG209, rfl, H210, hv214⟩
   refine wl_nil (hN _ _ ?_)
   refine any_alls [16] ⟨any_ops (m' := 131071) fun Q' hN => ?_, trivial⟩
   refine wl_call (vs := [(pt b0), (.int .i64 15), v213]) en30 rfl (nego_work_event_ok hc hv214 H210 hr78) ?_
   rintro v225 w224 ⟨G221, A226, c227, g229, A230, c231, g232, A233, c234, hG222, rfl, H223, hs228⟩
   refine wl_nil (hN _ _ ?_)
   refine any_end ?_
   have hF := Option.some.inj hF
   subst hF
   exact end_mk rfl RV.nil ⟨_, g229, A230, c231, g232, A233, c234, (((hG154.trans hG205).trans hG209).trans hG222), rfl, H223⟩
  intro hM153
  refine any_memo (fuel := 4) (m := 16255) (fun a w => ∃ (T0 : Fr) (G1 : Ghost) (A150 : Option Addr) (c151 : Nat), a = mk 26 (upds T0 [(9, (pt b0)), (10, (pt b0)), (15, (.int .u32 r24)), (22, (.slice A150 r47.length c151))]) ∧ GLe G G1 ∧ St c G1 w ((.box b0 63 (kTnego_workV.at_ (Tnego_workV.mk x2 (.slice A5 x3.length c6) (.slice A10 x8.length c11) x13))) :: (.row kTPkt g4 A5 c6 32 x3) :: (.row kI g9 A10 c11 3 x8) :: σ) ∧ SlR kB G1 A150 c151 r47) ?_ ?_
  ·rintro a w ⟨T0, G149, A150, c151, rfl, hG147, H148, hs152⟩
   refine any_alls [7] ⟨any_ops (m' := 16383) fun Q' hN => ?_, trivial⟩
   refine wl_call (vs := [(.int .u32 r24)]) en81 rfl (opts_Four_ok hc H148 hr32) ?_
   rintro v239 w238 ⟨G235, g240, A241, c242, hG236, rfl, H237⟩
   refine wl_nil (hN _ _ ?_)
   exact hM153 _ _ ⟨_, _, g240, A241, c242, A150, c151, frame_eq [(9, (pt b0)), (10, (pt b0)), (16, (.slice A241 r31.length c242)), (22, (.slice A150 r47.length c151))] ⟨rfl, rfl, rfl, rfl, trivial⟩, (hG147.trans hG236), (St.pick [(.row kB g240 A241 c242 5 r31), (.box b0 63 (kTnego_workV.at_ (Tnego_workV.mk x2 (.slice A5 x3.length c6) (.slice A10 x8.length c11) x13))), (.row kTPkt g4 A5 c6 32 x3), (.row kI g9 A10 c11 3 x8)] [(.box b0 63 (kTnego_workV.at_ (Tnego_workV.mk x2 (.slice A5 x3.length c6) (.slice A10 x8.length c11) x13))), (.row kTPkt g4 A5 c6 32 x3), (.row kI g9 A10 c11 3 x8), (.row kB g240 A241 c242 5 r31)] [1, 2, 3, 0] H237 (by decide) rfl), (hs152.mono hG236)⟩
  intro hM146
  refine any_memo (fuel := 5) (m := 16191) (fun a w => ∃ (T0 : Fr) (G1 : Ghost) (v139 : Value) (A141 : Option Addr) (c142 : Nat), a = mk 26 (upds T0 [(9, (pt b0)), (10, (pt b0)), (14, v139), (22, (.slice A141 r47.length c142))]) ∧ GLe G G1 ∧ St c G1 w ((.box b0 63 (kTnego_workV.at_ (Tnego_workV.mk x2 (.slice A5 x3.length c6) (.slice A10 x8.length c11) x13))) :: (.row kTPkt g4 A5 c6 32 x3) :: (.row kI g9 A10 c11 3 x8) :: σ) ∧ kTNego.V G1 v139 x2 ∧ SlR kB G1 A141 c142 r47) ?_ ?_
  ·rintro a w ⟨T0, G138, v139, A141, c142, rfl, hG136, H137, hv140, hs143⟩
   refine any_alls [6] ⟨any_ops (m' := 16255) fun Q' hN => ?_, trivial⟩
   refine wl_call (vs := [v139]) en24 rfl (nego_Magic_ok hc hv140 H137 hr25) ?_
   rintro v248 w247 ⟨G244, hG245, rfl, H246⟩
   refine wl_nil (hN _ _ ?_)
   exact hM146 _ _ ⟨_, _, A141, c142, frame_eq [(9, (pt b0)), (10, (pt b0)), (15, (.int .u32 r24)), (22, (.slice A141 r47.length c142))] ⟨rfl, rfl, rfl, rfl, trivial⟩, (hG136.trans hG245), H246, (hs143.mono hG245)⟩
  intro hM135
  refine any_rn (i := 0) (m' := 1) rfl (rn_pure (pt b0) rfl) hPF hns ?_
  refine any_rn (i := 1) (m' := 3) rfl (rn_pure (pt b0) rfl) hPF hns ?_
  refine any_rn (i := 2) (m' := 7) rfl (rn_pure (pt b0) rfl) hPF hns ?_
  refine any_rn (i := 3) (m' := 15) rfl (rn_nilCheck rfl) hPF hns ?_
  refine any_rn (i := 4) (m' := 31) rfl (rn_field fo63_0 rfl) hPF hns ?_
  refine any_rn (i := 8) (m' := 287) rfl (rn_pure (pt b0) rfl) hPF hns ?_
  refine any_rn (i := 9) (m' := 799) rfl (rn_nilCheck rfl) hPF hns ?_
  refine any_rn (i := 10) (m' := 1823) rfl (rn_field fo63_3 rfl) hPF hns ?_
  refine any_rn (i := 11) (m' := 3871) rfl (rn_field fo32_2 rfl) hPF hns ?_
  refine any_alls [5, 12] ⟨?_, ?_, trivial⟩
  ·refine any_ops (m' := 3903) fun Q' hN => ?_
   refine wl_load H21 (i := 0) rfl lTnego_workV_Nego ty29 rfl ?_
   intro v249 hv250
   refine wl_nil (hN _ _ ?_)
   refine any_alls [6, 12] ⟨?_, ?_, trivial⟩
   ·refine any_ops (m' := 3967) fun Q' hN => ?_
    refine wl_call (vs := [v249]) en24 rfl (nego_Magic_ok hc hv250 H21 hr25) ?_
    rintro v255 w254 ⟨G251, hG252, rfl, H253⟩
    refine wl_nil (hN _ _ ?_)
    refine any_alls [7, 12] ⟨?_, ?_, trivial⟩
    ·refine any_ops (m' := 4095) fun Q' hN => ?_
     refine wl_call (vs := [(.int .u32 r24)]) en81 rfl (opts_Four_ok hc H253 hr32) ?_
     rintro v260 w259 ⟨G256, g261, A262, c263, hG257, rfl, H258⟩
     refine wl_nil (hN _ _ ?_)
     refine any_alls [12] ⟨any_ops (m' := 8191) fun Q' hN => ?_, trivial⟩
     refine wl_load H258 (i := 1) rfl (Lens.then lTnego_workV_P lTPkt_Data) ty30 rfl ?_
     intro v265 hv266
     obtain ⟨A267, c268, rfl, hs269⟩ := slice_V hv266
     refine wl_nil (hN _ _ ?_)
     refine any_rnE (i := 13) (m' := 16383) rfl (rn_cut (lo := (some 4)) (hi := none) hs269 sl30 ty5 rfl ⟨_, rfl⟩ trivial hr48) hPF hns ?_
     intro z270 hs271
     exact hM153 _ _ ⟨_, _, g261, A262, c263, z270.1, z270.2, frame_eq [(9, (pt b0)), (10, (pt b0)), (16, (.slice A262 r31.length c263)), (22, (.slice z270.1 r47.length z270.2))] ⟨rfl, rfl, rfl, rfl, trivial⟩, (hG252.trans hG257), (St.pick [(.row kB g261 A262 c263 5 r31), (.box b0 63 (kTnego_workV.at_ (Tnego_workV.mk x2 (.slice A5 x3.length c6) (.slice A10 x8.length c11) x13))), (.row kTPkt g4 A5 c6 32 x3), (.row kI g9 A10 c11 3 x8)] [(.box b0 63 (kTnego_workV.at_ (Tnego_workV.mk x2 (.slice A5 x3.length c6) (.slice A10 x8.length c11) x13))), (.row kTPkt g4 A5 c6 32 x3), (.row kI g9 A10 c11 3 x8), (.row kB g261 A262 c263 5 r31)] [1, 2, 3, 0] H258 (by decide) rfl), hs271⟩
    ·refine any_ops (m' := 8063) fun Q' hN => ?_
     refine wl_load H253 (i := 0) rfl (Lens.then lTnego_workV_P lTPkt_Data) ty30 rfl ?_
     intro v272 hv273
     obtain ⟨A274, c275, rfl, hs276⟩ := slice_V hv273
     refine wl_nil (hN _ _ ?_)
     refine any_rnE (i := 13) (m' := 16255) rfl (rn_cut (lo := (some 4)) (hi := none) hs276 sl30 ty5 rfl ⟨_, rfl⟩ trivial hr48) hPF hns ?_
     intro z277 hs278
     exact hM146 _ _ ⟨_, _, z277.1, z277.2, frame_eq [(9, (pt b0)), (10, (pt b0)), (15, (.int .u32 r24)), (22, (.slice z277.1 r47.length z277.2))] ⟨rfl, rfl, rfl, rfl, trivial⟩, hG252, H253, hs278⟩
   ·refine any_ops (m' := 7999) fun Q' hN => ?_
    refine wl_load H21 (i := 0) rfl (Lens.then lTnego_workV_P lTPkt_Data) ty30 rfl ?_
    intro v279 hv280
    obtain ⟨A281, c282, rfl, hs283⟩ := slice_V hv280
    refine wl_nil (hN _ _ ?_)
    refine any_rnE (i := 13) (m' := 16191) rfl (rn_cut (lo := (some 4)) (hi := none) hs283 sl30 ty5 rfl ⟨_, rfl⟩ trivial hr48) hPF hns ?_
    intro z284 hs285
    exact hM135 _ _ ⟨_, _, v249, z284.1, z284.2, frame_eq [(9, (pt b0)), (10, (pt b0)), (14, v249), (22, (.slice z284.1 r47.length z284.2))] ⟨rfl, rfl, rfl, rfl, trivial⟩, GLe.refl _, H21, hv250, hs285⟩
  ·refine any_ops (m' := 7967) fun Q' hN => ?_
   refine wl_load H21 (i := 0) rfl (Lens.then lTnego_workV_P lTPkt_Data) ty30 rfl ?_
   intro v286 hv287
   obtain ⟨A288, c289, rfl, hs290⟩ := slice_V hv287
   refine wl_nil (hN _ _ ?_)
   refine any_rnE (i := 13) (m' := 16159) rfl (rn_cut (lo := (some 4)) (hi := none) hs290 sl30 ty5 rfl ⟨_, rfl⟩ trivial hr48) hPF hns ?_
   intro z291 hs292
   refine any_alls [5] ⟨any_ops (m' := 16191) fun Q' hN => ?_, trivial⟩
   refine wl_load H21 (i := 0) rfl lTnego_workV_Nego ty29 rfl ?_
   intro v293 hv294
   refine wl_nil (hN _ _ ?_)
   exact hM135 _ _ ⟨_, _, v293, z291.1, z291.2, frame_eq [(9, (pt b0)), (10, (pt b0)), (14, v293), (22, (.slice z291.1 r47.length z291.2))] ⟨rfl, rfl, rfl, rfl, trivial⟩, GLe.refl _, H21, hv294, hs292⟩
 ·replace hF := ifF hF hb19
  refine wc_false (vb hb19) ?_
  refine wp_skip ?_
  have hF := Option.some.inj hF
  subst hF
  exact end_mk rfl RV.nil ⟨_, g4, A5, c6, g9, A10, c11, GLe.refl _, rfl, H⟩

theorem nego_work_nothing_ok {c : World} (hc : Hc c) {G : Ghost} {w : World} {σ : List Ent} {b0 : Nat} {x2 : TNego} {x3 : (List TPkt)} {x8 : (List Int)} {x13 : TPkt} {g4 : Option Nat} {A5 : Option Addr} {c6 : Nat} {g9 : Option Nat} {A10 : Option Addr} {c11 : Nat}  (H : St c G w ((.box b0 63 (kTnego_workV.at_ (Tnego_workV.mk x2 (.slice A5 x3.length c6) (.slice A10 x8.length c11) x13))) :: (.row kTPkt g4 A5 c6 32 x3) :: (.row kI g9 A10 c11 3 x8) :: σ)) {r : (TNego × (List TPkt) × (List Int) × TPkt)} (hF : nego_work_nothing x2 x3 x8 x13 = some r) :
  Calls Tryd.prog 60 ([(pt b0)] : List Value).toArray w (Ends fun v w' => ∃ (G' : Ghost) (g1' : Option Nat) (A2' : Option Addr) (c3' : Nat) (g4' : Option Nat) (A5' : Option Addr) (c6' : Nat), GLe G G' ∧ tup [] = v ∧ St c G' w' ((.box b0 63 (kTnego_workV.at_ (Tnego_workV.mk r.1 (.slice A2' r.2.1.length c3') (.slice A5' r.2.2.1.length c6') r.2.2.2))) :: (.row kTPkt g1' A2' c3' 32 r.2.1) :: (.row kI g4' A5' c6' 3 r.2.2.1) :: σ)) := by
 unfold nego_work_nothing at hF
 refine calls_mk Tryd.func60 rfl rfl rfl ?_
 refine wp_skip ?_
 have hF := Option.some.inj hF
 subst hF
 exact end_mk rfl RV.nil ⟨_, g4, A5, c6, g9, A10, c11, GLe.refl _, rfl, H⟩

theorem nego_Take_ok {c : World} (hc : Hc c) {G : Ghost} {w : World} {σ : List Ent} {a0 : TNego} {v0_ : Value} {a1 : TPkt} {v1_ : Value} (h0_ : kTNego.V G v0_ a0) (h1_ : kTPkt.V G v1_ a1) (H : St c G w (σ)) {r : (TNego × (List TPkt) × (List Int))} (hF : nego_Take a0 a1 = some r) :
  Calls Tryd.prog 13 ([v0_, v1_] : List Value).toArray w (Ends fun v w' => ∃ (G' : Ghost) (v1' : Value) (A2' : Option Addr) (c3' : Nat) (A4' : Option Addr) (c5' : Nat), GLe G G' ∧ tup [v1', (.slice A2' r.2.1.length c3'), (.slice A4' r.2.2.length c5')] = v ∧ St c G' w' (σ) ∧ kTNego.V G' v1' r.1 ∧ SlR kTPkt G' A2' c3' r.2.1 ∧ SlR kI G' A4' c5' r.2.2) := by
 unfold nego_Take at hF
 refine calls_mk Tryd.func13 rfl rfl rfl ?_
 refine wp_seq (wc_region ?_)
 refine wl_box (K := kTNego) (x := a0) H rfl h0_ ?_
 intro b1 w4 H2
 refine wl_box (K := kTPkt) (x := a1) H2 rfl h1_ ?_
 intro b5 w8 H6
 refine wl_alloc H6 zr29 ?_
 intro b9 w12 H10
 iterate 2 refine wl_rn (rn_pure (.slice none 0 0) rfl) ?_
 refine wl_nil (then_n (wp_seq (wc_region ?_)))
 refine wl_load H10 (i := 2) rfl (Lens.id kTNego) ty29 rfl ?_
 intro v13 hv14
 refine wl_load H10 (i := 1) rfl (Lens.id kTPkt) ty32 rfl ?_
 intro v15 hv16
 refine wl_rnE (rn_build (G := G) zr63V rfl bs63 rfl (Parts.cons fo63_0 lTnego_workV_Nego hv14 (Parts.cons fo63_3 lTnego_workV_P hv16 (Parts.nil _)))) ?_
 intro v17 hv18
 refine wl_box (K := kTnego_workV) (x := (Tnego_workV.mk a0 (.slice none 0 0) (.slice none 0 0) a1)) H10 rfl hv18 ?_
 intro b19 w22 H20
 refine wl_rn (rn_pure (pt b19) rfl) ?_
 refine wl_nil (then_n (wp_seq (wc_region ?_)))
 refine wl_rn (rn_pure (.int .u16 49185) rfl) ?_
 refine wl_nil (then_n ?_)
 refine wp_seq (join (fun a w => ∃ (T0 : Fr) (G1 : Ghost) (x24 : Int) (x25 : TNego) (x26 : (List TPkt)) (x31 : (List Int)) (x36 : TPkt) (g27 : Option Nat) (A28 : Option Addr) (c29 : Nat) (g32 : Option Nat) (A33 : Option Addr) (c34 : Nat), a = mk 45 (upds T0 [(2, (pt b1)), (3, (pt b5)), (4, (pt b9)), (7, (pt b19)), (8, (.int .u16 x24))]) ∧ GLe G G1 ∧ St c G1 w ((.box b19 63 (kTnego_workV.at_ (Tnego_workV.mk x25 (.slice A28 x26.length c29) (.slice A33 x31.length c34) x36))) :: (.row kTPkt g27 A28 c29 32 x26) :: (.row kI g32 A33 c34 3 x31) :: (.box b9 29 (kTNego.at_ zTNego)) :: (.box b5 32 (kTPkt.at_ a1)) :: (.box b1 29 (kTNego.at_ a0)) :: σ) ∧ nego_Take_j1 a0 a1 x24 x25 x26 x31 x36 = some r) ?_ ?_)
 ·rintro a w ⟨T0, G39, x24, x25, x26, x31, x36, g27, A28, c29, g32, A33, c34, rfl, hG37, H38, hF⟩
  refine wp_seq (join (fun a w => ∃ (T0 : Fr) (G1 : Ghost) (x239 : TNego) (x240 : (List TPkt)) (x245 : (List Int)) (x250 : TPkt) (g241 : Option Nat) (A242 : Option Addr) (c243 : Nat) (g246 : Option Nat) (A247 : Option Addr) (c248 : Nat), a = mk 45 (upds T0 [(4, (pt b9)), (7, (pt b19))]) ∧ GLe G39 G1 ∧ St c G1 w ((.box b19 63 (kTnego_workV.at_ (Tnego_workV.mk x239 (.slice A242 x240.length c243) (.slice A247 x245.length c248) x250))) :: (.row kTPkt g241 A242 c243 32 x240) :: (.row kI g246 A247 c248 3 x245) :: (.box b9 29 (kTNego.at_ zTNego)) :: σ) ∧ nego_Take_j2 x239 x240 x245 x250 = some r) ?_ ?_)
  ·rintro a w ⟨T0, G253, x239, x240, x245, x250, g241, A242, c243, g246, A247, c248, rfl, hG251, H252, hF⟩
   refine wp_seq (wc_region ?_)
   refine wl_rn (rn_pure (pt b19) rfl) ?_
   obtain ⟨r254, hr255, hF⟩ := bindS hF
   refine wl_call (vs := [(pt b19)]) en31 rfl (nego_work_told_ok hc H252 hr255) ?_
   rintro v260 w259 ⟨G256, v261, A263, c264, A266, c267, hG257, rfl, H258, hv262, hs265, hs268⟩
   refine wl_rn (rn_pure v261 rfl) ?_
   refine wl_rn (rn_pure (.slice A263 r254.2.1.length c264) rfl) ?_
   refine wl_rn (rn_pure (.slice A266 r254.2.2.length c267) rfl) ?_
   refine wl_store (z := r254.1) H258 (i := 0) rfl (Lens.id kTNego) ty29 rfl rfl hv262 ?_
   intro w270 H269
   refine wl_rn (rn_pure (.slice A263 r254.2.1.length c264) rfl) ?_
   refine wl_rn (rn_pure (.slice A266 r254.2.2.length c267) rfl) ?_
   refine wl_nil (then_n ?_)
   refine wp_ret ?_
   obtain ⟨v271, hv272, hl273⟩ := H269.loadv (i := 0) rfl ty29
   have hF := Option.some.inj hF
   subst hF
   exact ret_mk rfl (RV.cell rfl hl273 (RV.tmp rfl (RV.tmp rfl RV.nil))) ⟨_, v271, A263, c264, A266, c267, ((hG37.trans hG251).trans hG257), rfl, (St.pick [(.box b9 29 (kTNego.at_ r254.1))] [] [] H269 (by decide) rfl), hv272, hs265, hs268⟩
  ·refine wp_block ?_
   refine wp_seq (wc_region ?_)
   refine wl_rn (rn_field fo29_0 rfl) ?_
   refine wl_rn (rn_field fo23_0 rfl) ?_
   refine wl_loadd H38 (i := 5) rfl (Lens.then lTNego_A lTAuto_State) (dInt .i64) ty3 rfl ?_
   iterate 2 refine wl_rn (rn_pure (.bool (decide (a0.A.State ≤ 1))) rfl) ?_
   refine wl_nil (then_n ?_)
   rcases bcases (decide (a0.A.State ≤ 1)) with hb274 | hb274
   ·replace hF := ifT hF hb274
    refine wc_true (vb hb274) ?_
    refine wp_skip ?_
    refine blk_n ?_
    refine then_n ?_
    exact ⟨_, _, x25, x26, x31, x36, g27, A28, c29, g32, A33, c34, frame_eq [(4, (pt b9)), (7, (pt b19))] ⟨rfl, rfl, trivial⟩, GLe.refl _, (St.pick [(.box b19 63 (kTnego_workV.at_ (Tnego_workV.mk x25 (.slice A28 x26.length c29) (.slice A33 x31.length c34) x36))), (.row kTPkt g27 A28 c29 32 x26), (.row kI g32 A33 c34 3 x31), (.box b9 29 (kTNego.at_ zTNego)), (.box b5 32 (kTPkt.at_ a1)), (.box b1 29 (kTNego.at_ a0))] [(.box b19 63 (kTnego_workV.at_ (Tnego_workV.mk x25 (.slice A28 x26.length c29) (.slice A33 x31.length c34) x36))), (.row kTPkt g27 A28 c29 32 x26), (.row kI g32 A33 c34 3 x31), (.box b9 29 (kTNego.at_ zTNego))] [0, 1, 2, 3] H38 (by decide) rfl), hF⟩
   ·replace hF := ifF hF hb274
    refine wc_false (vb hb274) ?_
    refine wp_seq (wc_region ?_)
    refine wl_rn (rn_pure (.int .u16 x24) rfl) ?_
    refine wl_rn (rn_field fo32_0 rfl) ?_
    refine wl_loadd H38 (i := 4) rfl lTPkt_Code (dInt .u8) ty5 rfl ?_
    obtain ⟨r275, hr276, hF⟩ := bindS hF
    refine wl_call (vs := [(.int .u16 x24), (.int .u8 a1.Code)]) en34 rfl (pack_Known_ok hc H38 hr276) ?_
    rintro v281 w280 ⟨G277, hG278, rfl, H279⟩
    iterate 2 refine wl_rn (rn_pure (.bool (!r275)) rfl) ?_
    refine wl_nil (then_n ?_)
    rcases bcases (!r275) with hb282 | hb282
    ·replace hF := ifT hF hb282
     refine wc_true (vb hb282) ?_
     refine wc_region ?_
     refine wl_rn (rn_pure (pt b19) rfl) ?_
     refine wl_load H279 (i := 4) rfl (Lens.id kTPkt) ty32 rfl ?_
     intro v283 hv284
     refine wl_rn (rn_field fo29_0 rfl) ?_
     refine wl_rn (rn_field fo23_3 rfl) ?_
     refine wl_loadd H279 (i := 5) rfl (Lens.then lTNego_A lTAuto_Id) (dInt .u8) ty5 rfl ?_
     obtain ⟨r285, hr286, hF⟩ := bindS hF
     refine wl_call (vs := [v283, (.int .u8 a0.A.Id)]) en35 rfl (pack_Reject_ok hc hv284 H279 hr286) ?_
     rintro v291 w290 ⟨G287, v292, hG288, rfl, H289, hv293⟩
     obtain ⟨r294, hr295, hF⟩ := bindS hF
     refine wl_call (vs := [(pt b19), (.int .i64 12), v292]) en30 rfl (nego_work_event_ok hc hv293 H289 hr295) ?_
     rintro v300 w299 ⟨G296, A301, c302, g304, A305, c306, g307, A308, c309, hG297, rfl, H298, hs303⟩
     refine wl_nil (blk_n ?_)
     refine then_n ?_
     exact ⟨_, _, r294.2.1, r294.2.2.1, r294.2.2.2.1, r294.2.2.2.2, g304, A305, c306, g307, A308, c309, frame_eq [(4, (pt b9)), (7, (pt b19))] ⟨rfl, rfl, trivial⟩, ((hG278.trans hG288).trans hG297), (St.pick [(.box b19 63 (kTnego_workV.at_ (Tnego_workV.mk r294.2.1 (.slice A305 r294.2.2.1.length c306) (.slice A308 r294.2.2.2.1.length c309) r294.2.2.2.2))), (.row kTPkt g304 A305 c306 32 r294.2.2.1), (.row kI g307 A308 c309 3 r294.2.2.2.1), (.box b9 29 (kTNego.at_ zTNego)), (.box b5 32 (kTPkt.at_ a1)), (.box b1 29 (kTNego.at_ a0))] [(.box b19 63 (kTnego_workV.at_ (Tnego_workV.mk r294.2.1 (.slice A305 r294.2.2.1.length c306) (.slice A308 r294.2.2.2.1.length c309) r294.2.2.2.2))), (.row kTPkt g304 A305 c306 32 r294.2.2.1), (.row kI g307 A308 c309 3 r294.2.2.2.1), (.box b9 29 (kTNego.at_ zTNego))] [0, 1, 2, 3] H298 (by decide) rfl), hF⟩
    ·replace hF := ifF hF hb282
     refine wc_false (vb hb282) ?_
     refine wc_anyS (f := 6) H279 mixed ?_
     intro w310 H311
     refine any_pf (by repeat (first | exact PF.base | apply PF.then_ | apply PF.blk)) ?_
     intro hPF hns
     obtain ⟨r312, hr313, hF⟩ := bindS hF
     rcases bcases (a1.Code == 1) with hb321 | hb321
     ·replace hF := ifT hF hb321
      obtain ⟨r322, hr323, hF⟩ := bindS hF
      refine any_memo (fuel := 2) (m := 23) (fun a w => ∃ (T0 : Fr) (G1 : Ghost) (r346 : Nat), a = mk 45 (upds T0 [(4, (pt b9)), (7, (pt b19)), (16, (.map (some r346))), (18, (.int .u8 a1.Code)), (20, (pt b19))]) ∧ GLe G277 G1 ∧ St c G1 w ((.box b9 29 (kTNego.at_ zTNego)) :: (.box b19 63 (kTnego_workV.at_ (Tnego_workV.mk x25 (.slice A28 x26.length c29) (.slice A33 x31.length c34) x36))) :: (.row kTPkt g27 A28 c29 32 x26) :: (.row kI g32 A33 c34 3 x31) :: (.mp r346 [⟨.int .u8 1, (.func (.func 52) #[] #[]), 0⟩, ⟨.int .u8 2, (.func (.func 53) #[] #[]), 1⟩, ⟨.int .u8 3, (.func (.func 54) #[] #[]), 2⟩, ⟨.int .u8 4, (.func (.func 54) #[] #[]), 3⟩, ⟨.int .u8 5, (.func (.func 55) #[] #[]), 4⟩, ⟨.int .u8 6, (.func (.func 56) #[] #[]), 5⟩, ⟨.int .u8 7, (.func (.func 57) #[] #[]), 6⟩, ⟨.int .u8 8, (.func (.func 58) #[] #[]), 7⟩, ⟨.int .u8 9, (.func (.func 59) #[] #[]), 8⟩, ⟨.int .u8 10, (.func (.func 60) #[] #[]), 9⟩, ⟨.int .u8 11, (.func (.func 60) #[] #[]), 10⟩] 11) :: σ)) ?_ ?_
      ·rintro a w ⟨T0, G345, r346, rfl, hG343, H344⟩
       refine any_alls [3] ⟨any_ops (m' := 31) fun Q' hN => ?_, trivial⟩
       refine wl_lookup (key := (.int .u8 a1.Code)) (val := (.func (.func 52) #[] #[])) (ok := true) H344 (i := 4) rfl mt73 un5 rfl rfl (by simp [Go.MapKept.IsKey]) ⟨_, (fnd_yes hb321), .inl ⟨_, rfl, rfl⟩⟩ ?_
       refine wl_nil (hN _ _ ?_)
       refine any_alls [5] ⟨any_ops (m' := 63) fun Q' hN => ?_, trivial⟩
       refine wl_callv (first := []) (captured := []) (vs := [(pt b19)]) en52 rfl rfl (nego_work_request_ok hc (St.pick [(.box b9 29 (kTNego.at_ zTNego)), (.box b19 63 (kTnego_workV.at_ (Tnego_workV.mk x25 (.slice A28 x26.length c29) (.slice A33 x31.length c34) x36))), (.row kTPkt g27 A28 c29 32 x26), (.row kI g32 A33 c34 3 x31), (.mp r346 [⟨.int .u8 1, (.func (.func 52) #[] #[]), 0⟩, ⟨.int .u8 2, (.func (.func 53) #[] #[]), 1⟩, ⟨.int .u8 3, (.func (.func 54) #[] #[]), 2⟩, ⟨.int .u8 4, (.func (.func 54) #[] #[]), 3⟩, ⟨.int .u8 5, (.func (.func 55) #[] #[]), 4⟩, ⟨.int .u8 6, (.func (.func 56) #[] #[]), 5⟩, ⟨.int .u8 7, (.func (.func 57) #[] #[]), 6⟩, ⟨.int .u8 8, (.func (.func 58) #[] #[]), 7⟩, ⟨.int .u8 9, (.func (.func 59) #[] #[]), 8⟩, ⟨.int .u8 10, (.func (.func 60) #[] #[]), 9⟩, ⟨.int .u8 11, (.func (.func 60) #[] #[]), 10⟩] 11)] [(.box b19 63 (kTnego_workV.at_ (Tnego_workV.mk x25 (.slice A28 x26.length c29) (.slice A33 x31.length c34) x36))), (.row kTPkt g27 A28 c29 32 x26), (.row kI g32 A33 c34 3 x31), (.box b9 29 (kTNego.at_ zTNego)), (.mp r346 [⟨.int .u8 1, (.func (.func 52) #[] #[]), 0⟩, ⟨.int .u8 2, (.func (.func 53) #[] #[]), 1⟩, ⟨.int .u8 3, (.func (.func 54) #[] #[]), 2⟩, ⟨.int .u8 4, (.func (.func 54) #[] #[]), 3⟩, ⟨.int .u8 5, (.func (.func 55) #[] #[]), 4⟩, ⟨.int .u8 6, (.func (.func 56) #[] #[]), 5⟩, ⟨.int .u8 7, (.func (.func 57) #[] #[]), 6⟩, ⟨.int .u8 8, (.func (.func 58) #[] #[]), 7⟩, ⟨.int .u8 9, (.func (.func 59) #[] #[]), 8⟩, ⟨.int .u8 10, (.func (.func 60) #[] #[]), 9⟩, ⟨.int .u8 11, (.func (.func 60) #[] #[]), 10⟩] 11)] [1, 2, 3, 0, 4] H344 (by decide) rfl) hr323) ?_
       rintro v362 w361 ⟨G358, g363, A364, c365, g366, A367, c368, hG359, rfl, H360⟩
       refine wl_nil (hN _ _ ?_)
       refine any_end ?_
       refine blk_n ?_
       refine then_n ?_
       exact ⟨_, _, r322.1, r322.2.1, r322.2.2.1, r322.2.2.2, g363, A364, c365, g366, A367, c368, frame_eq [(4, (pt b9)), (7, (pt b19))] ⟨rfl, rfl, trivial⟩, ((hG278.trans hG343).trans hG359), (St.pick [(.box b19 63 (kTnego_workV.at_ (Tnego_workV.mk r322.1 (.slice A364 r322.2.1.length c365) (.slice A367 r322.2.2.1.length c368) r322.2.2.2))), (.row kTPkt g363 A364 c365 32 r322.2.1), (.row kI g366 A367 c368 3 r322.2.2.1), (.box b9 29 (kTNego.at_ zTNego)), (.mp r346 [⟨.int .u8 1, (.func (.func 52) #[] #[]), 0⟩, ⟨.int .u8 2, (.func (.func 53) #[] #[]), 1⟩, ⟨.int .u8 3, (.func (.func 54) #[] #[]), 2⟩, ⟨.int .u8 4, (.func (.func 54) #[] #[]), 3⟩, ⟨.int .u8 5, (.func (.func 55) #[] #[]), 4⟩, ⟨.int .u8 6, (.func (.func 56) #[] #[]), 5⟩, ⟨.int .u8 7, (.func (.func 57) #[] #[]), 6⟩, ⟨.int .u8 8, (.func (.func 58) #[] #[]), 7⟩, ⟨.int .u8 9, (.func (.func 59) #[] #[]), 8⟩, ⟨.int .u8 10, (.func (.func 60) #[] #[]), 9⟩, ⟨.int .u8 11, (.func (.func 60) #[] #[]), 10⟩] 11)] [(.box b19 63 (kTnego_workV.at_ (Tnego_workV.mk r322.1 (.slice A364 r322.2.1.length c365) (.slice A367 r322.2.2.1.length c368) r322.2.2.2))), (.row kTPkt g363 A364 c365 32 r322.2.1), (.row kI g366 A367 c368 3 r322.2.2.1), (.box b9 29 (kTNego.at_ zTNego))] [0, 1, 2, 3] H360 (by decide) rfl), hF⟩
      intro hM342
      refine any_rn (i := 1) (m' := 2) rfl (rn_field fo32_0 rfl) hPF hns ?_
      refine any_rn (i := 4) (m' := 18) rfl (rn_pure (pt b19) rfl) hPF hns ?_
      refine any_alls [0, 2] ⟨?_, ?_, trivial⟩
      ·refine any_ops (m' := 19) fun Q' hN => ?_
       refine wl_call (vs := []) en36 rfl (nego_codes_ok hc H311 hr313) ?_
       rintro v373 w372 ⟨G369, r374, hG370, rfl, H371⟩
       refine wl_nil (hN _ _ ?_)
       refine any_alls [2] ⟨any_ops (m' := 23) fun Q' hN => ?_, trivial⟩
       refine wl_loadd H371 (i := 5) rfl lTPkt_Code (dInt .u8) ty5 rfl ?_
       refine wl_nil (hN _ _ ?_)
       exact hM342 _ _ ⟨_, _, r374, frame_eq [(4, (pt b9)), (7, (pt b19)), (16, (.map (some r374))), (18, (.int .u8 a1.Code)), (20, (pt b19))] ⟨rfl, rfl, rfl, rfl, rfl, trivial⟩, hG370, (St.pick [(.mp r374 [⟨.int .u8 1, (.func (.func 52) #[] #[]), 0⟩, ⟨.int .u8 2, (.func (.func 53) #[] #[]), 1⟩, ⟨.int .u8 3, (.func (.func 54) #[] #[]), 2⟩, ⟨.int .u8 4, (.func (.func 54) #[] #[]), 3⟩, ⟨.int .u8 5, (.func (.func 55) #[] #[]), 4⟩, ⟨.int .u8 6, (.func (.func 56) #[] #[]), 5⟩, ⟨.int .u8 7, (.func (.func 57) #[] #[]), 6⟩, ⟨.int .u8 8, (.func (.func 58) #[] #[]), 7⟩, ⟨.int .u8 9, (.func (.func 59) #[] #[]), 8⟩, ⟨.int .u8 10, (.func (.func 60) #[] #[]), 9⟩, ⟨.int .u8 11, (.func (.func 60) #[] #[]), 10⟩] 11), (.box b19 63 (kTnego_workV.at_ (Tnego_workV.mk x25 (.slice A28 x26.length c29) (.slice A33 x31.length c34) x36))), (.row kTPkt g27 A28 c29 32 x26), (.row kI g32 A33 c34 3 x31), (.box b9 29 (kTNego.at_ zTNego)), (.box b5 32 (kTPkt.at_ a1)), (.box b1 29 (kTNego.at_ a0))] [(.box b9 29 (kTNego.at_ zTNego)), (.box b19 63 (kTnego_workV.at_ (Tnego_workV.mk x25 (.slice A28 x26.length c29) (.slice A33 x31.length c34) x36))), (.row kTPkt g27 A28 c29 32 x26), (.row kI g32 A33 c34 3 x31), (.mp r374 [⟨.int .u8 1, (.func (.func 52) #[] #[]), 0⟩, ⟨.int .u8 2, (.func (.func 53) #[] #[]), 1⟩, ⟨.int .u8 3, (.func (.func 54) #[] #[]), 2⟩, ⟨.int .u8 4, (.func (.func 54) #[] #[]), 3⟩, ⟨.int .u8 5, (.func (.func 55) #[] #[]), 4⟩, ⟨.int .u8 6, (.func (.func 56) #[] #[]), 5⟩, ⟨.int .u8 7, (.func (.func 57) #[] #[]), 6⟩, ⟨.int .u8 8, (.func (.func 58) #[] #[]), 7⟩, ⟨.int .u8 9, (.func (.func 59) #[] #[]), 8⟩, ⟨.int .u8 10, (.func (.func 60) #[] #[]), 9⟩, ⟨.int .u8 11, (.func (.func 60) #[] #[]), 10⟩] 11)] [4, 1, 2, 3, 0] H371 (by decide) rfl)⟩
      ·refine any_ops (m' := 22) fun Q' hN => ?_
       refine wl_loadd H311 (i := 4) rfl lTPkt_Code (dInt .u8) ty5 rfl ?_
       refine wl_nil (hN _ _ ?_)
       refine any_alls [0] ⟨any_ops (m' := 23) fun Q' hN => ?_, trivial⟩
       refine wl_call (vs := []) en36 rfl (nego_codes_ok hc H311 hr313) ?_
       rintro v380 w379 ⟨G376, r381, hG377, rfl, H378⟩
       refine wl_nil (hN _ _ ?_)
       exact hM342 _ _ ⟨_, _, r381, frame_eq [(4, (pt b9)), (7, (pt b19)), (16, (.map (some r381))), (18, (.int .u8 a1.Code)), (20, (pt b19))] ⟨rfl, rfl, rfl, rfl, rfl, trivial⟩, hG377, (St.pick [(.mp r381 [⟨.int .u8 1, (.func (.func 52) #[] #[]), 0⟩, ⟨.int .u8 2, (.func (.func 53) #[] #[]), 1⟩, ⟨.int .u8 3, (.func (.func 54) #[] #[]), 2⟩, ⟨.int .u8 4, (.func (.func 54) #[] #[]), 3⟩, ⟨.int .u8 5, (.func (.func 55) #[] #[]), 4⟩, ⟨.int .u8 6, (.func (.func 56) #[] #[]), 5⟩, ⟨.int .u8 7, (.func (.func 57) #[] #[]), 6⟩, ⟨.int .u8 8, (.func (.func 58) #[] #[]), 7⟩, ⟨.int .u8 9, (.func (.func 59) #[] #[]), 8⟩, ⟨.int .u8 10, (.func (.func 60) #[] #[]), 9⟩, ⟨.int .u8 11, (.func (.func 60) #[] #[]), 10⟩] 11), (.box b19 63 (kTnego_workV.at_ (Tnego_workV.mk x25 (.slice A28 x26.length c29) (.slice A33 x31.length c34) x36))), (.row kTPkt g27 A28 c29 32 x26), (.row kI g32 A33 c34 3 x31), (.box b9 29 (kTNego.at_ zTNego)), (.box b5 32 (kTPkt.at_ a1)), (.box b1 29 (kTNego.at_ a0))] [(.box b9 29 (kTNego.at_ zTNego)), (.box b19 63 (kTnego_workV.at_ (Tnego_workV.mk x25 (.slice A28 x26.length c29) (.slice A33 x31.length c34) x36))), (.row kTPkt g27 A28 c29 32 x26), (.row kI g32 A33 c34 3 x31), (.mp r381 [⟨.int .u8 1, (.func (.func 52) #[] #[]), 0⟩, ⟨.int .u8 2, (.func (.func 53) #[] #[]), 1⟩, ⟨.int .u8 3, (.func (.func 54) #[] #[]), 2⟩, ⟨.int .u8 4, (.func (.func 54) #[] #[]), 3⟩, ⟨.int .u8 5, (.func (.func 55) #[] #[]), 4⟩, ⟨.int .u8 6, (.func (.func 56) #[] #[]), 5⟩, ⟨.int .u8 7, (.func (.func 57) #[] #[]), 6⟩, ⟨.int .u8 8, (.func (.func 58) #[] #[]), 7⟩, ⟨.int .u8 9, (.func (.func 59) #[] #[]), 8⟩, ⟨.int .u8 10, (.func (.func 60) #[] #[]), 9⟩, ⟨.int .u8 11, (.func (.func 60) #[] #[]), 10⟩] 11)] [4, 1, 2, 3, 0] H378 (by decide) rfl)⟩
     ·replace hF := ifF hF hb321
      rcases bcases (a1.Code == 2) with hb383 | hb383
      ·replace hF := ifT hF hb383
       obtain ⟨r384, hr385, hF⟩ := bindS hF
       refine any_memo (fuel := 2) (m := 23) (fun a w => ∃ (T0 : Fr) (G1 : Ghost) (r408 : Nat), a = mk 45 (upds T0 [(4, (pt b9)), (7, (pt b19)), (16, (.map (some r408))), (18, (.int .u8 a1.Code)), (20, (pt b19))]) ∧ GLe G277 G1 ∧ St c G1 w ((.box b9 29 (kTNego.at_ zTNego)) :: (.box b19 63 (kTnego_workV.at_ (Tnego_workV.mk x25 (.slice A28 x26.length c29) (.slice A33 x31.length c34) x36))) :: (.row kTPkt g27 A28 c29 32 x26) :: (.row kI g32 A33 c34 3 x31) :: (.mp r408 [⟨.int .u8 1, (.func (.func 52) #[] #[]), 0⟩, ⟨.int .u8 2, (.func (.func 53) #[] #[]), 1⟩, ⟨.int .u8 3, (.func (.func 54) #[] #[]), 2⟩, ⟨.int .u8 4, (.func (.func 54) #[] #[]), 3⟩, ⟨.int .u8 5, (.func (.func 55) #[] #[]), 4⟩, ⟨.int .u8 6, (.func (.func 56) #[] #[]), 5⟩, ⟨.int .u8 7, (.func (.func 57) #[] #[]), 6⟩, ⟨.int .u8 8, (.func (.func 58) #[] #[]), 7⟩, ⟨.int .u8 9, (.func (.func 59) #[] #[]), 8⟩, ⟨.int .u8 10, (.func (.func 60) #[] #[]), 9⟩, ⟨.int .u8 11, (.func (.func 60) #[] #[]), 10⟩] 11) :: σ)) ?_ ?_
       ·rintro a w ⟨T0, G407, r408, rfl, hG405, H406⟩
        refine any_alls [3] ⟨any_ops (m' := 31) fun Q' hN => ?_, trivial⟩
        refine wl_lookup (key := (.int .u8 a1.Code)) (val := (.func (.func 53) #[] #[])) (ok := true) H406 (i := 4) rfl mt73 un5 rfl rfl (by simp [Go.MapKept.IsKey]) ⟨_, (fnd_no hb321 (fnd_yes hb383)), .inl ⟨_, rfl, rfl⟩⟩ ?_
        refine wl_nil (hN _ _ ?_)
        refine any_alls [5] ⟨any_ops (m' := 63) fun Q' hN => ?_, trivial⟩
        refine wl_callv (first := []) (captured := []) (vs := [(pt b19)]) en53 rfl rfl (nego_work_ack_ok hc (St.pick [(.box b9 29 (kTNego.at_ zTNego)), (.box b19 63 (kTnego_workV.at_ (Tnego_workV.mk x25 (.slice A28 x26.length c29) (.slice A33 x31.length c34) x36))), (.row kTPkt g27 A28 c29 32 x26), (.row kI g32 A33 c34 3 x31), (.mp r408 [⟨.int .u8 1, (.func (.func 52) #[] #[]), 0⟩, ⟨.int .u8 2, (.func (.func 53) #[] #[]), 1⟩, ⟨.int .u8 3, (.func (.func 54) #[] #[]), 2⟩, ⟨.int .u8 4, (.func (.func 54) #[] #[]), 3⟩, ⟨.int .u8 5, (.func (.func 55) #[] #[]), 4⟩, ⟨.int .u8 6, (.func (.func 56) #[] #[]), 5⟩, ⟨.int .u8 7, (.func (.func 57) #[] #[]), 6⟩, ⟨.int .u8 8, (.func (.func 58) #[] #[]), 7⟩, ⟨.int .u8 9, (.func (.func 59) #[] #[]), 8⟩, ⟨.int .u8 10, (.func (.func 60) #[] #[]), 9⟩, ⟨.int .u8 11, (.func (.func 60) #[] #[]), 10⟩] 11)] [(.box b19 63 (kTnego_workV.at_ (Tnego_workV.mk x25 (.slice A28 x26.length c29) (.slice A33 x31.length c34) x36))), (.row kTPkt g27 A28 c29 32 x26), (.row kI g32 A33 c34 3 x31), (.box b9 29 (kTNego.at_ zTNego)), (.mp r408 [⟨.int .u8 1, (.func (.func 52) #[] #[]), 0⟩, ⟨.int .u8 2, (.func (.func 53) #[] #[]), 1⟩, ⟨.int .u8 3, (.func (.func 54) #[] #[]), 2⟩, ⟨.int .u8 4, (.func (.func 54) #[] #[]), 3⟩, ⟨.int .u8 5, (.func (.func 55) #[] #[]), 4⟩, ⟨.int .u8 6, (.func (.func 56) #[] #[]), 5⟩, ⟨.int .u8 7, (.func (.func 57) #[] #[]), 6⟩, ⟨.int .u8 8, (.func (.func 58) #[] #[]), 7⟩, ⟨.int .u8 9, (.func (.func 59) #[] #[]), 8⟩, ⟨.int .u8 10, (.func (.func 60) #[] #[]), 9⟩, ⟨.int .u8 11, (.func (.func 60) #[] #[]), 10⟩] 11)] [1, 2, 3, 0, 4] H406 (by decide) rfl) hr385) ?_
        rintro v424 w423 ⟨G420, g425, A426, c427, g428, A429, c430, hG421, rfl, H422⟩
        refine wl_nil (hN _ _ ?_)
        refine any_end ?_
        refine blk_n ?_
        refine then_n ?_
        exact ⟨_, _, r384.1, r384.2.1, r384.2.2.1, r384.2.2.2, g425, A426, c427, g428, A429, c430, frame_eq [(4, (pt b9)), (7, (pt b19))] ⟨rfl, rfl, trivial⟩, ((hG278.trans hG405).trans hG421), (St.pick [(.box b19 63 (kTnego_workV.at_ (Tnego_workV.mk r384.1 (.slice A426 r384.2.1.length c427) (.slice A429 r384.2.2.1.length c430) r384.2.2.2))), (.row kTPkt g425 A426 c427 32 r384.2.1), (.row kI g428 A429 c430 3 r384.2.2.1), (.box b9 29 (kTNego.at_ zTNego)), (.mp r408 [⟨.int .u8 1, (.func (.func 52) #[] #[]), 0⟩, ⟨.int .u8 2, (.func (.func 53) #[] #[]), 1⟩, ⟨.int .u8 3, (.func (.func 54) #[] #[]), 2⟩, ⟨.int .u8 4, (.func (.func 54) #[] #[]), 3⟩, ⟨.int .u8 5, (.func (.func 55) #[] #[]), 4⟩, ⟨.int .u8 6, (.func (.func 56) #[] #[]), 5⟩, ⟨.int .u8 7, (.func (.func 57) #[] #[]), 6⟩, ⟨.int .u8 8, (.func (.func 58) #[] #[]), 7⟩, ⟨.int .u8 9, (.func (.func 59) #[] #[]), 8⟩, ⟨.int .u8 10, (.func (.func 60) #[] #[]), 9⟩, ⟨.int .u8 11, (.func (.func 60) #[] #[]), 10⟩] 11)] [(.box b19 63 (kTnego_workV.at_ (Tnego_workV.mk r384.1 (.slice A426 r384.2.1.length c427) (.slice A429 r384.2.2.1.length c430) r384.2.2.2))), (.row kTPkt g425 A426 c427 32 r384.2.1), (.row kI g428 A429 c430 3 r384.2.2.1), (.box b9 29 (kTNego.at_ zTNego))] [0, 1, 2, 3] H422 (by decide) rfl), hF⟩
       intro hM404
       refine any_rn (i := 1) (m' := 2) rfl (rn_field fo32_0 rfl) hPF hns ?_
       refine any_rn (i := 4) (m' := 18) rfl (rn_pure (pt b19) rfl) hPF hns ?_
       refine any_alls [0, 2] ⟨?_, ?_, trivial⟩
       ·refine any_ops (m' := 19) fun Q' hN => ?_
        refine wl_call (vs := []) en36 rfl (nego_codes_ok hc H311 hr313) ?_
        rintro v435 w434 ⟨G431, r436, hG432, rfl, H433⟩
        refine wl_nil (hN _ _ ?_)
        refine any_alls [2] ⟨any_ops (m' := 23) fun Q' hN => ?_, trivial⟩
        refine wl_loadd H433 (i := 5) rfl lTPkt_Code (dInt .u8) ty5 rfl ?_
        refine wl_nil (hN _ _ ?_)
        exact hM404 _ _ ⟨_, _, r436, frame_eq [(4, (pt b9)), (7, (pt b19)), (16, (.map (some r436))), (18, (.int .u8 a1.Code)), (20, (pt b19))] ⟨rfl, rfl, rfl, rfl, rfl, trivial⟩, hG432, (St.pick [(.mp r436 [⟨.int .u8 1, (.func (.func 52) #[] #[]), 0⟩, ⟨.int .u8 2, (.func (.func 53) #[] #[]), 1⟩, ⟨.int .u8 3, (.func (.func 54) #[] #[]), 2⟩, ⟨.int .u8 4, (.func (.func 54) #[] #[]), 3⟩, ⟨.int .u8 5, (.func (.func 55) #[] #[]), 4⟩, ⟨.int .u8 6, (.func (.func 56) #[] #[]), 5⟩, ⟨.int .u8 7, (.func (.func 57) #[] #[]), 6⟩, ⟨.int .u8 8, (.func (.func 58) #[] #[]), 7⟩, ⟨.int .u8 9, (.func (.func 59) #[] #[]), 8⟩, ⟨.int .u8 10, (.func (.func 60) #[] #[]), 9⟩, ⟨.int .u8 11, (.func (.func 60) #[] #[]), 10⟩] 11), (.box b19 63 (kTnego_workV.at_ (Tnego_workV.mk x25 (.slice A28 x26.length c29) (.slice A33 x31.length c34) x36))), (.row kTPkt g27 A28 c29 32 x26), (.row kI g32 A33 c34 3 x31), (.box b9 29 (kTNego.at_ zTNego)), (.box b5 32 (kTPkt.at_ a1)), (.box b1 29 (kTNego.at_ a0))] [(.box b9 29 (kTNego.at_ zTNego)), (.box b19 63 (kTnego_workV.at_ (Tnego_workV.mk x25 (.slice A28 x26.length c29) (.slice A33 x31.length c34) x36))), (.row kTPkt g27 A28 c29 32 x26), (.row kI g32 A33 c34 3 x31), (.mp r436 [⟨.int .u8 1, (.func (.func 52) #[] #[]), 0⟩, ⟨.int .u8 2, (.func (.func 53) #[] #[]), 1⟩, ⟨.int .u8 3, (.func (.func 54) #[] #[]), 2⟩, ⟨.int .u8 4, (.func (.func 54) #[] #[]), 3⟩, ⟨.int .u8 5, (.func (.func 55) #[] #[]), 4⟩, ⟨.int .u8 6, (.func (.func 56) #[] #[]), 5⟩, ⟨.int .u8 7, (.func (.func 57) #[] #[]), 6⟩, ⟨.int .u8 8, (.func (.func 58) #[] #[]), 7⟩, ⟨.int .u8 9, (.func (.func 59) #[] #[]), 8⟩, ⟨.int .u8 10, (.func (.func 60) #[] #[]), 9⟩, ⟨.int .u8 11, (.func (.func 60) #[] #[]), 10⟩] 11)] [4, 1, 2, 3, 0] H433 (by decide) rfl)⟩
       ·refine any_ops (m' := 22) fun Q' hN => ?_
        refine wl_loadd H311 (i := 4) rfl lTPkt_Code (dInt .u8) ty5 rfl ?_
        refine wl_nil (hN _ _ ?_)
        refine any_alls [0] ⟨any_ops (m' := 23) fun Q' hN => ?_, trivial⟩
        refine wl_call (vs := []) en36 rfl (nego_codes_ok hc H311 hr313) ?_
        rintro v442 w441 ⟨G438, r443, hG439, rfl, H440⟩
        refine wl_nil (hN _ _ ?_)
        exact hM404 _ _ ⟨_, _, r443, frame_eq [(4, (pt b9)), (7, (pt b19)), (16, (.map (some r443))), (18, (.int .u8 a1.Code)), (20, (pt b19))] ⟨rfl, rfl, rfl, rfl, rfl, trivial⟩, hG439, (St.pick [(.mp r443 [⟨.int .u8 1, (.func (.func 52) #[] #[]), 0⟩, ⟨.int .u8 2, (.func (.func 53) #[] #[]), 1⟩, ⟨.int .u8 3, (.func (.func 54) #[] #[]), 2⟩, ⟨.int .u8 4, (.func (.func 54) #[] #[]), 3⟩, ⟨.int .u8 5, (.func (.func 55) #[] #[]), 4⟩, ⟨.int .u8 6, (.func (.func 56) #[] #[]), 5⟩, ⟨.int .u8 7, (.func (.func 57) #[] #[]), 6⟩, ⟨.int .u8 8, (.func (.func 58) #[] #[]), 7⟩, ⟨.int .u8 9, (.func (.func 59) #[] #[]), 8⟩, ⟨.int .u8 10, (.func (.func 60) #[] #[]), 9⟩, ⟨.int .u8 11, (.func (.func 60) #[] #[]), 10⟩] 11), (.box b19 63 (kTnego_workV.at_ (Tnego_workV.mk x25 (.slice A28 x26.length c29) (.slice A33 x31.length c34) x36))), (.row kTPkt g27 A28 c29 32 x26), (.row kI g32 A33 c34 3 x31), (.box b9 29 (kTNego.at_ zTNego)), (.box b5 32 (kTPkt.at_ a1)), (.box b1 29 (kTNego.at_ a0))] [(.box b9 29 (kTNego.at_ zTNego)), (.box b19 63 (kTnego_workV.at_ (Tnego_workV.mk x25 (.slice A28 x26.length c29) (.slice A33 x31.length c34) x36))), (.row kTPkt g27 A28 c29 32 x26), (.row kI g32 A33 c34 3 x31), (.mp r443 [⟨.int .u8 1, (.func (.func 52) #[] #[]), 0⟩, ⟨.int .u8 2, (.func (.func 53) #[] #[]), 1⟩, ⟨.int .u8 3, (.func (.func 54) #[] #[]), 2⟩, ⟨.int .u8 4, (.func (.func 54) #[] #[]), 3⟩, ⟨.int .u8 5, (.func (.func 55) #[] #[]), 4⟩, ⟨.int .u8 6, (.func (.func 56) #[] #[]), 5⟩, ⟨.int .u8 7, (.func (.func 57) #[] #[]), 6⟩, ⟨.int .u8 8, (.func (.func 58) #[] #[]), 7⟩, ⟨.int .u8 9, (.func (.func 59) #[] #[]), 8⟩, ⟨.int .u8 10, (.func (.func 60) #[] #[]), 9⟩, ⟨.int .u8 11, (.func (.func 60) #[] #[]), 10⟩] 11)] [4, 1, 2, 3, 0] H440 (by decide) rfl)⟩
      ·replace hF := ifF hF hb383
       rcases bcases (a1.Code == 3) with hb445 | hb445
       ·replace hF := ifT hF hb445
        obtain ⟨r446, hr447, hF⟩ := bindS hF
        refine any_memo (fuel := 2) (m := 23) (fun a w => ∃ (T0 : Fr) (G1 : Ghost) (r470 : Nat), a = mk 45 (upds T0 [(4, (pt b9)), (7, (pt b19)), (16, (.map (some r470))), (18, (.int .u8 a1.Code)), (20, (pt b19))]) ∧ GLe G277 G1 ∧ St c G1 w ((.box b9 29 (kTNego.at_ zTNego)) :: (.box b19 63 (kTnego_workV.at_ (Tnego_workV.mk x25 (.slice A28 x26.length c29) (.slice A33 x31.length c34) x36))) :: (.row kTPkt g27 A28 c29 32 x26) :: (.row kI g32 A33 c34 3 x31) :: (.mp r470 [⟨.int .u8 1, (.func (.func 52) #[] #[]), 0⟩, ⟨.int .u8 2, (.func (.func 53) #[] #[]), 1⟩, ⟨.int .u8 3, (.func (.func 54) #[] #[]), 2⟩, ⟨.int .u8 4, (.func (.func 54) #[] #[]), 3⟩, ⟨.int .u8 5, (.func (.func 55) #[] #[]), 4⟩, ⟨.int .u8 6, (.func (.func 56) #[] #[]), 5⟩, ⟨.int .u8 7, (.func (.func 57) #[] #[]), 6⟩, ⟨.int .u8 8, (.func (.func 58) #[] #[]), 7⟩, ⟨.int .u8 9, (.func (.func 59) #[] #[]), 8⟩, ⟨.int .u8 10, (.func (.func 60) #[] #[]), 9⟩, ⟨.int .u8 11, (.func (.func 60) #[] #[]), 10⟩] 11) :: σ)) ?_ ?_
        ·rintro a w ⟨T0, G469, r470, rfl, hG467, H468⟩
         refine any_alls [3] ⟨any_ops (m' := 31) fun Q' hN => ?_, trivial⟩
         refine wl_lookup (key := (.int .u8 a1.Code)) (val := (.func (.func 54) #[] #[])) (ok := true) H468 (i := 4) rfl mt73 un5 rfl rfl (by simp [Go.MapKept.IsKey]) ⟨_, (fnd_no hb321 (fnd_no hb383 (fnd_yes hb445))), .inl ⟨_, rfl, rfl⟩⟩ ?_
         refine wl_nil (hN _ _ ?_)
         refine any_alls [5] ⟨any_ops (m' := 63) fun Q' hN => ?_, trivial⟩
         refine wl_callv (first := []) (captured := []) (vs := [(pt b19)]) en54 rfl rfl (nego_work_nak_ok hc (St.pick [(.box b9 29 (kTNego.at_ zTNego)), (.box b19 63 (kTnego_workV.at_ (Tnego_workV.mk x25 (.slice A28 x26.length c29) (.slice A33 x31.length c34) x36))), (.row kTPkt g27 A28 c29 32 x26), (.row kI g32 A33 c34 3 x31), (.mp r470 [⟨.int .u8 1, (.func (.func 52) #[] #[]), 0⟩, ⟨.int .u8 2, (.func (.func 53) #[] #[]), 1⟩, ⟨.int .u8 3, (.func (.func 54) #[] #[]), 2⟩, ⟨.int .u8 4, (.func (.func 54) #[] #[]), 3⟩, ⟨.int .u8 5, (.func (.func 55) #[] #[]), 4⟩, ⟨.int .u8 6, (.func (.func 56) #[] #[]), 5⟩, ⟨.int .u8 7, (.func (.func 57) #[] #[]), 6⟩, ⟨.int .u8 8, (.func (.func 58) #[] #[]), 7⟩, ⟨.int .u8 9, (.func (.func 59) #[] #[]), 8⟩, ⟨.int .u8 10, (.func (.func 60) #[] #[]), 9⟩, ⟨.int .u8 11, (.func (.func 60) #[] #[]), 10⟩] 11)] [(.box b19 63 (kTnego_workV.at_ (Tnego_workV.mk x25 (.slice A28 x26.length c29) (.slice A33 x31.length c34) x36))), (.row kTPkt g27 A28 c29 32 x26), (.row kI g32 A33 c34 3 x31), (.box b9 29 (kTNego.at_ zTNego)), (.mp r470 [⟨.int .u8 1, (.func (.func 52) #[] #[]), 0⟩, ⟨.int .u8 2, (.func (.func 53) #[] #[]), 1⟩, ⟨.int .u8 3, (.func (.func 54) #[] #[]), 2⟩, ⟨.int .u8 4, (.func (.func 54) #[] #[]), 3⟩, ⟨.int .u8 5, (.func (.func 55) #[] #[]), 4⟩, ⟨.int .u8 6, (.func (.func 56) #[] #[]), 5⟩, ⟨.int .u8 7, (.func (.func 57) #[] #[]), 6⟩, ⟨.int .u8 8, (.func (.func 58) #[] #[]), 7⟩, ⟨.int .u8 9, (.func (.func 59) #[] #[]), 8⟩, ⟨.int .u8 10, (.func (.func 60) #[] #[]), 9⟩, ⟨.int .u8 11, (.func (.func 60) #[] #[]), 10⟩] 11)] [1, 2, 3, 0, 4] H468 (by decide) rfl) hr447) ?_
         rintro v486 w485 ⟨G482, g487, A488, c489, g490, A491, c492, hG483, rfl, H484⟩
         refine wl_nil (hN _ _ ?_)
         refine any_end ?_
         refine blk_n ?_
         refine then_n ?_
         exact ⟨_, _, r446.1, r446.2.1, r446.2.2.1, r446.2.2.2, g487, A488, c489, g490, A491, c492, frame_eq [(4, (pt b9)), (7, (pt b19))] ⟨rfl, rfl, trivial⟩, ((hG278.trans hG467).trans hG483), (St.pick [(.box b19 63 (kTnego_workV.at_ (Tnego_workV.mk r446.1 (.slice A488 r446.2.1.length c489) (.slice A491 r446.2.2.1.length c492) r446.2.2.2))), (.row kTPkt g487 A488 c489 32 r446.2.1), (.row kI g490 A491 c492 3 r446.2.2.1), (.box b9 29 (kTNego.at_ zTNego)), (.mp r470 [⟨.int .u8 1, (.func (.func 52) #[] #[]), 0⟩, ⟨.int .u8 2, (.func (.func 53) #[] #[]), 1⟩, ⟨.int .u8 3, (.func (.func 54) #[] #[]), 2⟩, ⟨.int .u8 4, (.func (.func 54) #[] #[]), 3⟩, ⟨.int .u8 5, (.func (.func 55) #[] #[]), 4⟩, ⟨.int .u8 6, (.func (.func 56) #[] #[]), 5⟩, ⟨.int .u8 7, (.func (.func 57) #[] #[]), 6⟩, ⟨.int .u8 8, (.func (.func 58) #[] #[]), 7⟩, ⟨.int .u8 9, (.func (.func 59) #[] #[]), 8⟩, ⟨.int .u8 10, (.func (.func 60) #[] #[]), 9⟩, ⟨.int .u8 11, (.func (.func 60) #[] #[]), 10⟩] 11)] [(.box b19 63 (kTnego_workV.at_ (Tnego_workV.mk r446.1 (.slice A488 r446.2.1.length c489) (.slice A491 r446.2.2.1.length c492) r446.2.2.2))), (.row kTPkt g487 A488 c489 32 r446.2.1), (.row kI g490 A491 c492 3 r446.2.2.1), (.box b9 29 (kTNego.at_ zTNego))] [0, 1, 2, 3] H484 (by decide) rfl), hF⟩
        intro hM466
        refine any_rn (i := 1) (m' := 2) rfl (rn_field fo32_0 rfl) hPF hns ?_
        refine any_rn (i := 4) (m' := 18) rfl (rn_pure (pt b19) rfl) hPF hns ?_
        refine any_alls [0, 2] ⟨?_, ?_, trivial⟩
        ·refine any_ops (m' := 19) fun Q' hN => ?_
         refine wl_call (vs := []) en36 rfl (nego_codes_ok hc H311 hr313) ?_
         rintro v497 w496 ⟨G493, r498, hG494, rfl, H495⟩
         refine wl_nil (hN _ _ ?_)
         refine any_alls [2] ⟨any_ops (m' := 23) fun Q' hN => ?_, trivial⟩
         refine wl_loadd H495 (i := 5) rfl lTPkt_Code (dInt .u8) ty5 rfl ?_
         refine wl_nil (hN _ _ ?_)
         exact hM466 _ _ ⟨_, _, r498, frame_eq [(4, (pt b9)), (7, (pt b19)), (16, (.map (some r498))), (18, (.int .u8 a1.Code)), (20, (pt b19))] ⟨rfl, rfl, rfl, rfl, rfl, trivial⟩, hG494, (St.pick [(.mp r498 [⟨.int .u8 1, (.func (.func 52) #[] #[]), 0⟩, ⟨.int .u8 2, (.func (.func 53) #[] #[]), 1⟩, ⟨.int .u8 3, (.func (.func 54) #[] #[]), 2⟩, ⟨.int .u8 4, (.func (.func 54) #[] #[]), 3⟩, ⟨.int .u8 5, (.func (.func 55) #[] #[]), 4⟩, ⟨.int .u8 6, (.func (.func 56) #[] #[]), 5⟩, ⟨.int .u8 7, (.func (.func 57) #[] #[]), 6⟩, ⟨.int .u8 8, (.func (.func 58) #[] #[]), 7⟩, ⟨.int .u8 9, (.func (.func 59) #[] #[]), 8⟩, ⟨.int .u8 10, (.func (.func 60) #[] #[]), 9⟩, ⟨.int .u8 11, (.func (.func 60) #[] #[]), 10⟩] 11), (.box b19 63 (kTnego_workV.at_ (Tnego_workV.mk x25 (.slice A28 x26.length c29) (.slice A33 x31.length c34) x36))), (.row kTPkt g27 A28 c29 32 x26), (.row kI g32 A33 c34 3 x31), (.box b9 29 (kTNego.at_ zTNego)), (.box b5 32 (kTPkt.at_ a1)), (.box b1 29 (kTNego.at_ a0))] [(.box b9 29 (kTNego.at_ zTNego)), (.box b19 63 (kTnego_workV.at_ (Tnego_workV.mk x25 (.slice A28 x26.length c29) (.slice A33 x31.length c34) x36))), (.row kTPkt g27 A28 c29 32 x26), (.row kI g32 A33 c34 3 x31), (.mp r498 [⟨.int .u8 1, (.func (.func 52) #[] #[]), 0⟩, ⟨.int .u8 2, (.func (.func 53) #[] #[]), 1⟩, ⟨.int .u8 3, (.func (.func 54) #[] #[]), 2⟩, ⟨.int .u8 4, (.func (.func 54) #[] #[]), 3⟩, ⟨.int .u8 5, (.func (.func 55) #[] #[]), 4⟩, ⟨.int .u8 6, (.func (.func 56) #[] #[]), 5⟩, ⟨.int .u8 7, (.func (.func 57) #[] #[]), 6⟩, ⟨.int .u8 8, (.func (.func 58) #[] #[]), 7⟩, ⟨.int .u8 9, (.func (.func 59) #[] #[]), 8⟩, ⟨.int .u8 10, (.func (.func 60) #[] #[]), 9⟩, ⟨.int .u8 11, (.func (.func 60) #[] #[]), 10⟩] 11)] [4, 1, 2, 3, 0] H495 (by decide) rfl)⟩
        ·refine any_ops (m' := 22) fun Q' hN => ?_
         refine wl_loadd H311 (i := 4) rfl lTPkt_Code (dInt .u8) ty5 rfl ?_
         refine wl_nil (hN _ _ ?_)
         refine any_alls [0] ⟨any_ops (m' := 23) fun Q' hN => ?_, trivial⟩
         refine wl_call (vs := []) en36 rfl (nego_codes_ok hc H311 hr313) ?_
         rintro v504 w503 ⟨G500, r505, hG501, rfl, H502⟩
         refine wl_nil (hN _ _ ?_)
         exact hM466 _ _ ⟨_, _, r505, frame_eq [(4, (pt b9)), (7, (pt b19)), (16, (.map (some r505))), (18, (.int .u8 a1.Code)), (20, (pt b19))] ⟨rfl, rfl, rfl, rfl, rfl, trivial⟩, hG501, (St.pick [(.mp r505 [⟨.int .u8 1, (.func (.func 52) #[] #[]), 0⟩, ⟨.int .u8 2, (.func (.func 53) #[] #[]), 1⟩, ⟨.int .u8 3, (.func (.func 54) #[] #[]), 2⟩, ⟨.int .u8 4, (.func (.func 54) #[] #[]), 3⟩, ⟨.int .u8 5, (.func (.func 55) #[] #[]), 4⟩, ⟨.int .u8 6, (.func (.func 56) #[] #[]), 5⟩, ⟨.int .u8 7, (.func (.func 57) #[] #[]), 6⟩, ⟨.int .u8 8, (.func (.func 58) #[] #[]), 7⟩, ⟨.int .u8 9, (.func (.func 59) #[] #[]), 8⟩, ⟨.int .u8 10, (.func (.func 60) #[] #[]), 9⟩, ⟨.int .u8 11, (.func (.func 60) #[] #[]), 10⟩] 11), (.box b19 63 (kTnego_workV.at_ (Tnego_workV.mk x25 (.slice A28 x26.length c29) (.slice A33 x31.length c34) x36))), (.row kTPkt g27 A28 c29 32 x26), (.row kI g32 A33 c34 3 x31), (.box b9 29 (kTNego.at_ zTNego)), (.box b5 32 (kTPkt.at_ a1)), (.box b1 29 (kTNego.at_ a0))] [(.box b9 29 (kTNego.at_ zTNego)), (.box b19 63 (kTnego_workV.at_ (Tnego_workV.mk x25 (.slice A28 x26.length c29) (.slice A33 x31.length c34) x36))), (.row kTPkt g27 A28 c29 32 x26), (.row kI g32 A33 c34 3 x31), (.mp r505 [⟨.int .u8 1, (.func (.func 52) #[] #[]), 0⟩, ⟨.int .u8 2, (.func (.func 53) #[] #[]), 1⟩, ⟨.int .u8 3, (.func (.func 54) #[] #[]), 2⟩, ⟨.int .u8 4, (.func (.func 54) #[] #[]), 3⟩, ⟨.int .u8 5, (.func (.func 55) #[] #[]), 4⟩, ⟨.int .u8 6, (.func (.func 56) #[] #[]), 5⟩, ⟨.int .u8 7, (.func (.func 57) #[] #[]), 6⟩, ⟨.int .u8 8, (.func (.func 58) #[] #[]), 7⟩, ⟨.int .u8 9, (.func (.func 59) #[] #[]), 8⟩, ⟨.int .u8 10, (.func (.func 60) #[] #[]), 9⟩, ⟨.int .u8 11, (.func (.func 60) #[] #[]), 10⟩] 11)] [4, 1, 2, 3, 0] H502 (by decide) rfl)⟩
       ·replace hF := ifF hF hb445
        rcases bcases (a1.Code == 4) with hb507 | hb507
        ·replace hF := ifT hF hb507
         obtain ⟨r508, hr509, hF⟩ := bindS hF
         refine any_memo (fuel := 2) (m := 23) (fun a w => ∃ (T0 : Fr) (G1 : Ghost) (r532 : Nat), a = mk 45 (upds T0 [(4, (pt b9)), (7, (pt b19)), (16, (.map (some r532))), (18, (.int .u8 a1.Code)), (20, (pt b19))]) ∧ GLe G277 G1 ∧ St c G1 w ((.box b9 29 (kTNego.at_ zTNego)) :: (.box b19 63 (kTnego_workV.at_ (Tnego_workV.mk x25 (.slice A28 x26.length c29) (.slice A33 x31.length c34) x36))) :: (.row kTPkt g27 A28 c29 32 x26) :: (.row kI g32 A33 c34 3 x31) :: (.mp r532 [⟨.int .u8 1, (.func (.func 52) #[] #[]), 0⟩, ⟨.int .u8 2, (.func (.func 53) #[] #[]), 1⟩, ⟨.int .u8 3, (.func (.func 54) #[] #[]), 2⟩, ⟨.int .u8 4, (.func (.func 54) #[] #[]), 3⟩, ⟨.int .u8 5, (.func (.func 55) #[] #[]), 4⟩, ⟨.int .u8 6, (.func (.func 56) #[] #[]), 5⟩, ⟨.int .u8 7, (.func (.func 57) #[] #[]), 6⟩, ⟨.int .u8 8, (.func (.func 58) #[] #[]), 7⟩, ⟨.int .u8 9, (.func (.func 59) #[] #[]), 8⟩, ⟨.int .u8 10, (.func (.func 60) #[] #[]), 9⟩, ⟨.int .u8 11, (.func (.func 60) #[] #[]), 10⟩] 11) :: σ)) ?_ ?_
         ·rintro a w ⟨T0, G531, r532, rfl, hG529, H530⟩
          refine any_alls [3] ⟨any_ops (m' := 31) fun Q' hN => ?_, trivial⟩
          refine wl_lookup (key := (.int .u8 a1.Code)) (val := (.func (.func 54) #[] #[])) (ok := true) H530 (i := 4) rfl mt73 un5 rfl rfl (by simp [Go.MapKept.IsKey]) ⟨_, (fnd_no hb321 (fnd_no hb383 (fnd_no hb445 (fnd_yes hb507)))), .inl ⟨_, rfl, rfl⟩⟩ ?_
          refine wl_nil (hN _ _ ?_)
          refine any_alls [5] ⟨any_ops (m' := 63) fun Q' hN => ?_, trivial⟩
          refine wl_callv (first := []) (captured := []) (vs := [(pt b19)]) en54 rfl rfl (nego_work_nak_ok hc (St.pick [(.box b9 29 (kTNego.at_ zTNego)), (.box b19 63 (kTnego_workV.at_ (Tnego_workV.mk x25 (.slice A28 x26.length c29) (.slice A33 x31.length c34) x36))), (.row kTPkt g27 A28 c29 32 x26), (.row kI g32 A33 c34 3 x31), (.mp r532 [⟨.int .u8 1, (.func (.func 52) #[] #[]), 0⟩, ⟨.int .u8 2, (.func (.func 53) #[] #[]), 1⟩, ⟨.int .u8 3, (.func (.func 54) #[] #[]), 2⟩, ⟨.int .u8 4, (.func (.func 54) #[] #[]), 3⟩, ⟨.int .u8 5, (.func (.func 55) #[] #[]), 4⟩, ⟨.int .u8 6, (.func (.func 56) #[] #[]), 5⟩, ⟨.int .u8 7, (.func (.func 57) #[] #[]), 6⟩, ⟨.int .u8 8, (.func (.func 58) #[] #[]), 7⟩, ⟨.int .u8 9, (.func (.func 59) #[] #[]), 8⟩, ⟨.int .u8 10, (.func (.func 60) #[] #[]), 9⟩, ⟨.int .u8 11, (.func (.func 60) #[] #[]), 10⟩] 11)] [(.box b19 63 (kTnego_workV.at_ (Tnego_workV.mk x25 (.slice A28 x26.length c29) (.slice A33 x31.length c34) x36))), (.row kTPkt g27 A28 c29 32 x26), (.row kI g32 A33 c34 3 x31), (.box b9 29 (kTNego.at_ zTNego)), (.mp r532 [⟨.int .u8 1, (.func (.func 52) #[] #[]), 0⟩, ⟨.int .u8 2, (.func (.func 53) #[] #[]), 1⟩, ⟨.int .u8 3, (.func (.func 54) #[] #[]), 2⟩, ⟨.int .u8 4, (.func (.func 54) #[] #[]), 3⟩, ⟨.int .u8 5, (.func (.func 55) #[] #[]), 4⟩, ⟨.int .u8 6, (.func (.func 56) #[] #[]), 5⟩, ⟨.int .u8 7, (.func (.func 57) #[] #[]), 6⟩, ⟨.int .u8 8, (.func (.func 58) #[] #[]), 7⟩, ⟨.int .u8 9, (.func (.func 59) #[] #[]), 8⟩, ⟨.int .u8 10, (.func (.func 60) #[] #[]), 9⟩, ⟨.int .u8 11, (.func (.func 60) #[] #[]), 10⟩] 11)] [1, 2, 3, 0, 4] H530 (by decide) rfl) hr509) ?_
          rintro v548 w547 ⟨G544, g549, A550, c551, g552, A553, c554, hG545, rfl, H546⟩
          refine wl_nil (hN _ _ ?_)
          refine any_end ?_
          refine blk_n ?_
          refine then_n ?_
          exact ⟨_, _, r508.1, r508.2.1, r508.2.2.1, r508.2.2.2, g549, A550, c551, g552, A553, c554, frame_eq [(4, (pt b9)), (7, (pt b19))] ⟨rfl, rfl, trivial⟩, ((hG278.trans hG529).trans hG545), (St.pick [(.box b19 63 (kTnego_workV.at_ (Tnego_workV.mk r508.1 (.slice A550 r508.2.1.length c551) (.slice A553 r508.2.2.1.length c554) r508.2.2.2))), (.row kTPkt g549 A550 c551 32 r508.2.1), (.row kI g552 A553 c554 3 r508.2.2.1), (.box b9 29 (kTNego.at_ zTNego)), (.mp r532 [⟨.int .u8 1, (.func (.func 52) #[] #[]), 0⟩, ⟨.int .u8 2, (.func (.func 53) #[] #[]), 1⟩, ⟨.int .u8 3, (.func (.func 54) #[] #[]), 2⟩, ⟨.int .u8 4, (.func (.func 54) #[] #[]), 3⟩, ⟨.int .u8 5, (.func (.func 55) #[] #[]), 4⟩, ⟨.int .u8 6, (.func (.func 56) #[] #[]), 5⟩, ⟨.int .u8 7, (.func (.func 57) #[] #[]), 6⟩, ⟨.int .u8 8, (.func (.func 58) #[] #[]), 7⟩, ⟨.int .u8 9, (.func (.func 59) #[] #[]), 8⟩, ⟨.int .u8 10, (.func (.func 60) #[] #[]), 9⟩, ⟨.int .u8 11, (.func (.func 60) #[] #[]), 10⟩] 11)] [(.box b19 63 (kTnego_workV.at_ (Tnego_workV.mk r508.1 (.slice A550 r508.2.1.length c551) (.slice A553 r508.2.2.1.length c554) r508.2.2.2))), (.row kTPkt g549 A550 c551 32 r508.2.1), (.row kI g552 A553 c554 3 r508.2.2.1), (.box b9 29 (kTNego.at_ zTNego))] [0, 1, 2, 3] H546 (by decide) rfl), hF⟩
         intro hM528
         refine any_rn (i := 1) (m' := 2) rfl (rn_field fo32_0 rfl) hPF hns ?_
         refine any_rn (i := 4) (m' := 18) rfl (rn_pure (pt b19) rfl) hPF hns ?_
         refine any_alls [0, 2] ⟨?_, ?_, trivial⟩
         ·refine any_ops (m' := 19) fun Q' hN => ?_
          refine wl_call (vs := []) en36 rfl (nego_codes_ok hc H311 hr313) ?_
          rintro v559 w558 ⟨G555, r560, hG556, rfl, H557⟩
          refine wl_nil (hN _ _ ?_)
          refine any_alls [2] ⟨any_ops (m' := 23) fun Q' hN => ?_, trivial⟩
          refine wl_loadd H557 (i := 5) rfl lTPkt_Code (dInt .u8) ty5 rfl ?_
          refine wl_nil (hN _ _ ?_)
          exact hM528 _ _ ⟨_, _, r560, frame_eq [(4, (pt b9)), (7, (pt b19)), (16, (.map (some r560))), (18, (.int .u8 a1.Code)), (20, (pt b19))] ⟨rfl, rfl, rfl, rfl, rfl, trivial⟩, hG556, (St.pick [(.mp r560 [⟨.int .u8 1, (.func (.func 52) #[] #[]), 0⟩, ⟨.int .u8 2, (.func (.func 53) #[] #[]), 1⟩, ⟨.int .u8 3, (.func (.func 54) #[] #[]), 2⟩, ⟨.int .u8 4, (.func (.func 54) #[] #[]), 3⟩, ⟨.int .u8 5, (.func (.func 55) #[] #[]), 4⟩, ⟨.int .u8 6, (.func (.func 56) #[] #[]), 5⟩, ⟨.int .u8 7, (.func (.func 57) #[] #[]), 6⟩, ⟨.int .u8 8, (.func (.func 58) #[] #[]), 7⟩, ⟨.int .u8 9, (.func (.func 59) #[] #[]), 8⟩, ⟨.int .u8 10, (.func (.func 60) #[] #[]), 9⟩, ⟨.int .u8 11, (.func (.func 60) #[] #[]), 10⟩] 11), (.box b19 63 (kTnego_workV.at_ (Tnego_workV.mk x25 (.slice A28 x26.length c29) (.slice A33 x31.length c34) x36))), (.row kTPkt g27 A28 c29 32 x26), (.row kI g32 A33 c34 3 x31), (.box b9 29 (kTNego.at_ zTNego)), (.box b5 32 (kTPkt.at_ a1)), (.box b1 29 (kTNego.at_ a0))] [(.box b9 29 (kTNego.at_ zTNego)), (.box b19 63 (kTnego_workV.at_ (Tnego_workV.mk x25 (.slice A28 x26.length c29) (.slice A33 x31.length c34) x36))), (.row kTPkt g27 A28 c29 32 x26), (.row kI g32 A33 c34 3 x31), (.mp r560 [⟨.int .u8 1, (.func (.func 52) #[] #[]), 0⟩, ⟨.int .u8 2, (.func (.func 53) #[] #[]), 1⟩, ⟨.int .u8 3, (.func (.func 54) #[] #[]), 2⟩, ⟨.int .u8 4, (.func (.func 54) #[] #[]), 3⟩, ⟨.int .u8 5, (.func (.func 55) #[] #[]), 4⟩, ⟨.int .u8 6, (.func (.func 56) #[] #[]), 5⟩, ⟨.int .u8 7, (.func (.func 57) #[] #[]), 6⟩, ⟨.int .u8 8, (.func (.func 58) #[] #[]), 7⟩, ⟨.int .u8 9, (.func (.func 59) #[] #[]), 8⟩, ⟨.int .u8 10, (.func (.func 60) #[] #[]), 9⟩, ⟨.int .u8 11, (.func (.func 60) #[] #[]), 10⟩] 11)] [4, 1, 2, 3, 0] H557 (by decide) rfl)⟩
         ·refine any_ops (m' := 22) fun Q' hN => ?_
          refine wl_loadd H311 (i := 4) rfl lTPkt_Code (dInt .u8) ty5 rfl ?_
          refine wl_nil (hN _ _ ?_)
          refine any_alls [0] ⟨any_ops (m' := 23) fun Q' hN => ?_, trivial⟩
          refine wl_call (vs := []) en36 rfl (nego_codes_ok hc H311 hr313) ?_
          rintro v566 w565 ⟨G562, r567, hG563, rfl, H564⟩
          refine wl_nil (hN _ _ ?_)
          exact hM528 _ _ ⟨_, _, r567, frame_eq [(4, (pt b9)), (7, (pt b19)), (16, (.map (some r567))), (18, (.int .u8 a1.Code)), (20, (pt b19))] ⟨rfl, rfl, rfl, rfl, rfl, trivial⟩, hG563, (St.pick [(.mp r567 [⟨.int .u8 1, (.func (.func 52) #[] #[]), 0⟩, ⟨.int .u8 2, (.func (.func 53) #[] #[]), 1⟩, ⟨.int .u8 3, (.func (.func 54) #[] #[]), 2⟩, ⟨.int .u8 4, (.func (.func 54) #[] #[]), 3⟩, ⟨.int .u8 5, (.func (.func 55) #[] #[]), 4⟩, ⟨.int .u8 6, (.func (.func 56) #[] #[]), 5⟩, ⟨.int .u8 7, (.func (.func 57) #[] #[]), 6⟩, ⟨.int .u8 8, (.func (.func 58) #[] #[]), 7⟩, ⟨.int .u8 9, (.func (.func 59) #[] #[]), 8⟩, ⟨.int .u8 10, (.func (.func 60) #[] #[]), 9⟩, ⟨.int .u8 11, (.func (.func 60) #[] #[]), 10⟩] 11), (.box b19 63 (kTnego_workV.at_ (Tnego_workV.mk x25 (.slice A28 x26.length c29) (.slice A33 x31.length c34) x36))), (.row kTPkt g27 A28 c29 32 x26), (.row kI g32 A33 c34 3 x31), (.box b9 29 (kTNego.at_ zTNego)), (.box b5 32 (kTPkt.at_ a1)), (.box b1 29 (kTNego.at_ a0))] [(.box b9 29 (kTNego.at_ zTNego)), (.box b19 63 (kTnego_workV.at_ (Tnego_workV.mk x25 (.slice A28 x26.length c29) (.slice A33 x31.length c34) x36))), (.row kTPkt g27 A28 c29 32 x26), (.row kI g32 A33 c34 3 x31), (.mp r567 [⟨.int .u8 1, (.func (.func 52) #[] #[]), 0⟩, ⟨.int .u8 2, (.func (.func 53) #[] #[]), 1⟩, ⟨.int .u8 3, (.func (.func 54) #[] #[]), 2⟩, ⟨.int .u8 4, (.func (.func 54) #[] #[]), 3⟩, ⟨.int .u8 5, (.func (.func 55) #[] #[]), 4⟩, ⟨.int .u8 6, (.func (.func 56) #[] #[]), 5⟩, ⟨.int .u8 7, (.func (.func 57) #[] #[]), 6⟩, ⟨.int .u8 8, (.func (.func 58) #[] #[]), 7⟩, ⟨.int .u8 9, (.func (.func 59) #[] #[]), 8⟩, ⟨.int .u8 10, (.func (.func 60) #[] #[]), 9⟩, ⟨.int .u8 11, (.func (.func 60) #[] #[]), 10⟩] 11)] [4, 1, 2, 3, 0] H564 (by decide) rfl)⟩
        ·replace hF := ifF hF hb507
         rcases bcases (a1.Code == 5) with hb569 | hb569
         ·replace hF := ifT hF hb569
          obtain ⟨r570, hr571, hF⟩ := bindS hF
          refine any_memo (fuel := 2) (m := 23) (fun a w => ∃ (T0 : Fr) (G1 : Ghost) (r594 : Nat), a = mk 45 (upds T0 [(4, (pt b9)), (7, (pt b19)), (16, (.map (some r594))), (18, (.int .u8 a1.Code)), (20, (pt b19))]) ∧ GLe G277 G1 ∧ St c G1 w ((.box b9 29 (kTNego.at_ zTNego)) :: (.box b19 63 (kTnego_workV.at_ (Tnego_workV.mk x25 (.slice A28 x26.length c29) (.slice A33 x31.length c34) x36))) :: (.row kTPkt g27 A28 c29 32 x26) :: (.row kI g32 A33 c34 3 x31) :: (.mp r594 [⟨.int .u8 1, (.func (.func 52) #[] #[]), 0⟩, ⟨.int .u8 2, (.func (.func 53) #[] #[]), 1⟩, ⟨.int .u8 3, (.func (.func 54) #[] #[]), 2⟩, ⟨.int .u8 4, (.func (.func 54) #[] #[]), 3⟩, ⟨.int .u8 5, (.func (.func 55) #[] #[]), 4⟩, ⟨.int .u8 6, (.func (.func 56) #[] #[]), 5⟩, ⟨.int .u8 7, (.func (.func 57) #[] #[]), 6⟩, ⟨.int .u8 8, (.func (.func 58) #[] #[]), 7⟩, ⟨.int .u8 9, (.func (.func 59) #[] #[]), 8⟩, ⟨.int .u8 10, (.func (.func 60) #[] #[]), 9⟩, ⟨.int .u8 11, (.func (.func 60) #[] #[]), 10⟩] 11) :: σ)) ?_ ?_
          ·rintro a w ⟨T0, G593, r594, rfl, hG591, H592⟩
           refine any_alls [3] ⟨any_ops (m' := 31) fun Q' hN => ?_, trivial⟩
           refine wl_lookup (key := (.int .u8 a1.Code)) (val := (.func (.func 55) #[] #[])) (ok := true) H592 (i := 4) rfl mt73 un5 rfl rfl (by simp [Go.MapKept.IsKey]) ⟨_, (fnd_no hb321 (fnd_no hb383 (fnd_no hb445 (fnd_no hb507 (fnd_yes hb569))))), .inl ⟨_, rfl, rfl⟩⟩ ?_
           refine wl_nil (hN _ _ ?_)
           refine any_alls [5] ⟨any_ops (m' := 63) fun Q' hN => ?_, trivial⟩
           refine wl_callv (first := []) (captured := []) (vs := [(pt b19)]) en55 rfl rfl (nego_work_term_ok hc (St.pick [(.box b9 29 (kTNego.at_ zTNego)), (.box b19 63 (kTnego_workV.at_ (Tnego_workV.mk x25 (.slice A28 x26.length c29) (.slice A33 x31.length c34) x36))), (.row kTPkt g27 A28 c29 32 x26), (.row kI g32 A33 c34 3 x31), (.mp r594 [⟨.int .u8 1, (.func (.func 52) #[] #[]), 0⟩, ⟨.int .u8 2, (.func (.func 53) #[] #[]), 1⟩, ⟨.int .u8 3, (.func (.func 54) #[] #[]), 2⟩, ⟨.int .u8 4, (.func (.func 54) #[] #[]), 3⟩, ⟨.int .u8 5, (.func (.func 55) #[] #[]), 4⟩, ⟨.int .u8 6, (.func (.func 56) #[] #[]), 5⟩, ⟨.int .u8 7, (.func (.func 57) #[] #[]), 6⟩, ⟨.int .u8 8, (.func (.func 58) #[] #[]), 7⟩, ⟨.int .u8 9, (.func (.func 59) #[] #[]), 8⟩, ⟨.int .u8 10, (.func (.func 60) #[] #[]), 9⟩, ⟨.int .u8 11, (.func (.func 60) #[] #[]), 10⟩] 11)] [(.box b19 63 (kTnego_workV.at_ (Tnego_workV.mk x25 (.slice A28 x26.length c29) (.slice A33 x31.length c34) x36))), (.row kTPkt g27 A28 c29 32 x26), (.row kI g32 A33 c34 3 x31), (.box b9 29 (kTNego.at_ zTNego)), (.mp r594 [⟨.int .u8 1, (.func (.func 52) #[] #[]), 0⟩, ⟨.int .u8 2, (.func (.func 53) #[] #[]), 1⟩, ⟨.int .u8 3, (.func (.func 54) #[] #[]), 2⟩, ⟨.int .u8 4, (.func (.func 54) #[] #[]), 3⟩, ⟨.int .u8 5, (.func (.func 55) #[] #[]), 4⟩, ⟨.int .u8 6, (.func (.func 56) #[] #[]), 5⟩, ⟨.int .u8 7, (.func (.func 57) #[] #[]), 6⟩, ⟨.int .u8 8, (.func (.func 58) #[] #[]), 7⟩, ⟨.int .u8 9, (.func (.func 59) #[] #[]), 8⟩, ⟨.int .u8 10, (.func (.func 60) #[] #[]), 9⟩, ⟨.int .u8 11, (.func (.func 60) #[] #[]), 10⟩] 11)] [1, 2, 3, 0, 4] H592 (by decide) rfl) hr571) ?_
           rintro v610 w609 ⟨G606, g611, A612, c613, g614, A615, c616, hG607, rfl, H608⟩
           refine wl_nil (hN _ _ ?_)
           refine any_end ?_
           refine blk_n ?_
           refine then_n ?_
           exact ⟨_, _, r570.1, r570.2.1, r570.2.2.1, r570.2.2.2, g611, A612, c613, g614, A615, c616, frame_eq [(4, (pt b9)), (7, (pt b19))] ⟨rfl, rfl, trivial⟩, ((hG278.trans hG591).trans hG607), (St.pick [(.box b19 63 (kTnego_workV.at_ (Tnego_workV.mk r570.1 (.slice A612 r570.2.1.length c613) (.slice A615 r570.2.2.1.length c616) r570.2.2.2))), (.row kTPkt g611 A612 c613 32 r570.2.1), (.row kI g614 A615 c616 3 r570.2.2.1), (.box b9 29 (kTNego.at_ zTNego)), (.mp r594 [⟨.int .u8 1, (.func (.func 52) #[] #[]), 0⟩, ⟨.int .u8 2, (.func (.func 53) #[] #[]), 1⟩, ⟨.int .u8 3, (.func (.func 54) #[] #[]), 2⟩, ⟨.int .u8 4, (.func (.func 54) #[] #[]), 3⟩, ⟨.int .u8 5, (.func (.func 55) #[] #[]), 4⟩, ⟨.int .u8 6, (.func (.func 56) #[] #[]), 5⟩, ⟨.int .u8 7, (.func (.func 57) #[] #[]), 6⟩, ⟨.int .u8 8, (.func (.func 58) #[] #[]), 7⟩, ⟨.int .u8 9, (.func (.func 59) #[] #[]), 8⟩, ⟨.int .u8 10, (.func (.func 60) #[] #[]), 9⟩, ⟨.int .u8 11, (.func (.func 60) #[] #[]), 10⟩] 11)] [(.box b19 63 (kTnego_workV.at_ (Tnego_workV.mk r570.1 (.slice A612 r570.2.1.length c613) (.slice A615 r570.2.2.1.length c616) r570.2.2.2))), (.row kTPkt g611 A612 c613 32 r570.2.1), (.row kI g614 A615 c616 3 r570.2.2.1), (.box b9 29 (kTNego.at_ zTNego))] [0, 1, 2, 3] H608 (by decide) rfl), hF⟩
          intro hM590
          refine any_rn (i := 1) (m' := 2) rfl (rn_field fo32_0 rfl) hPF hns ?_
          refine any_rn (i := 4) (m' := 18) rfl (rn_pure (pt b19) rfl) hPF hns ?_
          refine any_alls [0, 2] ⟨?_, ?_, trivial⟩
          ·refine any_ops (m' := 19) fun Q' hN => ?_
           refine wl_call (vs := []) en36 rfl (nego_codes_ok hc H311 hr313) ?_
           rintro v621 w620 ⟨G617, r622, hG618, rfl, H619⟩
           refine wl_nil (hN _ _ ?_)
           refine any_alls [2] ⟨any_ops (m' := 23) fun Q' hN => ?_, trivial⟩
           refine wl_loadd H619 (i := 5) rfl lTPkt_Code (dInt .u8) ty5 rfl ?_
           refine wl_nil (hN _ _ ?_)
           exact hM590 _ _ ⟨_, _, r622, frame_eq [(4, (pt b9)), (7, (pt b19)), (16, (.map (some r622))), (18, (.int .u8 a1.Code)), (20, (pt b19))] ⟨rfl, rfl, rfl, rfl, rfl, trivial⟩, hG618, (St.pick [(.mp r622 [⟨.int .u8 1, (.func (.func 52) #[] #[]), 0⟩, ⟨.int .u8 2, (.func (.func 53) #[] #[]), 1⟩, ⟨.int .u8 3, (.func (.func 54) #[] #[]), 2⟩, ⟨.int .u8 4, (.func (.func 54) #[] #[]), 3⟩, ⟨.int .u8 5, (.func (.func 55) #[] #[]), 4⟩, ⟨.int .u8 6, (.func (.func 56) #[] #[]), 5⟩, ⟨.int .u8 7, (.func (.func 57) #[] #[]), 6⟩, ⟨.int .u8 8, (.func (.func 58) #[] #[]), 7⟩, ⟨.int .u8 9, (.func (.func 59) #[] #[]), 8⟩, ⟨.int .u8 10, (.func (.func 60) #[] #[]), 9⟩, ⟨.int .u8 11, (.func (.func 60) #[] #[]), 10⟩] 11), (.box b19 63 (kTnego_workV.at_ (Tnego_workV.mk x25 (.slice A28 x26.length c29) (.slice A33 x31.length c34) x36))), (.row kTPkt g27 A28 c29 32 x26), (.row kI g32 A33 c34 3 x31), (.box b9 29 (kTNego.at_ zTNego)), (.box b5 32 (kTPkt.at_ a1)), (.box b1 29 (kTNego.at_ a0))] [(.box b9 29 (kTNego.at_ zTNego)), (.box b19 63 (kTnego_workV.at_ (Tnego_workV.mk x25 (.slice A28 x26.length c29) (.slice A33 x31.length c34) x36))), (.row kTPkt g27 A28 c29 32 x26), (.row kI g32 A33 c34 3 x31), (.mp r622 [⟨.int .u8 1, (.func (.func 52) #[] #[]), 0⟩, ⟨.int .u8 2, (.func (.func 53) #[] #[]), 1⟩, ⟨.int .u8 3, (.func (.func 54) #[] #[]), 2⟩, ⟨.int .u8 4, (.func (.func 54) #[] #[]), 3⟩, ⟨.int .u8 5, (.func (.func 55) #[] #[]), 4⟩, ⟨.int .u8 6, (.func (.func 56) #[] #[]), 5⟩, ⟨.int .u8 7, (.func (.func 57) #[] #[]), 6⟩, ⟨.int .u8 8, (.func (.func 58) #[] #[]), 7⟩, ⟨.int .u8 9, (.func (.func 59) #[] #[]), 8⟩, ⟨.int .u8 10, (.func (.func 60) #[] #[]), 9⟩, ⟨.int .u8 11, (.func (.func 60) #[] #[]), 10⟩] 11)] [4, 1, 2, 3, 0] H619 (by decide) rfl)⟩
          ·refine any_ops (m' := 22) fun Q' hN => ?_
           refine wl_loadd H311 (i := 4) rfl lTPkt_Code (dInt .u8) ty5 rfl ?_
           refine wl_nil (hN _ _ ?_)
           refine any_alls [0] ⟨any_ops (m' := 23) fun Q' hN => ?_, trivial⟩
           refine wl_call (vs := []) en36 rfl (nego_codes_ok hc H311 hr313) ?_
           rintro v628 w627 ⟨G624, r629, hG625, rfl, H626⟩
           refine wl_nil (hN _ _ ?_)
           exact hM590 _ _ ⟨_, _, r629, frame_eq [(4, (pt b9)), (7, (pt b19)), (16, (.map (some r629))), (18, (.int .u8 a1.Code)), (20, (pt b19))] ⟨rfl, rfl, rfl, rfl, rfl, trivial⟩, hG625, (St.pick [(.mp r629 [⟨.int .u8 1, (.func (.func 52) #[] #[]), 0⟩, ⟨.int .u8 2, (.func (.func 53) #[] #[]), 1⟩, ⟨.int .u8 3, (.func (.func 54) #[] #[]), 2⟩, ⟨.int .u8 4, (.func (.func 54) #[] #[]), 3⟩, ⟨.int .u8 5, (.func (.func 55) #[] #[]), 4⟩, ⟨.int .u8 6, (.func (.func 56) #[] #[]), 5⟩, ⟨.int .u8 7, (.func (.func 57) #[] #[]), 6⟩, ⟨.int .u8 8, (.func (.func 58) #[] #[]), 7⟩, ⟨.int .u8 9, (.func (.func 59) #[] #[]), 8⟩, ⟨.int .u8 10, (.func (.func 60) #[] #[]), 9⟩, ⟨.int .u8 11, (.func (.func 60) #[] #[]), 10⟩] 11), (.box b19 63 (kTnego_workV.at_ (Tnego_workV.mk x25 (.slice A28 x26.length c29) (.slice A33 x31.length c34) x36))), (.row kTPkt g27 A28 c29 32 x26), (.row kI g32 A33 c34 3 x31), (.box b9 29 (kTNego.at_ zTNego)), (.box b5 32 (kTPkt.at_ a1)), (.box b1 29 (kTNego.at_ a0))] [(.box b9 29 (kTNego.at_ zTNego)), (.box b19 63 (kTnego_workV.at_ (Tnego_workV.mk x25 (.slice A28 x26.length c29) (.slice A33 x31.length c34) x36))), (.row kTPkt g27 A28 c29 32 x26), (.row kI g32 A33 c34 3 x31), (.mp r629 [⟨.int .u8 1, (.func (.func 52) #[] #[]), 0⟩, ⟨.int .u8 2, (.func (.func 53) #[] #[]), 1⟩, ⟨.int .u8 3, (.func (.func 54) #[] #[]), 2⟩, ⟨.int .u8 4, (.func (.func 54) #[] #[]), 3⟩, ⟨.int .u8 5, (.func (.func 55) #[] #[]), 4⟩, ⟨.int .u8 6, (.func (.func 56) #[] #[]), 5⟩, ⟨.int .u8 7, (.func (.func 57) #[] #[]), 6⟩, ⟨.int .u8 8, (.func (.func 58) #[] #[]), 7⟩, ⟨.int .u8 9, (.func (.func 59) #[] #[]), 8⟩, ⟨.int .u8 10, (.func (.func 60) #[] #[]), 9⟩, ⟨.int .u8 11, (.func (.func 60) #[] #[]), 10⟩] 11)] [4, 1, 2, 3, 0] H626 (by decide) rfl)⟩
         ·replace hF := ifF hF hb569
          rcases bcases (a1.Code == 6) with hb631 | hb631
          ·replace hF := ifT hF hb631
           obtain ⟨r632, hr633, hF⟩ := bindS hF
           refine any_memo (fuel := 2) (m := 23) (fun a w => ∃ (T0 : Fr) (G1 : Ghost) (r656 : Nat), a = mk 45 (upds T0 [(4, (pt b9)), (7, (pt b19)), (16, (.map (some r656))), (18, (.int .u8 a1.Code)), (20, (pt b19))]) ∧ GLe G277 G1 ∧ St c G1 w ((.box b9 29 (kTNego.at_ zTNego)) :: (.box b19 63 (kTnego_workV.at_ (Tnego_workV.mk x25 (.slice A28 x26.length c29) (.slice A33 x31.length c34) x36))) :: (.row kTPkt g27 A28 c29 32 x26) :: (.row kI g32 A33 c34 3 x31) :: (.mp r656 [⟨.int .u8 1, (.func (.func 52) #[] #[]), 0⟩, ⟨.int .u8 2, (.func (.func 53) #[] #[]), 1⟩, ⟨.int .u8 3, (.func (.func 54) #[] #[]), 2⟩, ⟨.int .u8 4, (.func (.func 54) #[] #[]), 3⟩, ⟨.int .u8 5, (.func (.func 55) #[] #[]), 4⟩, ⟨.int .u8 6, (.func (.func 56) #[] #[]), 5⟩, ⟨.int .u8 7, (.func (.func 57) #[] #[]), 6⟩, ⟨.int .u8 8, (.func (.func 58) #[] #[]), 7⟩, ⟨.int .u8 9, (.func (.func 59) #[] #[]), 8⟩, ⟨.int .u8 10, (.func (.func 60) #[] #[]), 9⟩, ⟨.int .u8 11, (.func (.func 60) #[] #[]), 10⟩] 11) :: σ)) ?_ ?_
           ·rintro a w ⟨T0, G655, r656, rfl, hG653, H654⟩
            refine any_alls [3] ⟨any_ops (m' := 31) fun Q' hN => ?_, trivial⟩
            refine wl_lookup (key := (.int .u8 a1.Code)) (val := (.func (.func 56) #[] #[])) (ok := true) H654 (i := 4) rfl mt73 un5 rfl rfl (by simp [Go.MapKept.IsKey]) ⟨_, (fnd_no hb321 (fnd_no hb383 (fnd_no hb445 (fnd_no hb507 (fnd_no hb569 (fnd_yes hb631)))))), .inl ⟨_, rfl, rfl⟩⟩ ?_
            refine wl_nil (hN _ _ ?_)
            refine any_alls [5] ⟨any_ops (m' := 63) fun Q' hN => ?_, trivial⟩
            refine wl_callv (first := []) (captured := []) (vs := [(pt b19)]) en56 rfl rfl (nego_work_termed_ok hc (St.pick [(.box b9 29 (kTNego.at_ zTNego)), (.box b19 63 (kTnego_workV.at_ (Tnego_workV.mk x25 (.slice A28 x26.length c29) (.slice A33 x31.length c34) x36))), (.row kTPkt g27 A28 c29 32 x26), (.row kI g32 A33 c34 3 x31), (.mp r656 [⟨.int .u8 1, (.func (.func 52) #[] #[]), 0⟩, ⟨.int .u8 2, (.func (.func 53) #[] #[]), 1⟩, ⟨.int .u8 3, (.func (.func 54) #[] #[]), 2⟩, ⟨.int .u8 4, (.func (.func 54) #[] #[]), 3⟩, ⟨.int .u8 5, (.func (.func 55) #[] #[]), 4⟩, ⟨.int .u8 6, (.func (.func 56) #[] #[]), 5⟩, ⟨.int .u8 7, (.func (.func 57) #[] #[]), 6⟩, ⟨.int .u8 8, (.func (.func 58) #[] #[]), 7⟩, ⟨.int .u8 9, (.func (.func 59) #[] #[]), 8⟩, ⟨.int .u8 10, (.func (.func 60) #[] #[]), 9⟩, ⟨.int .u8 11, (.func (.func 60) #[] #[]), 10⟩] 11)] [(.box b19 63 (kTnego_workV.at_ (Tnego_workV.mk x25 (.slice A28 x26.length c29) (.slice A33 x31.length c34) x36))), (.row kTPkt g27 A28 c29 32 x26), (.row kI g32 A33 c34 3 x31), (.box b9 29 (kTNego.at_ zTNego)), (.mp r656 [⟨.int .u8 1, (.func (.func 52) #[] #[]), 0⟩, ⟨.int .u8 2, (.func (.func 53) #[] #[]), 1⟩, ⟨.int .u8 3, (.func (.func 54) #[] #[]), 2⟩, ⟨.int .u8 4, (.func (.func 54) #[] #[]), 3⟩, ⟨.int .u8 5, (.func (.func 55) #[] #[]), 4⟩, ⟨.int .u8 6, (.func (.func 56) #[] #[]), 5⟩, ⟨.int .u8 7, (.func (.func 57) #[] #[]), 6⟩, ⟨.int .u8 8, (.func (.func 58) #[] #[]), 7⟩, ⟨.int .u8 9, (.func (.func 59) #[] #[]), 8⟩, ⟨.int .u8 10, (.func (.func 60) #[] #[]), 9⟩, ⟨.int .u8 11, (.func (.func 60) #[] #[]), 10⟩] 11)] [1, 2, 3, 0, 4] H654 (by decide) rfl) hr633) ?_
            rintro v672 w671 ⟨G668, g673, A674, c675, g676, A677, c678, hG669, rfl, H670⟩
            refine wl_nil (hN _ _ ?_)
            refine any_end ?_
            refine blk_n ?_
            refine then_n ?_
            exact ⟨_, _, r632.1, r632.2.1, r632.2.2.1, r632.2.2.2, g673, A674, c675, g676, A677, c678, frame_eq [(4, (pt b9)), (7, (pt b19))] ⟨rfl, rfl, trivial⟩, ((hG278.trans hG653).trans hG669), (St.pick [(.box b19 63 (kTnego_workV.at_ (Tnego_workV.mk r632.1 (.slice A674 r632.2.1.length c675) (.slice A677 r632.2.2.1.length c678) r632.2.2.2))), (.row kTPkt g673 A674 c675 32 r632.2.1), (.row kI g676 A677 c678 3 r632.2.2.1), (.box b9 29 (kTNego.at_ zTNego)), (.mp r656 [⟨.int .u8 1, (.func (.func 52) #[] #[]), 0⟩, ⟨.int .u8 2, (.func (.func 53) #[] #[]), 1⟩, ⟨.int .u8 3, (.func (.func 54) #[] #[]), 2⟩, ⟨.int .u8 4, (.func (.func 54) #[] #[]), 3⟩, ⟨.int .u8 5, (.func (.func 55) #[] #[]), 4⟩, ⟨.int .u8 6, (.func (.func 56) #[] #[]), 5⟩, ⟨.int .u8 7, (.func (.func 57) #[] #[]), 6⟩, ⟨.int .u8 8, (.func (.func 58) #[] #[]), 7⟩, ⟨.int .u8 9, (.func (.func 59) #[] #[]), 8⟩, ⟨.int .u8 10, (.func (.func 60) #[] #[]), 9⟩, ⟨.int .u8 11, (.func (.func 60) #[] #[]), 10⟩] 11)] [(.box b19 63 (kTnego_workV.at_ (Tnego_workV.mk r632.1 (.slice A674 r632.2.1.length c675) (.slice A677 r632.2.2.1.length c678) r632.2.2.2))), (.row kTPkt g673 A674 c675 32 r632.2.1), (.row kI g676 A677 c678 3 r632.2.2.1), (.box b9 29 (kTNego.at_ zTNego))] [0, 1, 2, 3] H670 (by decide) rfl), hF⟩
           intro hM652
           refine any_rn (i := 1) (m' := 2) rfl (rn_field fo32_0 rfl) hPF hns ?_
           refine any_rn (i := 4) (m' := 18) rfl (rn_pure (pt b19) rfl) hPF hns ?_
           refine any_alls [0, 2] ⟨?_, ?_, trivial⟩
           ·refine any_ops (m' := 19) fun Q' hN => ?_
            refine wl_call (vs := []) en36 rfl (nego_codes_ok hc H311 hr313) ?_
            rintro v683 w682 ⟨G679, r684, hG680, rfl, H681⟩
            refine wl_nil (hN _ _ ?_)
            refine any_alls [2] ⟨any_ops (m' := 23) fun Q' hN => ?_, trivial⟩
            refine wl_loadd H681 (i := 5) rfl lTPkt_Code (dInt .u8) ty5 rfl ?_
            refine wl_nil (hN _ _ ?_)
            exact hM652 _ _ ⟨_, _, r684, frame_eq [(4, (pt b9)), (7, (pt b19)), (16, (.map (some r684))), (18, (.int .u8 a1.Code)), (20, (pt b19))] ⟨rfl, rfl, rfl, rfl, rfl, trivial⟩, hG680, (St.pick [(.mp r684 [⟨.int .u8 1, (.func (.func 52) #[] #[]), 0⟩, ⟨.int .u8 2, (.func (.func 53) #[] #[]), 1⟩, ⟨.int .u8 3, (.func (.func 54) #[] #[]), 2⟩, ⟨.int .u8 4, (.func (.func 54) #[] #[]), 3⟩, ⟨.int .u8 5, (.func (.func 55) #[] #[]), 4⟩, ⟨.int .u8 6, (.func (.func 56) #[] #[]), 5⟩, ⟨.int .u8 7, (.func (.func 57) #[] #[]), 6⟩, ⟨.int .u8 8, (.func (.func 58) #[] #[]), 7⟩, ⟨.int .u8 9, (.func (.func 59) #[] #[]), 8⟩, ⟨.int .u8 10, (.func (.func 60) #[] #[]), 9⟩, ⟨.int .u8 11, (.func (.func 60) #[] #[]), 10⟩] 11), (.box b19 63 (kTnego_workV.at_ (Tnego_workV.mk x25 (.slice A28 x26.length c29) (.slice A33 x31.length c34) x36))), (.row kTPkt g27 A28 c29 32 x26), (.row kI g32 A33 c34 3 x31), (.box b9 29 (kTNego.at_ zTNego)), (.box b5 32 (kTPkt.at_ a1)), (.box b1 29 (kTNego.at_ a0))] [(.box b9 29 (kTNego.at_ zTNego)), (.box b19 63 (kTnego_workV.at_ (Tnego_workV.mk x25 (.slice A28 x26.length c29) (.slice A33 x31.length c34) x36))), (.row kTPkt g27 A28 c29 32 x26), (.row kI g32 A33 c34 3 x31), (.mp r684 [⟨.int .u8 1, (.func (.func 52) #[] #[]), 0⟩, ⟨.int .u8 2, (.func (.func 53) #[] #[]), 1⟩, ⟨.int .u8 3, (.func (.func 54) #[] #[]), 2⟩, ⟨.int .u8 4, (.func (.func 54) #[] #[]), 3⟩, ⟨.int .u8 5, (.func (.func 55) #[] #[]), 4⟩, ⟨.int .u8 6, (.func (.func 56) #[] #[]), 5⟩, ⟨.int .u8 7, (.func (.func 57) #[] #[]), 6⟩, ⟨.int .u8 8, (.func (.func 58) #[] #[]), 7⟩, ⟨.int .u8 9, (.func (.func 59) #[] #[]), 8⟩, ⟨.int .u8 10, (.func (.func 60) #[] #[]), 9⟩, ⟨.int .u8 11, (.func (.func 60) #[] #[]), 10⟩] 11)] [4, 1, 2, 3, 0] H681 (by decide) rfl)⟩
           ·refine any_ops (m' := 22) fun Q' hN => ?_
            refine wl_loadd H311 (i := 4) rfl lTPkt_Code (dInt .u8) ty5 rfl ?_
            refine wl_nil (hN _ _ ?_)
            refine any_alls [0] ⟨any_ops (m' := 23) fun Q' hN => ?_, trivial⟩
            refine wl_call (vs := []) en36 rfl (nego_codes_ok hc H311 hr313) ?_
            rintro v690 w689 ⟨G686, r691, hG687, rfl, H688⟩
            refine wl_nil (hN _ _ ?_)
            exact hM652 _ _ ⟨_, _, r691, frame_eq [(4, (pt b9)), (7, (pt b19)), (16, (.map (some r691))), (18, (.int .u8 a1.Code)), (20, (pt b19))] ⟨rfl, rfl, rfl, rfl, rfl, trivial⟩, hG687, (St.pick [(.mp r691 [⟨.int .u8 1, (.func (.func 52) #[] #[]), 0⟩, ⟨.int .u8 2, (.func (.func 53) #[] #[]), 1⟩, ⟨.int .u8 3, (.func (.func 54) #[] #[]), 2⟩, ⟨.int .u8 4, (.func (.func 54) #[] #[]), 3⟩, ⟨.int .u8 5, (.func (.func 55) #[] #[]), 4⟩, ⟨.int .u8 6, (.func (.func 56) #[] #[]), 5⟩, ⟨.int .u8 7, (.func (.func 57) #[] #[]), 6⟩, ⟨.int .u8 8, (.func (.func 58) #[] #[]), 7⟩, ⟨.int .u8 9, (.func (.func 59) #[] #[]), 8⟩, ⟨.int .u8 10, (.func (.func 60) #[] #[]), 9⟩, ⟨.int .u8 11, (.func (.func 60) #[] #[]), 10⟩] 11), (.box b19 63 (kTnego_workV.at_ (Tnego_workV.mk x25 (.slice A28 x26.length c29) (.slice A33 x31.length c34) x36))), (.row kTPkt g27 A28 c29 32 x26), (.row kI g32 A33 c34 3 x31), (.box b9 29 (kTNego.at_ zTNego)), (.box b5 32 (kTPkt.at_ a1)), (.box b1 29 (kTNego.at_ a0))] [(.box b9 29 (kTNego.at_ zTNego)), (.box b19 63 (kTnego_workV.at_ (Tnego_workV.mk x25 (.slice A28 x26.length c29) (.slice A33 x31.length c34) x36))), (.row kTPkt g27 A28 c29 32 x26), (.row kI g32 A33 c34 3 x31), (.mp r691 [⟨.int .u8 1, (.func (.func 52) #[] #[]), 0⟩, ⟨.int .u8 2, (.func (.func 53) #[] #[]), 1⟩, ⟨.int .u8 3, (.func (.func 54) #[] #[]), 2⟩, ⟨.int .u8 4, (.func (.func 54) #[] #[]), 3⟩, ⟨.int .u8 5, (.func (.func 55) #[] #[]), 4⟩, ⟨.int .u8 6, (.func (.func 56) #[] #[]), 5⟩, ⟨.int .u8 7, (.func (.func 57) #[] #[]), 6⟩, ⟨.int .u8 8, (.func (.func 58) #[] #[]), 7⟩, ⟨.int .u8 9, (.func (.func 59) #[] #[]), 8⟩, ⟨.int .u8 10, (.func (.func 60) #[] #[]), 9⟩, ⟨.int .u8 11, (.func (.func 60) #[] #[]), 10⟩] 11)] [4, 1, 2, 3, 0] H688 (by decide) rfl)⟩
          ·replace hF := ifF hF hb631
           rcases bcases (a1.Code == 7) with hb693 | hb693
           ·replace hF := ifT hF hb693
            obtain ⟨r694, hr695, hF⟩ := bindS hF
            refine any_memo (fuel := 2) (m := 23) (fun a w => ∃ (T0 : Fr) (G1 : Ghost) (r718 : Nat), a = mk 45 (upds T0 [(4, (pt b9)), (7, (pt b19)), (16, (.map (some r718))), (18, (.int .u8 a1.Code)), (20, (pt b19))]) ∧ GLe G277 G1 ∧ St c G1 w ((.box b9 29 (kTNego.at_ zTNego)) :: (.box b19 63 (kTnego_workV.at_ (Tnego_workV.mk x25 (.slice A28 x26.length c29) (.slice A33 x31.length c34) x36))) :: (.row kTPkt g27 A28 c29 32 x26) :: (.row kI g32 A33 c34 3 x31) :: (.mp r718 [⟨.int .u8 1, (.func (.func 52) #[] #[]), 0⟩, ⟨.int .u8 2, (.func (.func 53) #[] #[]), 1⟩, ⟨.int .u8 3, (.func (.func 54) #[] #[]), 2⟩, ⟨.int .u8 4, (.func (.func 54) #[] #[]), 3⟩, ⟨.int .u8 5, (.func (.func 55) #[] #[]), 4⟩, ⟨.int .u8 6, (.func (.func 56) #[] #[]), 5⟩, ⟨.int .u8 7, (.func (.func 57) #[] #[]), 6⟩, ⟨.int .u8 8, (.func (.func 58) #[] #[]), 7⟩, ⟨.int .u8 9, (.func (.func 59) #[] #[]), 8⟩, ⟨.int .u8 10, (.func (.func 60) #[] #[]), 9⟩, ⟨.int .u8 11, (.func (.func 60) #[] #[]), 10⟩] 11) :: σ)) ?_ ?_
            ·rintro a w ⟨T0, G717, r718, rfl, hG715, H716⟩
             refine any_alls [3] ⟨any_ops (m' := 31) fun Q' hN => ?_, trivial⟩
             refine wl_lookup (key := (.int .u8 a1.Code)) (val := (.func (.func 57) #[] #[])) (ok := true) H716 (i := 4) rfl mt73 un5 rfl rfl (by simp [Go.MapKept.IsKey]) ⟨_, (fnd_no hb321 (fnd_no hb383 (fnd_no hb445 (fnd_no hb507 (fnd_no hb569 (fnd_no hb631 (fnd_yes hb693))))))), .inl ⟨_, rfl, rfl⟩⟩ ?_
             refine wl_nil (hN _ _ ?_)
             refine any_alls [5] ⟨any_ops (m' := 63) fun Q' hN => ?_, trivial⟩
             refine wl_callv (first := []) (captured := []) (vs := [(pt b19)]) en57 rfl rfl (nego_work_code_ok hc (St.pick [(.box b9 29 (kTNego.at_ zTNego)), (.box b19 63 (kTnego_workV.at_ (Tnego_workV.mk x25 (.slice A28 x26.length c29) (.slice A33 x31.length c34) x36))), (.row kTPkt g27 A28 c29 32 x26), (.row kI g32 A33 c34 3 x31), (.mp r718 [⟨.int .u8 1, (.func (.func 52) #[] #[]), 0⟩, ⟨.int .u8 2, (.func (.func 53) #[] #[]), 1⟩, ⟨.int .u8 3, (.func (.func 54) #[] #[]), 2⟩, ⟨.int .u8 4, (.func (.func 54) #[] #[]), 3⟩, ⟨.int .u8 5, (.func (.func 55) #[] #[]), 4⟩, ⟨.int .u8 6, (.func (.func 56) #[] #[]), 5⟩, ⟨.int .u8 7, (.func (.func 57) #[] #[]), 6⟩, ⟨.int .u8 8, (.func (.func 58) #[] #[]), 7⟩, ⟨.int .u8 9, (.func (.func 59) #[] #[]), 8⟩, ⟨.int .u8 10, (.func (.func 60) #[] #[]), 9⟩, ⟨.int .u8 11, (.func (.func 60) #[] #[]), 10⟩] 11)] [(.box b19 63 (kTnego_workV.at_ (Tnego_workV.mk x25 (.slice A28 x26.length c29) (.slice A33 x31.length c34) x36))), (.row kTPkt g27 A28 c29 32 x26), (.row kI g32 A33 c34 3 x31), (.box b9 29 (kTNego.at_ zTNego)), (.mp r718 [⟨.int .u8 1, (.func (.func 52) #[] #[]), 0⟩, ⟨.int .u8 2, (.func (.func 53) #[] #[]), 1⟩, ⟨.int .u8 3, (.func (.func 54) #[] #[]), 2⟩, ⟨.int .u8 4, (.func (.func 54) #[] #[]), 3⟩, ⟨.int .u8 5, (.func (.func 55) #[] #[]), 4⟩, ⟨.int .u8 6, (.func (.func 56) #[] #[]), 5⟩, ⟨.int .u8 7, (.func (.func 57) #[] #[]), 6⟩, ⟨.int .u8 8, (.func (.func 58) #[] #[]), 7⟩, ⟨.int .u8 9, (.func (.func 59) #[] #[]), 8⟩, ⟨.int .u8 10, (.func (.func 60) #[] #[]), 9⟩, ⟨.int .u8 11, (.func (.func 60) #[] #[]), 10⟩] 11)] [1, 2, 3, 0, 4] H716 (by decide) rfl) hr695) ?_
             rintro v734 w733 ⟨G730, g735, A736, c737, g738, A739, c740, hG731, rfl, H732⟩
             refine wl_nil (hN _ _ ?_)
             refine any_end ?_
             refine blk_n ?_
             refine then_n ?_
             exact ⟨_, _, r694.1, r694.2.1, r694.2.2.1, r694.2.2.2, g735, A736, c737, g738, A739, c740, frame_eq [(4, (pt b9)), (7, (pt b19))] ⟨rfl, rfl, trivial⟩, ((hG278.trans hG715).trans hG731), (St.pick [(.box b19 63 (kTnego_workV.at_ (Tnego_workV.mk r694.1 (.slice A736 r694.2.1.length c737) (.slice A739 r694.2.2.1.length c740) r694.2.2.2))), (.row kTPkt g735 A736 c737 32 r694.2.1), (.row kI g738 A739 c740 3 r694.2.2.1), (.box b9 29 (kTNego.at_ zTNego)), (.mp r718 [⟨.int .u8 1, (.func (.func 52) #[] #[]), 0⟩, ⟨.int .u8 2, (.func (.func 53) #[] #[]), 1⟩, ⟨.int .u8 3, (.func (.func 54) #[] #[]), 2⟩, ⟨.int .u8 4, (.func (.func 54) #[] #[]), 3⟩, ⟨.int .u8 5, (.func (.func 55) #[] #[]), 4⟩, ⟨.int .u8 6, (.func (.func 56) #[] #[]), 5⟩, ⟨.int .u8 7, (.func (.func 57) #[] #[]), 6⟩, ⟨.int .u8 8, (.func (.func 58) #[] #[]), 7⟩, ⟨.int .u8 9, (.func (.func 59) #[] #[]), 8⟩, ⟨.int .u8 10, (.func (.func 60) #[] #[]), 9⟩, ⟨.int .u8 11, (.func (.func 60) #[] #[]), 10⟩] 11)] [(.box b19 63 (kTnego_workV.at_ (Tnego_workV.mk r694.1 (.slice A736 r694.2.1.length c737) (.slice A739 r694.2.2.1.length c740) r694.2.2.2))), (.row kTPkt g735 A736 c737 32 r694.2.1), (.row kI g738 A739 c740 3 r694.2.2.1), (.box b9 29 (kTNego.at_ zTNego))] [0, 1, 2, 3] H732 (by decide) rfl), hF⟩
            intro hM714
            refine any_rn (i := 1) (m' := 2) rfl (rn_field fo32_0 rfl) hPF hns ?_
            refine any_rn (i := 4) (m' := 18) rfl (rn_pure (pt b19) rfl) hPF hns ?_
            refine any_alls [0, 2] ⟨?_, ?_, trivial⟩
            ·refine any_ops (m' := 19) fun Q' hN => ?_
             refine wl_call (vs := []) en36 rfl (nego_codes_ok hc H311 hr313) ?_
             rintro v745 w744 ⟨G741, r746, hG742, rfl, H743⟩
             refine wl_nil (hN _ _ ?_)
             refine any_alls [2] ⟨any_ops (m' := 23) fun Q' hN => ?_, trivial⟩
             refine wl_loadd H743 (i := 5) rfl lTPkt_Code (dInt .u8) ty5 rfl ?_
             refine wl_nil (hN _ _ ?_)
             exact hM714 _ _ ⟨_, _, r746, frame_eq [(4, (pt b9)), (7, (pt b19)), (16, (.map (some r746))), (18, (.int .u8 a1.Code)), (20, (pt b19))] ⟨rfl, rfl, rfl, rfl, rfl, trivial⟩, hG742, (St.pick [(.mp r746 [⟨.int .u8 1, (.func (.func 52) #[] #[]), 0⟩, ⟨.int .u8 2, (.func (.func 53) #[] #[]), 1⟩, ⟨.int .u8 3, (.func (.func 54) #[] #[]), 2⟩, ⟨.int .u8 4, (.func (.func 54) #[] #[]), 3⟩, ⟨.int .u8 5, (.func (.func 55) #[] #[]), 4⟩, ⟨.int .u8 6, (.func (.func 56) #[] #[]), 5⟩, ⟨.int .u8 7, (.func (.func 57) #[] #[]), 6⟩, ⟨.int .u8 8, (.func (.func 58) #[] #[]), 7⟩, ⟨.int .u8 9, (.func (.func 59) #[] #[]), 8⟩, ⟨.int .u8 10, (.func (.func 60) #[] #[]), 9⟩, ⟨.int .u8 11, (.func (.func 60) #[] #[]), 10⟩] 11), (.box b19 63 (kTnego_workV.at_ (Tnego_workV.mk x25 (.slice A28 x26.length c29) (.slice A33 x31.length c34) x36))), (.row kTPkt g27 A28 c29 32 x26), (.row kI g32 A33 c34 3 x31), (.box b9 29 (kTNego.at_ zTNego)), (.box b5 32 (kTPkt.at_ a1)), (.box b1 29 (kTNego.at_ a0))] [(.box b9 29 (kTNego.at_ zTNego)), (.box b19 63 (kTnego_workV.at_ (Tnego_workV.mk x25 (.slice A28 x26.length c29) (.slice A33 x31.length c34) x36))), (.row kTPkt g27 A28 c29 32 x26), (.row kI g32 A33 c34 3 x31), (.mp r746 [⟨.int .u8 1, (.func (.func 52) #[] #[]), 0⟩, ⟨.int .u8 2, (.func (.func 53) #[] #[]), 1⟩, ⟨.int .u8 3, (.func (.func 54) #[] #[]), 2⟩, ⟨.int .u8 4, (.func (.func 54) #[] #[]), 3⟩, ⟨.int .u8 5, (.func (.func 55) #[] #[]), 4⟩, ⟨.int .u8 6, (.func (.func 56) #[] #[]), 5⟩, ⟨.int .u8 7, (.func (.func 57) #[] #[]), 6⟩, ⟨.int .u8 8, (.func (.func 58) #[] #[]), 7⟩, ⟨.int .u8 9, (.func (.func 59) #[] #[]), 8⟩, ⟨.int .u8 10, (.func (.func 60) #[] #[]), 9⟩, ⟨.int .u8 11, (.func (.func 60) #[] #[]), 10⟩] 11)] [4, 1, 2, 3, 0] H743 (by decide) rfl)⟩
            ·refine any_ops (m' := 22) fun Q' hN => ?_
             refine wl_loadd H311 (i := 4) rfl lTPkt_Code (dInt .u8) ty5 rfl ?_
             refine wl_nil (hN _ _ ?_)
             refine any_alls [0] ⟨any_ops (m' := 23) fun Q' hN => ?_, trivial⟩
             refine wl_call (vs := []) en36 rfl (nego_codes_ok hc H311 hr313) ?_
             rintro v752 w751 ⟨G748, r753, hG749, rfl, H750⟩
             refine wl_nil (hN _ _ ?_)
             exact hM714 _ _ ⟨_, _, r753, frame_eq [(4, (pt b9)), (7, (pt b19)), (16, (.map (some r753))), (18, (.int .u8 a1.Code)), (20, (pt b19))] ⟨rfl, rfl, rfl, rfl, rfl, trivial⟩, hG749, (St.pick [(.mp r753 [⟨.int .u8 1, (.func (.func 52) #[] #[]), 0⟩, ⟨.int .u8 2, (.func (.func 53) #[] #[]), 1⟩, ⟨.int .u8 3, (.func (.func 54) #[] #[]), 2⟩, ⟨.int .u8 4, (.func (.func 54) #[] #[]), 3⟩, ⟨.int .u8 5, (.func (.func 55) #[] #[]), 4⟩, ⟨.int .u8 6, (.func (.func 56) #[] #[]), 5⟩, ⟨.int .u8 7, (.func (.func 57) #[] #[]), 6⟩, ⟨.int .u8 8, (.func (.func 58) #[] #[]), 7⟩, ⟨.int .u8 9, (.func (.func 59) #[] #[]), 8⟩, ⟨.int .u8 10, (.func (.func 60) #[] #[]), 9⟩, ⟨.int .u8 11, (.func (.func 60) #[] #[]), 10⟩] 11), (.box b19 63 (kTnego_workV.at_ (Tnego_workV.mk x25 (.slice A28 x26.length c29) (.slice A33 x31.length c34) x36))), (.row kTPkt g27 A28 c29 32 x26), (.row kI g32 A33 c34 3 x31), (.box b9 29 (kTNego.at_ zTNego)), (.box b5 32 (kTPkt.at_ a1)), (.box b1 29 (kTNego.at_ a0))] [(.box b9 29 (kTNego.at_ zTNego)), (.box b19 63 (kTnego_workV.at_ (Tnego_workV.mk x25 (.slice A28 x26.length c29) (.slice A33 x31.length c34) x36))), (.row kTPkt g27 A28 c29 32 x26), (.row kI g32 A33 c34 3 x31), (.mp r753 [⟨.int .u8 1, (.func (.func 52) #[] #[]), 0⟩, ⟨.int .u8 2, (.func (.func 53) #[] #[]), 1⟩, ⟨.int .u8 3, (.func (.func 54) #[] #[]), 2⟩, ⟨.int .u8 4, (.func (.func 54) #[] #[]), 3⟩, ⟨.int .u8 5, (.func (.func 55) #[] #[]), 4⟩, ⟨.int .u8 6, (.func (.func 56) #[] #[]), 5⟩, ⟨.int .u8 7, (.func (.func 57) #[] #[]), 6⟩, ⟨.int .u8 8, (.func (.func 58) #[] #[]), 7⟩, ⟨.int .u8 9, (.func (.func 59) #[] #[]), 8⟩, ⟨.int .u8 10, (.func (.func 60) #[] #[]), 9⟩, ⟨.int .u8 11, (.func (.func 60) #[] #[]), 10⟩] 11)] [4, 1, 2, 3, 0] H750 (by decide) rfl)⟩
           ·replace hF := ifF hF hb693
            rcases bcases (a1.Code == 8) with hb755 | hb755
            ·replace hF := ifT hF hb755
             obtain ⟨r756, hr757, hF⟩ := bindS hF
             refine any_memo (fuel := 2) (m := 23) (fun a w => ∃ (T0 : Fr) (G1 : Ghost) (r780 : Nat), a = mk 45 (upds T0 [(4, (pt b9)), (7, (pt b19)), (16, (.map (some r780))), (18, (.int .u8 a1.Code)), (20, (pt b19))]) ∧ GLe G277 G1 ∧ St c G1 w ((.box b9 29 (kTNego.at_ zTNego)) :: (.box b19 63 (kTnego_workV.at_ (Tnego_workV.mk x25 (.slice A28 x26.length c29) (.slice A33 x31.length c34) x36))) :: (.row kTPkt g27 A28 c29 32 x26) :: (.row kI g32 A33 c34 3 x31) :: (.mp r780 [⟨.int .u8 1, (.func (.func 52) #[] #[]), 0⟩, ⟨.int .u8 2, (.func (.func 53) #[] #[]), 1⟩, ⟨.int .u8 3, (.func (.func 54) #[] #[]), 2⟩, ⟨.int .u8 4, (.func (.func 54) #[] #[]), 3⟩, ⟨.int .u8 5, (.func (.func 55) #[] #[]), 4⟩, ⟨.int .u8 6, (.func (.func 56) #[] #[]), 5⟩, ⟨.int .u8 7, (.func (.func 57) #[] #[]), 6⟩, ⟨.int .u8 8, (.func (.func 58) #[] #[]), 7⟩, ⟨.int .u8 9, (.func (.func 59) #[] #[]), 8⟩, ⟨.int .u8 10, (.func (.func 60) #[] #[]), 9⟩, ⟨.int .u8 11, (.func (.func 60) #[] #[]), 10⟩] 11) :: σ)) ?_ ?_
             ·rintro a w ⟨T0, G779, r780, rfl, hG777, H778⟩
              refine any_alls [3] ⟨any_ops (m' := 31) fun Q' hN => ?_, trivial⟩
              refine wl_lookup (key := (.int .u8 a1.Code)) (val := (.func (.func 58) #[] #[])) (ok := true) H778 (i := 4) rfl mt73 un5 rfl rfl (by simp [Go.MapKept.IsKey]) ⟨_, (fnd_no hb321 (fnd_no hb383 (fnd_no hb445 (fnd_no hb507 (fnd_no hb569 (fnd_no hb631 (fnd_no hb693 (fnd_yes hb755)))))))), .inl ⟨_, rfl, rfl⟩⟩ ?_
              refine wl_nil (hN _ _ ?_)
              refine any_alls [5] ⟨any_ops (m' := 63) fun Q' hN => ?_, trivial⟩
              refine wl_callv (first := []) (captured := []) (vs := [(pt b19)]) en58 rfl rfl (nego_work_proto_ok hc (St.pick [(.box b9 29 (kTNego.at_ zTNego)), (.box b19 63 (kTnego_workV.at_ (Tnego_workV.mk x25 (.slice A28 x26.length c29) (.slice A33 x31.length c34) x36))), (.row kTPkt g27 A28 c29 32 x26), (.row kI g32 A33 c34 3 x31), (.mp r780 [⟨.int .u8 1, (.func (.func 52) #[] #[]), 0⟩, ⟨.int .u8 2, (.func (.func 53) #[] #[]), 1⟩, ⟨.int .u8 3, (.func (.func 54) #[] #[]), 2⟩, ⟨.int .u8 4, (.func (.func 54) #[] #[]), 3⟩, ⟨.int .u8 5, (.func (.func 55) #[] #[]), 4⟩, ⟨.int .u8 6, (.func (.func 56) #[] #[]), 5⟩, ⟨.int .u8 7, (.func (.func 57) #[] #[]), 6⟩, ⟨.int .u8 8, (.func (.func 58) #[] #[]), 7⟩, ⟨.int .u8 9, (.func (.func 59) #[] #[]), 8⟩, ⟨.int .u8 10, (.func (.func 60) #[] #[]), 9⟩, ⟨.int .u8 11, (.func (.func 60) #[] #[]), 10⟩] 11)] [(.box b19 63 (kTnego_workV.at_ (Tnego_workV.mk x25 (.slice A28 x26.length c29) (.slice A33 x31.length c34) x36))), (.row kTPkt g27 A28 c29 32 x26), (.row kI g32 A33 c34 3 x31), (.box b9 29 (kTNego.at_ zTNego)), (.mp r780 [⟨.int .u8 1, (.func (.func 52) #[] #[]), 0⟩, ⟨.int .u8 2, (.func (.func 53) #[] #[]), 1⟩, ⟨.int .u8 3, (.func (.func 54) #[] #[]), 2⟩, ⟨.int .u8 4, (.func (.func 54) #[] #[]), 3⟩, ⟨.int .u8 5, (.func (.func 55) #[] #[]), 4⟩, ⟨.int .u8 6, (.func (.func 56) #[] #[]), 5⟩, ⟨.int .u8 7, (.func (.func 57) #[] #[]), 6⟩, ⟨.int .u8 8, (.func (.func 58) #[] #[]), 7⟩, ⟨.int .u8 9, (.func (.func 59) #[] #[]), 8⟩, ⟨.int .u8 10, (.func (.func 60) #[] #[]), 9⟩, ⟨.int .u8 11, (.func (.func 60) #[] #[]), 10⟩] 11)] [1, 2, 3, 0, 4] H778 (by decide) rfl) hr757) ?_
              rintro v796 w795 ⟨G792, g797, A798, c799, g800, A801, c802, hG793, rfl, H794⟩
              refine wl_nil (hN _ _ ?_)
              refine any_end ?_
              refine blk_n ?_
              refine then_n ?_
              exact ⟨_, _, r756.1, r756.2.1, r756.2.2.1, r756.2.2.2, g797, A798, c799, g800, A801, c802, frame_eq [(4, (pt b9)), (7, (pt b19))] ⟨rfl, rfl, trivial⟩, ((hG278.trans hG777).trans hG793), (St.pick [(.box b19 63 (kTnego_workV.at_ (Tnego_workV.mk r756.1 (.slice A798 r756.2.1.length c799) (.slice A801 r756.2.2.1.length c802) r756.2.2.2))), (.row kTPkt g797 A798 c799 32 r756.2.1), (.row kI g800 A801 c802 3 r756.2.2.1), (.box b9 29 (kTNego.at_ zTNego)), (.mp r780 [⟨.int .u8 1, (.func (.func 52) #[] #[]), 0⟩, ⟨.int .u8 2, (.func (.func 53) #[] #[]), 1⟩, ⟨.int .u8 3, (.func (.func 54) #[] #[]), 2⟩, ⟨.int .u8 4, (.func (.func 54) #[] #[]), 3⟩, ⟨.int .u8 5, (.func (.func 55) #[] #[]), 4⟩, ⟨.int .u8 6, (.func (.func 56) #[] #[]), 5⟩, ⟨.int .u8 7, (.func (.func 57) #[] #[]), 6⟩, ⟨.int .u8 8, (.func (.func 58) #[] #[]), 7⟩, ⟨.int .u8 9, (.func (.func 59) #[] #[]), 8⟩, ⟨.int .u8 10, (.func (.func 60) #[] #[]), 9⟩, ⟨.int .u8 11, (.func (.func 60) #[] #[]), 10⟩] 11)] [(.box b19 63 (kTnego_workV.at_ (Tnego_workV.mk r756.1 (.slice A798 r756.2.1.length c799) (.slice A801 r756.2.2.1.length c802) r756.2.2.2))), (.row kTPkt g797 A798 c799 32 r756.2.1), (.row kI g800 A801 c802 3 r756.2.2.1), (.box b9 29 (kTNego.at_ zTNego))] [0, 1, 2, 3] H794 (by decide) rfl), hF⟩
             intro hM776
             refine any_rn (i := 1) (m' := 2) rfl (rn_field fo32_0 rfl) hPF hns ?_
             refine any_rn (i := 4) (m' := 18) rfl (rn_pure (pt b19) rfl) hPF hns ?_
             refine any_alls [0, 2] ⟨?_, ?_, trivial⟩
             ·refine any_ops (m' := 19) fun Q' hN => ?_
              refine wl_call (vs := []) en36 rfl (nego_codes_ok hc H311 hr313) ?_
              rintro v807 w806 ⟨G803, r808, hG804, rfl, H805⟩
              refine wl_nil (hN _ _ ?_)
              refine any_alls [2] ⟨any_ops (m' := 23) fun Q' hN => ?_, trivial⟩
              refine wl_loadd H805 (i := 5) rfl lTPkt_Code (dInt .u8) ty5 rfl ?_
              refine wl_nil (hN _ _ ?_)
              exact hM776 _ _ ⟨_, _, r808, frame_eq [(4, (pt b9)), (7, (pt b19)), (16, (.map (some r808))), (18, (.int .u8 a1.Code)), (20, (pt b19))] ⟨rfl, rfl, rfl, rfl, rfl, trivial⟩, hG804, (St.pick [(.mp r808 [⟨.int .u8 1, (.func (.func 52) #[] #[]), 0⟩, ⟨.int .u8 2, (.func (.func 53) #[] #[]), 1⟩, ⟨.int .u8 3, (.func (.func 54) #[] #[]), 2⟩, ⟨.int .u8 4, (.func (.func 54) #[] #[]), 3⟩, ⟨.int .u8 5, (.func (.func 55) #[] #[]), 4⟩, ⟨.int .u8 6, (.func (.func 56) #[] #[]), 5⟩, ⟨.int .u8 7, (.func (.func 57) #[] #[]), 6⟩, ⟨.int .u8 8, (.func (.func 58) #[] #[]), 7⟩, ⟨.int .u8 9, (.func (.func 59) #[] #[]), 8⟩, ⟨.int .u8 10, (.func (.func 60) #[] #[]), 9⟩, ⟨.int .u8 11, (.func (.func 60) #[] #[]), 10⟩] 11), (.box b19 63 (kTnego_workV.at_ (Tnego_workV.mk x25 (.slice A28 x26.length c29) (.slice A33 x31.length c34) x36))), (.row kTPkt g27 A28 c29 32 x26), (.row kI g32 A33 c34 3 x31), (.box b9 29 (kTNego.at_ zTNego)), (.box b5 32 (kTPkt.at_ a1)), (.box b1 29 (kTNego.at_ a0))] [(.box b9 29 (kTNego.at_ zTNego)), (.box b19 63 (kTnego_workV.at_ (Tnego_workV.mk x25 (.slice A28 x26.length c29) (.slice A33 x31.length c34) x36))), (.row kTPkt g27 A28 c29 32 x26), (.row kI g32 A33 c34 3 x31), (.mp r808 [⟨.int .u8 1, (.func (.func 52) #[] #[]), 0⟩, ⟨.int .u8 2, (.func (.func 53) #[] #[]), 1⟩, ⟨.int .u8 3, (.func (.func 54) #[] #[]), 2⟩, ⟨.int .u8 4, (.func (.func 54) #[] #[]), 3⟩, ⟨.int .u8 5, (.func (.func 55) #[] #[]), 4⟩, ⟨.int .u8 6, (.func (.func 56) #[] #[]), 5⟩, ⟨.int .u8 7, (.func (.func 57) #[] #[]), 6⟩, ⟨.int .u8 8, (.func (.func 58) #[] #[]), 7⟩, ⟨.int .u8 9, (.func (.func 59) #[] #[]), 8⟩, ⟨.int .u8 10, (.func (.func 60) #[] #[]), 9⟩, ⟨.int .u8 11, (.func (.func 60) #[] #[]), 10⟩] 11)] [4, 1, 2, 3, 0] H805 (by decide) rfl)⟩
             ·refine any_ops (m' := 22) fun Q' hN => ?_
              refine wl_loadd H311 (i := 4) rfl lTPkt_Code (dInt .u8) ty5 rfl ?_
              refine wl_nil (hN _ _ ?_)
              refine any_alls [0] ⟨any_ops (m' := 23) fun Q' hN => ?_, trivial⟩
              refine wl_call (vs := []) en36 rfl (nego_codes_ok hc H311 hr313) ?_
              rintro v814 w813 ⟨G810, r815, hG811, rfl, H812⟩
              refine wl_nil (hN _ _ ?_)
              exact hM776 _ _ ⟨_, _, r815, frame_eq [(4, (pt b9)), (7, (pt b19)), (16, (.map (some r815))), (18, (.int .u8 a1.Code)), (20, (pt b19))] ⟨rfl, rfl, rfl, rfl, rfl, trivial⟩, hG811, (St.pick [(.mp r815 [⟨.int .u8 1, (.func (.func 52) #[] #[]), 0⟩, ⟨.int .u8 2, (.func (.func 53) #[] #[]), 1⟩, ⟨.int .u8 3, (.func (.func 54) #[] #[]), 2⟩, ⟨.int .u8 4, (.func (.func 54) #[] #[]), 3⟩, ⟨.int .u8 5, (.func (.func 55) #[] #[]), 4⟩, ⟨.int .u8 6, (.func (.func 56) #[] #[]), 5⟩, ⟨.int .u8 7, (.func (.func 57) #[] #[]), 6⟩, ⟨.int .u8 8, (.func (.func 58) #[] #[]), 7⟩, ⟨.int .u8 9, (.func (.func 59) #[] #[]), 8⟩, ⟨.int .u8 10, (.func (.func 60) #[] #[]), 9⟩, ⟨.int .u8 11, (.func (.func 60) #[] #[]), 10⟩] 11), (.box b19 63 (kTnego_workV.at_ (Tnego_workV.mk x25 (.slice A28 x26.length c29) (.slice A33 x31.length c34) x36))), (.row kTPkt g27 A28 c29 32 x26), (.row kI g32 A33 c34 3 x31), (.box b9 29 (kTNego.at_ zTNego)), (.box b5 32 (kTPkt.at_ a1)), (.box b1 29 (kTNego.at_ a0))] [(.box b9 29 (kTNego.at_ zTNego)), (.box b19 63 (kTnego_workV.at_ (Tnego_workV.mk x25 (.slice A28 x26.length c29) (.slice A33 x31.length c34) x36))), (.row kTPkt g27 A28 c29 32 x26), (.row kI g32 A33 c34 3 x31), (.mp r815 [⟨.int .u8 1, (.func (.func 52) #[] #[]), 0⟩, ⟨.int .u8 2, (.func (.func 53) #[] #[]), 1⟩, ⟨.int .u8 3, (.func (.func 54) #[] #[]), 2⟩, ⟨.int .u8 4, (.func (.func 54) #[] #[]), 3⟩, ⟨.int .u8 5, (.func (.func 55) #[] #[]), 4⟩, ⟨.int .u8 6, (.func (.func 56) #[] #[]), 5⟩, ⟨.int .u8 7, (.func (.func 57) #[] #[]), 6⟩, ⟨.int .u8 8, (.func (.func 58) #[] #[]), 7⟩, ⟨.int .u8 9, (.func (.func 59) #[] #[]), 8⟩, ⟨.int .u8 10, (.func (.func 60) #[] #[]), 9⟩, ⟨.int .u8 11, (.func (.func 60) #[] #[]), 10⟩] 11)] [4, 1, 2, 3, 0] H812 (by decide) rfl)⟩
            ·replace hF := ifF hF hb755
             rcases bcases (a1.Code == 9) with hb817 | hb817
             ·replace hF := ifT hF hb817
              obtain ⟨r818, hr819, hF⟩ := bindS hF
              refine any_memo (fuel := 2) (m := 23) (fun a w => ∃ (T0 : Fr) (G1 : Ghost) (r842 : Nat), a = mk 45 (upds T0 [(4, (pt b9)), (7, (pt b19)), (16, (.map (some r842))), (18, (.int .u8 a1.Code)), (20, (pt b19))]) ∧ GLe G277 G1 ∧ St c G1 w ((.box b9 29 (kTNego.at_ zTNego)) :: (.box b19 63 (kTnego_workV.at_ (Tnego_workV.mk x25 (.slice A28 x26.length c29) (.slice A33 x31.length c34) x36))) :: (.row kTPkt g27 A28 c29 32 x26) :: (.row kI g32 A33 c34 3 x31) :: (.mp r842 [⟨.int .u8 1, (.func (.func 52) #[] #[]), 0⟩, ⟨.int .u8 2, (.func (.func 53) #[] #[]), 1⟩, ⟨.int .u8 3, (.func (.func 54) #[] #[]), 2⟩, ⟨.int .u8 4, (.func (.func 54) #[] #[]), 3⟩, ⟨.int .u8 5, (.func (.func 55) #[] #[]), 4⟩, ⟨.int .u8 6, (.func (.func 56) #[] #[]), 5⟩, ⟨.int .u8 7, (.func (.func 57) #[] #[]), 6⟩, ⟨.int .u8 8, (.func (.func 58) #[] #[]), 7⟩, ⟨.int .u8 9, (.func (.func 59) #[] #[]), 8⟩, ⟨.int .u8 10, (.func (.func 60) #[] #[]), 9⟩, ⟨.int .u8 11, (.func (.func 60) #[] #[]), 10⟩] 11) :: σ)) ?_ ?_
              ·rintro a w ⟨T0, G841, r842, rfl, hG839, H840⟩
               refine any_alls [3] ⟨any_ops (m' := 31) fun Q' hN => ?_, trivial⟩
               refine wl_lookup (key := (.int .u8 a1.Code)) (val := (.func (.func 59) #[] #[])) (ok := true) H840 (i := 4) rfl mt73 un5 rfl rfl (by simp [Go.MapKept.IsKey]) ⟨_, (fnd_no hb321 (fnd_no hb383 (fnd_no hb445 (fnd_no hb507 (fnd_no hb569 (fnd_no hb631 (fnd_no hb693 (fnd_no hb755 (fnd_yes hb817))))))))), .inl ⟨_, rfl, rfl⟩⟩ ?_
               refine wl_nil (hN _ _ ?_)
               refine any_alls [5] ⟨any_ops (m' := 63) fun Q' hN => ?_, trivial⟩
               refine wl_callv (first := []) (captured := []) (vs := [(pt b19)]) en59 rfl rfl (nego_work_echo_ok hc (St.pick [(.box b9 29 (kTNego.at_ zTNego)), (.box b19 63 (kTnego_workV.at_ (Tnego_workV.mk x25 (.slice A28 x26.length c29) (.slice A33 x31.length c34) x36))), (.row kTPkt g27 A28 c29 32 x26), (.row kI g32 A33 c34 3 x31), (.mp r842 [⟨.int .u8 1, (.func (.func 52) #[] #[]), 0⟩, ⟨.int .u8 2, (.func (.func 53) #[] #[]), 1⟩, ⟨.int .u8 3, (.func (.func 54) #[] #[]), 2⟩, ⟨.int .u8 4, (.func (.func 54) #[] #[]), 3⟩, ⟨.int .u8 5, (.func (.func 55) #[] #[]), 4⟩, ⟨.int .u8 6, (.func (.func 56) #[] #[]), 5⟩, ⟨.int .u8 7, (.func (.func 57) #[] #[]), 6⟩, ⟨.int .u8 8, (.func (.func 58) #[] #[]), 7⟩, ⟨.int .u8 9, (.func (.func 59) #[] #[]), 8⟩, ⟨.int .u8 10, (.func (.func 60) #[] #[]), 9⟩, ⟨.int .u8 11, (.func (.func 60) #[] #[]), 10⟩] 11)] [(.box b19 63 (kTnego_workV.at_ (Tnego_workV.mk x25 (.slice A28 x26.length c29) (.slice A33 x31.length c34) x36))), (.row kTPkt g27 A28 c29 32 x26), (.row kI g32 A33 c34 3 x31), (.box b9 29 (kTNego.at_ zTNego)), (.mp r842 [⟨.int .u8 1, (.func (.func 52) #[] #[]), 0⟩, ⟨.int .u8 2, (.func (.func 53) #[] #[]), 1⟩, ⟨.int .u8 3, (.func (.func 54) #[] #[]), 2⟩, ⟨.int .u8 4, (.func (.func 54) #[] #[]), 3⟩, ⟨.int .u8 5, (.func (.func 55) #[] #[]), 4⟩, ⟨.int .u8 6, (.func (.func 56) #[] #[]), 5⟩, ⟨.int .u8 7, (.func (.func 57) #[] #[]), 6⟩, ⟨.int .u8 8, (.func (.func 58) #[] #[]), 7⟩, ⟨.int .u8 9, (.func (.func 59) #[] #[]), 8⟩, ⟨.int .u8 10, (.func (.func 60) #[] #[]), 9⟩, ⟨.int .u8 11, (.func (.func 60) #[] #[]), 10⟩] 11)] [1, 2, 3, 0, 4] H840 (by decide) rfl) hr819) ?_
               rintro v858 w857 ⟨G854, g859, A860, c861, g862, A863, c864, hG855, rfl, H856⟩
               refine wl_nil (hN _ _ ?_)
               refine any_end ?_
               refine blk_n ?_
               refine then_n ?_
               exact ⟨_, _, r818.1, r818.2.1, r818.2.2.1, r818.2.2.2, g859, A860, c861, g862, A863, c864, frame_eq [(4, (pt b9)), (7, (pt b19))] ⟨rfl, rfl, trivial⟩, ((hG278.trans hG839).trans hG855), (St.pick [(.box b19 63 (kTnego_workV.at_ (Tnego_workV.mk r818.1 (.slice A860 r818.2.1.length c861) (.slice A863 r818.2.2.1.length c864) r818.2.2.2))), (.row kTPkt g859 A860 c861 32 r818.2.1), (.row kI g862 A863 c864 3 r818.2.2.1), (.box b9 29 (kTNego.at_ zTNego)), (.mp r842 [⟨.int .u8 1, (.func (.func 52) #[] #[]), 0⟩, ⟨.int .u8 2, (.func (.func 53) #[] #[]), 1⟩, ⟨.int .u8 3, (.func (.func 54) #[] #[]), 2⟩, ⟨.int .u8 4, (.func (.func 54) #[] #[]), 3⟩, ⟨.int .u8 5, (.func (.func 55) #[] #[]), 4⟩, ⟨.int .u8 6, (.func (.func 56) #[] #[]), 5⟩, ⟨.int .u8 7, (.func (.func 57) #[] #[]), 6⟩, ⟨.int .u8 8, (.func (.func 58) #[] #[]), 7⟩, ⟨.int .u8 9, (.func (.func 59) #[] #[]), 8⟩, ⟨.int .u8 10, (.func (.func 60) #[] #[]), 9⟩, ⟨.int .u8 11, (.func (.func 60) #[] #[]), 10⟩] 11)] [(.box b19 63 (kTnego_workV.at_ (Tnego_workV.mk r818.1 (.slice A860 r818.2.1.length c861) (.slice A863 r818.2.2.1.length c864) r818.2.2.2))), (.row kTPkt g859 A860 c861 32 r818.2.1), (.row kI g862 A863 c864 3 r818.2.2.1), (.box b9 29 (kTNego.at_ zTNego))] [0, 1, 2, 3] H856 (by decide) rfl), hF⟩
              intro hM838
              refine any_rn (i := 1) (m' := 2) rfl (rn_field fo32_0 rfl) hPF hns ?_
              refine any_rn (i := 4) (m' := 18) rfl (rn_pure (pt b19) rfl) hPF hns ?_
              refine any_alls [0, 2] ⟨?_, ?_, trivial⟩
              ·refine any_ops (m' := 19) fun Q' hN => ?_
               refine wl_call (vs := []) en36 rfl (nego_codes_ok hc H311 hr313) ?_
               rintro v869 w868 ⟨G865, r870, hG866, rfl, H867⟩
               refine wl_nil (hN _ _ ?_)
               refine any_alls [2] ⟨any_ops (m' := 23) fun Q' hN => ?_, trivial⟩
               refine wl_loadd H867 (i := 5) rfl lTPkt_Code (dInt .u8) ty5 rfl ?_
               refine wl_nil (hN _ _ ?_)
               exact hM838 _ _ ⟨_, _, r870, frame_eq [(4, (pt b9)), (7, (pt b19)), (16, (.map (some r870))), (18, (.int .u8 a1.Code)), (20, (pt b19))] ⟨rfl, rfl, rfl, rfl, rfl, trivial⟩, hG866, (St.pick [(.mp r870 [⟨.int .u8 1, (.func (.func 52) #[] #[]), 0⟩, ⟨.int .u8 2, (.func (.func 53) #[] #[]), 1⟩, ⟨.int .u8 3, (.func (.func 54) #[] #[]), 2⟩, ⟨.int .u8 4, (.func (.func 54) #[] #[]), 3⟩, ⟨.int .u8 5, (.func (.func 55) #[] #[]), 4⟩, ⟨.int .u8 6, (.func (.func 56) #[] #[]), 5⟩, ⟨.int .u8 7, (.func (.func 57) #[] #[]), 6⟩, ⟨.int .u8 8, (.func (.func 58) #[] #[]), 7⟩, ⟨.int .u8 9, (.func (.func 59) #[] #[]), 8⟩, ⟨.int .u8 10, (.func (.func 60) #[] #[]), 9⟩, ⟨.int .u8 11, (.func (.func 60) #[] #[]), 10⟩] 11), (.box b19 63 (kTnego_workV.at_ (Tnego_workV.mk x25 (.slice A28 x26.length c29) (.slice A33 x31.length c34) x36))), (.row kTPkt g27 A28 c29 32 x26), (.row kI g32 A33 c34 3 x31), (.box b9 29 (kTNego.at_ zTNego)), (.box b5 32 (kTPkt.at_ a1)), (.box b1 29 (kTNego.at_ a0))] [(.box b9 29 (kTNego.at_ zTNego)), (.box b19 63 (kTnego_workV.at_ (Tnego_workV.mk x25 (.slice A28 x26.length c29) (.slice A33 x31.length c34) x36))), (.row kTPkt g27 A28 c29 32 x26), (.row kI g32 A33 c34 3 x31), (.mp r870 [⟨.int .u8 1, (.func (.func 52) #[] #[]), 0⟩, ⟨.int .u8 2, (.func (.func 53) #[] #[]), 1⟩, ⟨.int .u8 3, (.func (.func 54) #[] #[]), 2⟩, ⟨.int .u8 4, (.func (.func 54) #[] #[]), 3⟩, ⟨.int .u8 5, (.func (.func 55) #[] #[]), 4⟩, ⟨.int .u8 6, (.func (.func 56) #[] #[]), 5⟩, ⟨.int .u8 7, (.func (.func 57) #[] #[]), 6⟩, ⟨.int .u8 8, (.func (.func 58) #[] #[]), 7⟩, ⟨.int .u8 9, (.func (.func 59) #[] #[]), 8⟩, ⟨.int .u8 10, (.func (.func 60) #[] #[]), 9⟩, ⟨.int .u8 11, (.func (.func 60) #[] #[]), 10⟩] 11)] [4, 1, 2, 3, 0] H867 (by decide) rfl)⟩
              ·refine any_ops (m' := 22) fun Q' hN => ?_
               refine wl_loadd H311 (i := 4) rfl lTPkt_Code (dInt .u8) ty5 rfl ?_
               refine wl_nil (hN _ _ ?_)
               refine any_alls [0] ⟨any_ops (m' := 23) fun Q' hN => ?_, trivial⟩
               refine wl_call (vs := []) en36 rfl (nego_codes_ok hc H311 hr313) ?_
               rintro v876 w875 ⟨G872, r877, hG873, rfl, H874⟩
               refine wl_nil (hN _ _ ?_)
               exact hM838 _ _ ⟨_, _, r877, frame_eq [(4, (pt b9)), (7, (pt b19)), (16, (.map (some r877))), (18, (.int .u8 a1.Code)), (20, (pt b19))] ⟨rfl, rfl, rfl, rfl, rfl, trivial⟩, hG873, (St.pick [(.mp r877 [⟨.int .u8 1, (.func (.func 52) #[] #[]), 0⟩, ⟨.int .u8 2, (.func (.func 53) #[] #[]), 1⟩, ⟨.int .u8 3, (.func (.func 54) #[] #[]), 2⟩, ⟨.int .u8 4, (.func (.func 54) #[] #[]), 3⟩, ⟨.int .u8 5, (.func (.func 55) #[] #[]), 4⟩, ⟨.int .u8 6, (.func (.func 56) #[] #[]), 5⟩, ⟨.int .u8 7, (.func (.func 57) #[] #[]), 6⟩, ⟨.int .u8 8, (.func (.func 58) #[] #[]), 7⟩, ⟨.int .u8 9, (.func (.func 59) #[] #[]), 8⟩, ⟨.int .u8 10, (.func (.func 60) #[] #[]), 9⟩, ⟨.int .u8 11, (.func (.func 60) #[] #[]), 10⟩] 11), (.box b19 63 (kTnego_workV.at_ (Tnego_workV.mk x25 (.slice A28 x26.length c29) (.slice A33 x31.length c34) x36))), (.row kTPkt g27 A28 c29 32 x26), (.row kI g32 A33 c34 3 x31), (.box b9 29 (kTNego.at_ zTNego)), (.box b5 32 (kTPkt.at_ a1)), (.box b1 29 (kTNego.at_ a0))] [(.box b9 29 (kTNego.at_ zTNego)), (.box b19 63 (kTnego_workV.at_ (Tnego_workV.mk x25 (.slice A28 x26.length c29) (.slice A33 x31.length c34) x36))), (.row kTPkt g27 A28 c29 32 x26), (.row kI g32 A33 c34 3 x31), (.mp r877 [⟨.int .u8 1, (.func (.func 52) #[] #[]), 0⟩, ⟨.int .u8 2, (.func (.func 53) #[] #[]), 1⟩, ⟨.int .u8 3, (.func (.func 54) #[] #[]), 2⟩, ⟨.int .u8 4, (.func (.func 54) #[] #[]), 3⟩, ⟨.int .u8 5, (.func (.func 55) #[] #[]), 4⟩, ⟨.int .u8 6, (.func (.func 56) #[] #[]), 5⟩, ⟨.int .u8 7, (.func (.func 57) #[] #[]), 6⟩, ⟨.int .u8 8, (.func (.func 58) #[] #[]), 7⟩, ⟨.int .u8 9, (.func (.func 59) #[] #[]), 8⟩, ⟨.int .u8 10, (.func (.func 60) #[] #[]), 9⟩, ⟨.int .u8 11, (.func (.func 60) #[] #[]), 10⟩] 11)] [4, 1, 2, 3, 0] H874 (by decide) rfl)⟩
             ·replace hF := ifF hF hb817
              rcases bcases (a1.Code == 10) with hb879 | hb879
              ·replace hF := ifT hF hb879
               obtain ⟨r880, hr881, hF⟩ := bindS hF
               refine any_memo (fuel := 2) (m := 23) (fun a w => ∃ (T0 : Fr) (G1 : Ghost) (r904 : Nat), a = mk 45 (upds T0 [(4, (pt b9)), (7, (pt b19)), (16, (.map (some r904))), (18, (.int .u8 a1.Code)), (20, (pt b19))]) ∧ GLe G277 G1 ∧ St c G1 w ((.box b9 29 (kTNego.at_ zTNego)) :: (.box b19 63 (kTnego_workV.at_ (Tnego_workV.mk x25 (.slice A28 x26.length c29) (.slice A33 x31.length c34) x36))) :: (.row kTPkt g27 A28 c29 32 x26) :: (.row kI g32 A33 c34 3 x31) :: (.mp r904 [⟨.int .u8 1, (.func (.func 52) #[] #[]), 0⟩, ⟨.int .u8 2, (.func (.func 53) #[] #[]), 1⟩, ⟨.int .u8 3, (.func (.func 54) #[] #[]), 2⟩, ⟨.int .u8 4, (.func (.func 54) #[] #[]), 3⟩, ⟨.int .u8 5, (.func (.func 55) #[] #[]), 4⟩, ⟨.int .u8 6, (.func (.func 56) #[] #[]), 5⟩, ⟨.int .u8 7, (.func (.func 57) #[] #[]), 6⟩, ⟨.int .u8 8, (.func (.func 58) #[] #[]), 7⟩, ⟨.int .u8 9, (.func (.func 59) #[] #[]), 8⟩, ⟨.int .u8 10, (.func (.func 60) #[] #[]), 9⟩, ⟨.int .u8 11, (.func (.func 60) #[] #[]), 10⟩] 11) :: σ)) ?_ ?_
               ·rintro a w ⟨T0, G903, r904, rfl, hG901, H902⟩
                refine any_alls [3] ⟨any_ops (m' := 31) fun Q' hN => ?_, trivial⟩
                refine wl_lookup (key := (.int .u8 a1.Code)) (val := (.func (.func 60) #[] #[])) (ok := true) H902 (i := 4) rfl mt73 un5 rfl rfl (by simp [Go.MapKept.IsKey]) ⟨_, (fnd_no hb321 (fnd_no hb383 (fnd_no hb445 (fnd_no hb507 (fnd_no hb569 (fnd_no hb631 (fnd_no hb693 (fnd_no hb755 (fnd_no hb817 (fnd_yes hb879)))))))))), .inl ⟨_, rfl, rfl⟩⟩ ?_
                refine wl_nil (hN _ _ ?_)
                refine any_alls [5] ⟨any_ops (m' := 63) fun Q' hN => ?_, trivial⟩
                refine wl_callv (first := []) (captured := []) (vs := [(pt b19)]) en60 rfl rfl (nego_work_nothing_ok hc (St.pick [(.box b9 29 (kTNego.at_ zTNego)), (.box b19 63 (kTnego_workV.at_ (Tnego_workV.mk x25 (.slice A28 x26.length c29) (.slice A33 x31.length c34) x36))), (.row kTPkt g27 A28 c29 32 x26), (.row kI g32 A33 c34 3 x31), (.mp r904 [⟨.int .u8 1, (.func (.func 52) #[] #[]), 0⟩, ⟨.int .u8 2, (.func (.func 53) #[] #[]), 1⟩, ⟨.int .u8 3, (.func (.func 54) #[] #[]), 2⟩, ⟨.int .u8 4, (.func (.func 54) #[] #[]), 3⟩, ⟨.int .u8 5, (.func (.func 55) #[] #[]), 4⟩, ⟨.int .u8 6, (.func (.func 56) #[] #[]), 5⟩, ⟨.int .u8 7, (.func (.func 57) #[] #[]), 6⟩, ⟨.int .u8 8, (.func (.func 58) #[] #[]), 7⟩, ⟨.int .u8 9, (.func (.func 59) #[] #[]), 8⟩, ⟨.int .u8 10, (.func (.func 60) #[] #[]), 9⟩, ⟨.int .u8 11, (.func (.func 60) #[] #[]), 10⟩] 11)] [(.box b19 63 (kTnego_workV.at_ (Tnego_workV.mk x25 (.slice A28 x26.length c29) (.slice A33 x31.length c34) x36))), (.row kTPkt g27 A28 c29 32 x26), (.row kI g32 A33 c34 3 x31), (.box b9 29 (kTNego.at_ zTNego)), (.mp r904 [⟨.int .u8 1, (.func (.func 52) #[] #[]), 0⟩, ⟨.int .u8 2, (.func (.func 53) #[] #[]), 1⟩, ⟨.int .u8 3, (.func (.func 54) #[] #[]), 2⟩, ⟨.int .u8 4, (.func (.func 54) #[] #[]), 3⟩, ⟨.int .u8 5, (.func (.func 55) #[] #[]), 4⟩, ⟨.int .u8 6, (.func (.func 56) #[] #[]), 5⟩, ⟨.int .u8 7, (.func (.func 57) #[] #[]), 6⟩, ⟨.int .u8 8, (.func (.func 58) #[] #[]), 7⟩, ⟨.int .u8 9, (.func (.func 59) #[] #[]), 8⟩, ⟨.int .u8 10, (.func (.func 60) #[] #[]), 9⟩, ⟨.int .u8 11, (.func (.func 60) #[] #[]), 10⟩] 11)] [1, 2, 3, 0, 4] H902 (by decide) rfl) hr881) ?_
                rintro v920 w919 ⟨G916, g921, A922, c923, g924, A925, c926, hG917, rfl, H918⟩
                refine wl_nil (hN _ _ ?_)
                refine any_end ?_
                refine blk_n ?_
                refine then_n ?_
                exact ⟨_, _, r880.1, r880.2.1, r880.2.2.1, r880.2.2.2, g921, A922, c923, g924, A925, c926, frame_eq [(4, (pt b9)), (7, (pt b19))] ⟨rfl, rfl, trivial⟩, ((hG278.trans hG901).trans hG917), (St.pick [(.box b19 63 (kTnego_workV.at_ (Tnego_workV.mk r880.1 (.slice A922 r880.2.1.length c923) (.slice A925 r880.2.2.1.length c926) r880.2.2.2))), (.row kTPkt g921 A922 c923 32 r880.2.1), (.row kI g924 A925 c926 3 r880.2.2.1), (.box b9 29 (kTNego.at_ zTNego)), (.mp r904 [⟨.int .u8 1, (.func (.func 52) #[] #[]), 0⟩, ⟨.int .u8 2, (.func (.func 53) #[] #[]), 1⟩, ⟨.int .u8 3, (.func (.func 54) #[] #[]), 2⟩, ⟨.int .u8 4, (.func (.func 54) #[] #[]), 3⟩, ⟨.int .u8 5, (.func (.func 55) #[] #[]), 4⟩, ⟨.int .u8 6, (.func (.func 56) #[] #[]), 5⟩, ⟨.int .u8 7, (.func (.func 57) #[] #[]), 6⟩, ⟨.int .u8 8, (.func (.func 58) #[] #[]), 7⟩, ⟨.int .u8 9, (.func (.func 59) #[] #[]), 8⟩, ⟨.int .u8 10, (.func (.func 60) #[] #[]), 9⟩, ⟨.int .u8 11, (.func (.func 60) #[] #[]), 10⟩] 11)] [(.box b19 63 (kTnego_workV.at_ (Tnego_workV.mk r880.1 (.slice A922 r880.2.1.length c923) (.slice A925 r880.2.2.1.length c926) r880.2.2.2))), (.row kTPkt g921 A922 c923 32 r880.2.1), (.row kI g924 A925 c926 3 r880.2.2.1), (.box b9 29 (kTNego.at_ zTNego))] [0, 1, 2, 3] H918 (by decide) rfl), hF⟩
               intro hM900
               refine any_rn (i := 1) (m' := 2) rfl (rn_field fo32_0 rfl) hPF hns ?_
               refine any_rn (i := 4) (m' := 18) rfl (rn_pure (pt b19) rfl) hPF hns ?_
               refine any_alls [0, 2] ⟨?_, ?_, trivial⟩
               ·refine any_ops (m' := 19) fun Q' hN => ?_
                refine wl_call (vs := []) en36 rfl (nego_codes_ok hc H311 hr313) ?_
                rintro v931 w930 ⟨G927, r932, hG928, rfl, H929⟩
                refine wl_nil (hN _ _ ?_)
                refine any_alls [2] ⟨any_ops (m' := 23) fun Q' hN => ?_, trivial⟩
                refine wl_loadd H929 (i := 5) rfl lTPkt_Code (dInt .u8) ty5 rfl ?_
                refine wl_nil (hN _ _ ?_)
                exact hM900 _ _ ⟨_, _, r932, frame_eq [(4, (pt b9)), (7, (pt b19)), (16, (.map (some r932))), (18, (.int .u8 a1.Code)), (20, (pt b19))] ⟨rfl, rfl, rfl, rfl, rfl, trivial⟩, hG928, (St.pick [(.mp r932 [⟨.int .u8 1, (.func (.func 52) #[] #[]), 0⟩, ⟨.int .u8 2, (.func (.func 53) #[] #[]), 1⟩, ⟨.int .u8 3, (.func (.func 54) #[] #[]), 2⟩, ⟨.int .u8 4, (.func (.func 54) #[] #[]), 3⟩, ⟨.int .u8 5, (.func (.func 55) #[] #[]), 4⟩, ⟨.int .u8 6, (.func (.func 56) #[] #[]), 5⟩, ⟨.int .u8 7, (.func (.func 57) #[] #[]), 6⟩, ⟨.int .u8 8, (.func (.func 58) #[] #[]), 7⟩, ⟨.int .u8 9, (.func (.func 59) #[] #[]), 8⟩, ⟨.int .u8 10, (.func (.func 60) #[] #[]), 9⟩, ⟨.int .u8 11, (.func (.func 60) #[] #[]), 10⟩] 11), (.box b19 63 (kTnego_workV.at_ (Tnego_workV.mk x25 (.slice A28 x26.length c29) (.slice A33 x31.length c34) x36))), (.row kTPkt g27 A28 c29 32 x26), (.row kI g32 A33 c34 3 x31), (.box b9 29 (kTNego.at_ zTNego)), (.box b5 32 (kTPkt.at_ a1)), (.box b1 29 (kTNego.at_ a0))] [(.box b9 29 (kTNego.at_ zTNego)), (.box b19 63 (kTnego_workV.at_ (Tnego_workV.mk x25 (.slice A28 x26.length c29) (.slice A33 x31.length c34) x36))), (.row kTPkt g27 A28 c29 32 x26), (.row kI g32 A33 c34 3 x31), (.mp r932 [⟨.int .u8 1, (.func (.func 52) #[] #[]), 0⟩, ⟨.int .u8 2, (.func (.func 53) #[] #[]), 1⟩, ⟨.int .u8 3, (.func (.func 54) #[] #[]), 2⟩, ⟨.int .u8 4, (.func (.func 54) #[] #[]), 3⟩, ⟨.int .u8 5, (.func (.func 55) #[] #[]), 4⟩, ⟨.int .u8 6, (.func (.func 56) #[] #[]), 5⟩, ⟨.int .u8 7, (.func (.func 57) #[] #[]), 6⟩, ⟨.int .u8 8, (.func (.func 58) #[] #[]), 7⟩, ⟨.int .u8 9, (.func (.func 59) #[] #[]), 8⟩, ⟨.int .u8 10, (.func (.func 60) #[] #[]), 9⟩, ⟨.int .u8 11, (.func (.func 60) #[] #[]), 10⟩] 11)] [4, 1, 2, 3, 0] H929 (by decide) rfl)⟩
               ·refine any_ops (m' := 22) fun Q' hN => ?_
                refine wl_loadd H311 (i := 4) rfl lTPkt_Code (dInt .u8) ty5 rfl ?_
                refine wl_nil (hN _ _ ?_)
                refine any_alls [0] ⟨any_ops (m' := 23) fun Q' hN => ?_, trivial⟩
                refine wl_call (vs := []) en36 rfl (nego_codes_ok hc H311 hr313) ?_
                rintro v938 w937 ⟨G934, r939, hG935, rfl, H936⟩
                refine wl_nil (hN _ _ ?_)
                exact hM900 _ _ ⟨_, _, r939, frame_eq [(4, (pt b9)), (7, (pt b19)), (16, (.map (some r939))), (18, (.int .u8 a1.Code)), (20, (pt b19))] ⟨rfl, rfl, rfl, rfl, rfl, trivial⟩, hG935, (St.pick [(.mp r939 [⟨.int .u8 1, (.func (.func 52) #[] #[]), 0⟩, ⟨.int .u8 2, (.func (.func 53) #[] #[]), 1⟩, ⟨.int .u8 3, (.func (.func 54) #[] #[]), 2⟩, ⟨.int .u8 4, (.func (.func 54) #[] #[]), 3⟩, ⟨.int .u8 5, (.func (.func 55) #[] #[]), 4⟩, ⟨.int .u8 6, (.func (.func 56) #[] #[]), 5⟩, ⟨.int .u8 7, (.func (.func 57) #[] #[]), 6⟩, ⟨.int .u8 8, (.func (.func 58) #[] #[]), 7⟩, ⟨.int .u8 9, (.func (.func 59) #[] #[]), 8⟩, ⟨.int .u8 10, (.func (.func 60) #[] #[]), 9⟩, ⟨.int .u8 11, (.func (.func 60) #[] #[]), 10⟩] 11), (.box b19 63 (kTnego_workV.at_ (Tnego_workV.mk x25 (.slice A28 x26.length c29) (.slice A33 x31.length c34) x36))), (.row kTPkt g27 A28 c29 32 x26), (.row kI g32 A33 c34 3 x31), (.box b9 29 (kTNego.at_ zTNego)), (.box b5 32 (kTPkt.at_ a1)), (.box b1 29 (kTNego.at_ a0))] [(.box b9 29 (kTNego.at_ zTNego)), (.box b19 63 (kTnego_workV.at_ (Tnego_workV.mk x25 (.slice A28 x26.length c29) (.slice A33 x31.length c34) x36))), (.row kTPkt g27 A28 c29 32 x26), (.row kI g32 A33 c34 3 x31), (.mp r939 [⟨.int .u8 1, (.func (.func 52) #[] #[]), 0⟩, ⟨.int .u8 2, (.func (.func 53) #[] #[]), 1⟩, ⟨.int .u8 3, (.func (.func 54) #[] #[]), 2⟩, ⟨.int .u8 4, (.func (.func 54) #[] #[]), 3⟩, ⟨.int .u8 5, (.func (.func 55) #[] #[]), 4⟩, ⟨.int .u8 6, (.func (.func 56) #[] #[]), 5⟩, ⟨.int .u8 7, (.func (.func 57) #[] #[]), 6⟩, ⟨.int .u8 8, (.func (.func 58) #[] #[]), 7⟩, ⟨.int .u8 9, (.func (.func 59) #[] #[]), 8⟩, ⟨.int .u8 10, (.func (.func 60) #[] #[]), 9⟩, ⟨.int .u8 11, (.func (.func 60) #[] #[]), 10⟩] 11)] [4, 1, 2, 3, 0] H936 (by decide) rfl)⟩
              ·replace hF := ifF hF hb879
               rcases bcases (a1.Code == 11) with hb941 | hb941
               ·replace hF := ifT hF hb941
                obtain ⟨r942, hr943, hF⟩ := bindS hF
                refine any_memo (fuel := 2) (m := 23) (fun a w => ∃ (T0 : Fr) (G1 : Ghost) (r966 : Nat), a = mk 45 (upds T0 [(4, (pt b9)), (7, (pt b19)), (16, (.map (some r966))), (18, (.int .u8 a1.Code)), (20, (pt b19))]) ∧ GLe G277 G1 ∧ St c G1 w ((.box b9 29 (kTNego.at_ zTNego)) :: (.box b19 63 (kTnego_workV.at_ (Tnego_workV.mk x25 (.slice A28 x26.length c29) (.slice A33 x31.length c34) x36))) :: (.row kTPkt g27 A28 c29 32 x26) :: (.row kI g32 A33 c34 3 x31) :: (.mp r966 [⟨.int .u8 1, (.func (.func 52) #[] #[]), 0⟩, ⟨.int .u8 2, (.func (.func 53) #[] #[]), 1⟩, ⟨.int .u8 3, (.func (.func 54) #[] #[]), 2⟩, ⟨.int .u8 4, (.func (.func 54) #[] #[]), 3⟩, ⟨.int .u8 5, (.func (.func 55) #[] #[]), 4⟩, ⟨.int .u8 6, (.func (.func 56) #[] #[]), 5⟩, ⟨.int .u8 7, (.func (.func 57) #[] #[]), 6⟩, ⟨.int .u8 8, (.func (.func 58) #[] #[]), 7⟩, ⟨.int .u8 9, (.func (.func 59) #[] #[]), 8⟩, ⟨.int .u8 10, (.func (.func 60) #[] #[]), 9⟩, ⟨.int .u8 11, (.func (.func 60) #[] #[]), 10⟩] 11) :: σ)) ?_ ?_
                ·rintro a w ⟨T0, G965, r966, rfl, hG963, H964⟩
                 refine any_alls [3] ⟨any_ops (m' := 31) fun Q' hN => ?_, trivial⟩
                 refine wl_lookup (key := (.int .u8 a1.Code)) (val := (.func (.func 60) #[] #[])) (ok := true) H964 (i := 4) rfl mt73 un5 rfl rfl (by simp [Go.MapKept.IsKey]) ⟨_, (fnd_no hb321 (fnd_no hb383 (fnd_no hb445 (fnd_no hb507 (fnd_no hb569 (fnd_no hb631 (fnd_no hb693 (fnd_no hb755 (fnd_no hb817 (fnd_no hb879 (fnd_yes hb941))))))))))), .inl ⟨_, rfl, rfl⟩⟩ ?_
                 refine wl_nil (hN _ _ ?_)
                 refine any_alls [5] ⟨any_ops (m' := 63) fun Q' hN => ?_, trivial⟩
                 refine wl_callv (first := []) (captured := []) (vs := [(pt b19)]) en60 rfl rfl (nego_work_nothing_ok hc (St.pick [(.box b9 29 (kTNego.at_ zTNego)), (.box b19 63 (kTnego_workV.at_ (Tnego_workV.mk x25 (.slice A28 x26.length c29) (.slice A33 x31.length c34) x36))), (.row kTPkt g27 A28 c29 32 x26), (.row kI g32 A33 c34 3 x31), (.mp r966 [⟨.int .u8 1, (.func (.func 52) #[] #[]), 0⟩, ⟨.int .u8 2, (.func (.func 53) #[] #[]), 1⟩, ⟨.int .u8 3, (.func (.func 54) #[] #[]), 2⟩, ⟨.int .u8 4, (.func (.func 54) #[] #[]), 3⟩, ⟨.int .u8 5, (.func (.func 55) #[] #[]), 4⟩, ⟨.int .u8 6, (.func (.func 56) #[] #[]), 5⟩, ⟨.int .u8 7, (.func (.func 57) #[] #[]), 6⟩, ⟨.int .u8 8, (.func (.func 58) #[] #[]), 7⟩, ⟨.int .u8 9, (.func (.func 59) #[] #[]), 8⟩, ⟨.int .u8 10, (.func (.func 60) #[] #[]), 9⟩, ⟨.int .u8 11, (.func (.func 60) #[] #[]), 10⟩] 11)] [(.box b19 63 (kTnego_workV.at_ (Tnego_workV.mk x25 (.slice A28 x26.length c29) (.slice A33 x31.length c34) x36))), (.row kTPkt g27 A28 c29 32 x26), (.row kI g32 A33 c34 3 x31), (.box b9 29 (kTNego.at_ zTNego)), (.mp r966 [⟨.int .u8 1, (.func (.func 52) #[] #[]), 0⟩, ⟨.int .u8 2, (.func (.func 53) #[] #[]), 1⟩, ⟨.int .u8 3, (.func (.func 54) #[] #[]), 2⟩, ⟨.int .u8 4, (.func (.func 54) #[] #[]), 3⟩, ⟨.int .u8 5, (.func (.func 55) #[] #[]), 4⟩, ⟨.int .u8 6, (.func (.func 56) #[] #[]), 5⟩, ⟨.int .u8 7, (.func (.func 57) #[] #[]), 6⟩, ⟨.int .u8 8, (.func (.func 58) #[] #[]), 7⟩, ⟨.int .u8 9, (.func (.func 59) #[] #[]), 8⟩, ⟨.int .u8 10, (.func (.func 60) #[] #[]), 9⟩, ⟨.int .u8 11, (.func (.func 60) #[] #[]), 10⟩] 11)] [1, 2, 3, 0, 4] H964 (by decide) rfl) hr943) ?_
                 rintro v982 w981 ⟨G978, g983, A984, c985, g986, A987, c988, hG979, rfl, H980⟩
                 refine wl_nil (hN _ _ ?_)
                 refine any_end ?_
                 refine blk_n ?_
                 refine then_n ?_
                 exact ⟨_, _, r942.1, r942.2.1, r942.2.2.1, r942.2.2.2, g983, A984, c985, g986, A987, c988, frame_eq [(4, (pt b9)), (7, (pt b19))] ⟨rfl, rfl, trivial⟩, ((hG278.trans hG963).trans hG979), (St.pick [(.box b19 63 (kTnego_workV.at_ (Tnego_workV.mk r942.1 (.slice A984 r942.2.1.length c985) (.slice A987 r942.2.2.1.length c988) r942.2.2.2))), (.row kTPkt g983 A984 c985 32 r942.2.1), (.row kI g986 A987 c988 3 r942.2.2.1), (.box b9 29 (kTNego.at_ zTNego)), (.mp r966 [⟨.int .u8 1, (.func (.func 52) #[] #[]), 0⟩, ⟨.int .u8 2, (.func (.func 53) #[] #[]), 1⟩, ⟨.int .u8 3, (.func (.func 54) #[] #[]), 2⟩, ⟨.int .u8 4, (.func (.func 54) #[] #[]), 3⟩, ⟨.int .u8 5, (.func (.func 55) #[] #[]), 4⟩, ⟨.int .u8 6, (.func (.func 56) #[] #[]), 5⟩, ⟨.int .u8 7, (.func (.func 57) #[] #[]), 6⟩, ⟨.int .u8 8, (.func (.func 58) #[] #[]), 7⟩, ⟨.int .u8 9, (.func (.func 59) #[] #[]), 8⟩, ⟨.int .u8 10, (.func (.func 60) #[] #[]), 9⟩, ⟨.int .u8 11, (.func (.func 60) #[] #[]), 10⟩] 11)] [(.box b19 63 (kTnego_workV.at_ (Tnego_workV.mk r942.1 (.slice A984 r942.2.1.length c985) (.slice A987 r942.2.2.1.length c988) r942.2.2.2))), (.row kTPkt g983 A984 c985 32 r942.2.1), (.row kI g986 A987 c988 3 r942.2.2.1), (.box b9 29 (kTNego.at_ zTNego))] [0, 1, 2, 3] H980 (by decide) rfl), hF⟩
                intro hM962
                refine any_rn (i := 1) (m' := 2) rfl (rn_field fo32_0 rfl) hPF hns ?_
                refine any_rn (i := 4) (m' := 18) rfl (rn_pure (pt b19) rfl) hPF hns ?_
                refine any_alls [0, 2] ⟨?_, ?_, trivial⟩
                ·refine any_ops (m' := 19) fun Q' hN => ?_
                 refine wl_call (vs := []) en36 rfl (nego_codes_ok hc H311 hr313) ?_
                 rintro v993 w992 ⟨G989, r994, hG990, rfl, H991⟩
                 refine wl_nil (hN _ _ ?_)
                 refine any_alls [2] ⟨any_ops (m' := 23) fun Q' hN => ?_, trivial⟩
                 refine wl_loadd H991 (i := 5) rfl lTPkt_Code (dInt .u8) ty5 rfl ?_
                 refine wl_nil (hN _ _ ?_)
                 exact hM962 _ _ ⟨_, _, r994, frame_eq [(4, (pt b9)), (7, (pt b19)), (16, (.map (some r994))), (18, (.int .u8 a1.Code)), (20, (pt b19))] ⟨rfl, rfl, rfl, rfl, rfl, trivial⟩, hG990, (St.pick [(.mp r994 [⟨.int .u8 1, (.func (.func 52) #[] #[]), 0⟩, ⟨.int .u8 2, (.func (.func 53) #[] #[]), 1⟩, ⟨.int .u8 3, (.func (.func 54) #[] #[]), 2⟩, ⟨.int .u8 4, (.func (.func 54) #[] #[]), 3⟩, ⟨.int .u8 5, (.func (.func 55) #[] #[]), 4⟩, ⟨.int .u8 6, (.func (.func 56) #[] #[]), 5⟩, ⟨.int .u8 7, (.func (.func 57) #[] #[]), 6⟩, ⟨.int .u8 8, (.func (.func 58) #[] #[]), 7⟩, ⟨.int .u8 9, (.func (.func 59) #[] #[]), 8⟩, ⟨.int .u8 10, (.func (.func 60) #[] #[]), 9⟩, ⟨.int .u8 11, (.func (.func 60) #[] #[]), 10⟩] 11), (.box b19 63 (kTnego_workV.at_ (Tnego_workV.mk x25 (.slice A28 x26.length c29) (.slice A33 x31.length c34) x36))), (.row kTPkt g27 A28 c29 32 x26), (.row kI g32 A33 c34 3 x31), (.box b9 29 (kTNego.at_ zTNego)), (.box b5 32 (kTPkt.at_ a1)), (.box b1 29 (kTNego.at_ a0))] [(.box b9 29 (kTNego.at_ zTNego)), (.box b19 63 (kTnego_workV.at_ (Tnego_workV.mk x25 (.slice A28 x26.length c29) (.slice A33 x31.length c34) x36))), (.row kTPkt g27 A28 c29 32 x26), (.row kI g32 A33 c34 3 x31), (.mp r994 [⟨.int .u8 1, (.func (.func 52) #[] #[]), 0⟩, ⟨.int .u8 2, (.func (.func 53) #[] #[]), 1⟩, ⟨.int .u8 3, (.func (.func 54) #[] #[]), 2⟩, ⟨.int .u8 4, (.func (.func 54) #[] #[]), 3⟩, ⟨.int .u8 5, (.func (.func 55) #[] #[]), 4⟩, ⟨.int .u8 6, (.func (.func 56) #[] #[]), 5⟩, ⟨.int .u8 7, (.func (.func 57) #[] #[]), 6⟩, ⟨.int .u8 8, (.func (.func 58) #[] #[]), 7⟩, ⟨.int .u8 9, (.func (.func 59) #[] #[]), 8⟩, ⟨.int .u8 10, (.func (.func 60) #[] #[]), 9⟩, ⟨.int .u8 11, (.func (.func 60) #[] #[]), 10⟩] 11)] [4, 1, 2, 3, 0] H991 (by decide) rfl)⟩
                ·refine any_ops (m' := 22) fun Q' hN => ?_
                 refine wl_loadd H311 (i := 4) rfl lTPkt_Code (dInt .u8) ty5 rfl ?_
                 refine wl_nil (hN _ _ ?_)
                 refine any_alls [0] ⟨any_ops (m' := 23) fun Q' hN => ?_, trivial⟩
                 refine wl_call (vs := []) en36 rfl (nego_codes_ok hc H311 hr313) ?_
                 rintro v1000 w999 ⟨G996, r1001, hG997, rfl, H998⟩
                 refine wl_nil (hN _ _ ?_)
                 exact hM962 _ _ ⟨_, _, r1001, frame_eq [(4, (pt b9)), (7, (pt b19)), (16, (.map (some r1001))), (18, (.int .u8 a1.Code)), (20, (pt b19))] ⟨rfl, rfl, rfl, rfl, rfl, trivial⟩, hG997, (St.pick [(.mp r1001 [⟨.int .u8 1, (.func (.func 52) #[] #[]), 0⟩, ⟨.int .u8 2, (.func (.func 53) #[] #[]), 1⟩, ⟨.int .u8 3, (.func (.func 54) #[] #[]), 2⟩, ⟨.int .u8 4, (.func (.func 54) #[] #[]), 3⟩, ⟨.int .u8 5, (.func (.func 55) #[] #[]), 4⟩, ⟨.int .u8 6, (.func (.func 56) #[] #[]), 5⟩, ⟨.int .u8 7, (.func (.func 57) #[] #[]), 6⟩, ⟨.int .u8 8, (.func (.func 58) #[] #[]), 7⟩, ⟨.int .u8 9, (.func (.func 59) #[] #[]), 8⟩, ⟨.int .u8 10, (.func (.func 60) #[] #[]), 9⟩, ⟨.int .u8 11, (.func (.func 60) #[] #[]), 10⟩] 11), (.box b19 63 (kTnego_workV.at_ (Tnego_workV.mk x25 (.slice A28 x26.length c29) (.slice A33 x31.length c34) x36))), (.row kTPkt g27 A28 c29 32 x26), (.row kI g32 A33 c34 3 x31), (.box b9 29 (kTNego.at_ zTNego)), (.box b5 32 (kTPkt.at_ a1)), (.box b1 29 (kTNego.at_ a0))] [(.box b9 29 (kTNego.at_ zTNego)), (.box b19 63 (kTnego_workV.at_ (Tnego_workV.mk x25 (.slice A28 x26.length c29) (.slice A33 x31.length c34) x36))), (.row kTPkt g27 A28 c29 32 x26), (.row kI g32 A33 c34 3 x31), (.mp r1001 [⟨.int .u8 1, (.func (.func 52) #[] #[]), 0⟩, ⟨.int .u8 2, (.func (.func 53) #[] #[]), 1⟩, ⟨.int .u8 3, (.func (.func 54) #[] #[]), 2⟩, ⟨.int .u8 4, (.func (.func 54) #[] #[]), 3⟩, ⟨.int .u8 5, (.func (.func 55) #[] #[]), 4⟩, ⟨.int .u8 6, (.func (.func 56) #[] #[]), 5⟩, ⟨.int .u8 7, (.func (.func 57) #[] #[]), 6⟩, ⟨.int .u8 8, (.func (.func 58) #[] #[]), 7⟩, ⟨.int .u8 9, (.func (.func 59) #[] #[]), 8⟩, ⟨.int .u8 10, (.func (.func 60) #[] #[]), 9⟩, ⟨.int .u8 11, (.func (.func 60) #[] #[]), 10⟩] 11)] [4, 1, 2, 3, 0] H998 (by decide) rfl)⟩
               ·replace hF := ifF hF hb941
                exact noneF hF
 ·refine wp_seq (wc_region ?_)
  refine wl_rn (rn_field fo29_1 rfl) ?_
  refine wl_rn (rn_field fo26_0 rfl) ?_
  refine wl_loadd H20 (i := 3) rfl (Lens.then lTNego_R lTRule_Ip) dBool ty4 rfl ?_
  refine wl_nil (then_n ?_)
  rcases bcases a0.R.Ip with hb1003 | hb1003
  ·replace hF := ifT hF hb1003
   refine wc_true (vb hb1003) ?_
   refine wc_region ?_
   refine wl_rn (rn_pure (.int .u16 32801) rfl) ?_
   refine wl_nil ?_
   have H1004 := H20.nilrow kTPkt none 32
   have H1006 := H1004.nilrow kI none 3
   refine then_n ?_
   exact ⟨_, _, 32801, a0, ([] : (List TPkt)), ([] : (List Int)), a1, none, none, 0, none, none, 0, frame_eq [(2, (pt b1)), (3, (pt b5)), (4, (pt b9)), (7, (pt b19)), (8, (.int .u16 32801))] ⟨rfl, rfl, rfl, rfl, rfl, trivial⟩, GLe.refl _, (St.pick [(.row kI none none 0 3 ([] : (List Int))), (.row kTPkt none none 0 32 ([] : (List TPkt))), (.box b19 63 (kTnego_workV.at_ (Tnego_workV.mk a0 (.slice none 0 0) (.slice none 0 0) a1))), (.box b9 29 (kTNego.at_ zTNego)), (.box b5 32 (kTPkt.at_ a1)), (.box b1 29 (kTNego.at_ a0))] [(.box b19 63 (kTnego_workV.at_ (Tnego_workV.mk a0 (.slice none 0 0) (.slice none 0 0) a1))), (.row kTPkt none none 0 32 ([] : (List TPkt))), (.row kI none none 0 3 ([] : (List Int))), (.box b9 29 (kTNego.at_ zTNego)), (.box b5 32 (kTPkt.at_ a1)), (.box b1 29 (kTNego.at_ a0))] [2, 1, 0, 3, 4, 5] H1006 (by decide) rfl), hF⟩
  ·replace hF := ifF hF hb1003
   refine wc_false (vb hb1003) ?_
   refine wp_skip ?_
   have H1008 := H20.nilrow kTPkt none 32
   have H1010 := H1008.nilrow kI none 3
   refine then_n ?_
   exact ⟨_, _, 49185, a0, ([] : (List TPkt)), ([] : (List Int)), a1, none, none, 0, none, none, 0, frame_eq [(2, (pt b1)), (3, (pt b5)), (4, (pt b9)), (7, (pt b19)), (8, (.int .u16 49185))] ⟨rfl, rfl, rfl, rfl, rfl, trivial⟩, GLe.refl _, (St.pick [(.row kI none none 0 3 ([] : (List Int))), (.row kTPkt none none 0 32 ([] : (List TPkt))), (.box b19 63 (kTnego_workV.at_ (Tnego_workV.mk a0 (.slice none 0 0) (.slice none 0 0) a1))), (.box b9 29 (kTNego.at_ zTNego)), (.box b5 32 (kTPkt.at_ a1)), (.box b1 29 (kTNego.at_ a0))] [(.box b19 63 (kTnego_workV.at_ (Tnego_workV.mk a0 (.slice none 0 0) (.slice none 0 0) a1))), (.row kTPkt none none 0 32 ([] : (List TPkt))), (.row kI none none 0 3 ([] : (List Int))), (.box b9 29 (kTNego.at_ zTNego)), (.box b5 32 (kTPkt.at_ a1)), (.box b1 29 (kTNego.at_ a0))] [2, 1, 0, 3, 4, 5] H1010 (by decide) rfl), hF⟩

theorem auto_Tick_ok {c : World} (hc : Hc c) {G : Ghost} {w : World} {σ : List Ent} {a0 : TAuto} {v0_ : Value} (h0_ : kTAuto.V G v0_ a0) (H : St c G w (σ)) {r : (TAuto × (List Int))} (hF : auto_Tick a0 = some r) :
  Calls Tryd.prog 32 ([v0_] : List Value).toArray w (Ends fun v w' => ∃ (G' : Ghost) (v1' : Value) (A2' : Option Addr) (c3' : Nat), GLe G G' ∧ tup [v1', (.slice A2' r.2.length c3')] = v ∧ St c G' w' (σ) ∧ kTAuto.V G' v1' r.1 ∧ SlR kI G' A2' c3' r.2) := by
 unfold auto_Tick at hF
 refine calls_mk Tryd.func32 rfl rfl rfl ?_
 refine wp_seq (wc_region ?_)
 refine wl_box (K := kTAuto) (x := a0) H rfl h0_ ?_
 intro b1 w4 H2
 refine wl_alloc H2 zr23 ?_
 intro b5 w8 H6
 refine wl_rn (rn_pure (.slice none 0 0) rfl) ?_
 refine wl_nil (then_n ?_)
 refine wp_seq ?_
 refine wp_seq (wc_region ?_)
 refine wl_rn (rn_field fo23_2 rfl) ?_
 refine wl_loadd H6 (i := 1) rfl lTAuto_Left (dInt .i64) ty3 rfl ?_
 refine wl_rn (rn_pure (.bool (a0.Left == 0)) rfl) ?_
 refine wl_nil (then_n ?_)
 rcases bcases (a0.Left == 0) with hb9 | hb9
 ·replace hF := ifT hF hb9
  refine wc_true (vb hb9) ?_
  refine wp_seq (wc_region ?_)
  refine wl_load H6 (i := 1) rfl (Lens.id kTAuto) ty23 rfl ?_
  intro v10 hv11
  refine wl_store (z := a0) H6 (i := 0) rfl (Lens.id kTAuto) ty23 rfl rfl hv11 ?_
  intro w13 H12
  refine wl_rn (rn_pure (.slice none 0 0) rfl) ?_
  refine wl_nil (then_n ?_)
  refine wp_ret ?_
  refine then_r ?_
  obtain ⟨v14, hv15, hl16⟩ := H12.loadv (i := 0) rfl ty23
  have hF := Option.some.inj hF
  subst hF
  exact ret_mk rfl (RV.cell rfl hl16 (RV.tmp rfl RV.nil)) ⟨_, v14, none, 0, GLe.refl _, rfl, (St.pick [(.box b5 23 (kTAuto.at_ a0)), (.box b1 23 (kTAuto.at_ a0))] [] [] H12 (by decide) rfl), hv15, (SlR.nil _ _)⟩
 ·replace hF := ifF hF hb9
  refine wc_false (vb hb9) ?_
  refine wp_skip ?_
  refine then_n ?_
  refine wp_seq (wc_region ?_)
  refine wl_rn (rn_field fo23_2 rfl) ?_
  refine wl_loadd H6 (i := 1) rfl lTAuto_Left (dInt .i64) ty3 rfl ?_
  refine wl_rn (rn_pure (.int .i64 (IntKind.i64.wrap (a0.Left - 1))) rfl) ?_
  refine wl_rn (rn_field fo23_2 rfl) ?_
  refine wl_store (z := (IntKind.i64.wrap (a0.Left - 1))) H6 (i := 1) rfl lTAuto_Left ty3 rfl rfl ((dInt .i64).toV _ _) ?_
  intro w18 H17
  refine wl_nil (then_n ?_)
  refine wp_seq ?_
  refine wp_seq (wc_region ?_)
  refine wl_rn (rn_field fo23_2 rfl) ?_
  refine wl_loadd H17 (i := 1) rfl lTAuto_Left (dInt .i64) ty3 rfl ?_
  refine wl_rn (rn_pure (.bool (decide ((IntKind.i64.wrap (a0.Left - 1)) > 0))) rfl) ?_
  refine wl_nil (then_n ?_)
  rcases bcases (decide ((IntKind.i64.wrap (a0.Left - 1)) > 0)) with hb19 | hb19
  ·replace hF := ifT hF hb19
   refine wc_true (vb hb19) ?_
   refine wp_seq (wc_region ?_)
   refine wl_load H17 (i := 1) rfl (Lens.id kTAuto) ty23 rfl ?_
   intro v20 hv21
   refine wl_store (z := (TAuto.mk a0.State a0.Count (IntKind.i64.wrap (a0.Left - 1)) a0.Id)) H17 (i := 0) rfl (Lens.id kTAuto) ty23 rfl rfl hv21 ?_
   intro w23 H22
   refine wl_rn (rn_pure (.slice none 0 0) rfl) ?_
   refine wl_nil (then_n ?_)
   refine wp_ret ?_
   refine then_r ?_
   obtain ⟨v24, hv25, hl26⟩ := H22.loadv (i := 0) rfl ty23
   have hF := Option.some.inj hF
   subst hF
   exact ret_mk rfl (RV.cell rfl hl26 (RV.tmp rfl RV.nil)) ⟨_, v24, none, 0, GLe.refl _, rfl, (St.pick [(.box b5 23 (kTAuto.at_ (TAuto.mk a0.State a0.Count (IntKind.i64.wrap (a0.Left - 1)) a0.Id))), (.box b1 23 (kTAuto.at_ (TAuto.mk a0.State a0.Count (IntKind.i64.wrap (a0.Left - 1)) a0.Id)))] [] [] H22 (by decide) rfl), hv25, (SlR.nil _ _)⟩
  ·replace hF := ifF hF hb19
   refine wc_false (vb hb19) ?_
   refine wp_skip ?_
   refine then_n ?_
   refine wp_seq (wc_region ?_)
   refine wl_rn (rn_pure (.int .i64 5) rfl) ?_
   refine wl_nil (then_n ?_)
   refine wp_seq (join (fun a w => ∃ (T0 : Fr) (G1 : Ghost) (x28 : Int), a = mk 32 (upds T0 [(1, (pt b1)), (2, (pt b5)), (4, (.int .i64 x28))]) ∧ GLe G G1 ∧ St c G1 w ((.box b5 23 (kTAuto.at_ zTAuto)) :: (.box b1 23 (kTAuto.at_ (TAuto.mk a0.State a0.Count (IntKind.i64.wrap (a0.Left - 1)) a0.Id))) :: σ) ∧ auto_Tick_j1 a0 x28 = some r) ?_ ?_)
   ·rintro a w ⟨T0, G31, x28, rfl, hG29, H30, hF⟩
    refine wp_seq (wc_region ?_)
    refine wl_load H30 (i := 1) rfl (Lens.id kTAuto) ty23 rfl ?_
    intro v32 hv33
    refine wl_rn (rn_pure (.int .i64 x28) rfl) ?_
    obtain ⟨r34, hr35, hF⟩ := bindS hF
    refine wl_call (vs := [v32, (.int .i64 x28)]) en47 rfl (auto_Do_ok hc hv33 H30 hr35) ?_
    rintro v40 w39 ⟨G36, v41, A43, c44, hG37, rfl, H38, hv42, hs45⟩
    refine wl_rn (rn_pure (.tuple #[v41, (.slice A43 r34.2.1.length c44), (.int .i64 r34.2.2)]) rfl) ?_
    refine wl_rn (rn_pure v41 rfl) ?_
    refine wl_rn (rn_pure (.slice A43 r34.2.1.length c44) rfl) ?_
    refine wl_rn (rn_pure (.int .i64 r34.2.2) rfl) ?_
    refine wl_alloc H38 zr23 ?_
    intro b46 w49 H47
    refine wl_store (z := r34.1) H47 (i := 0) rfl (Lens.id kTAuto) ty23 rfl rfl hv42 ?_
    intro w51 H50
    refine wl_rn (rn_pure (.slice A43 r34.2.1.length c44) rfl) ?_
    refine wl_rn (rn_pure (.int .i64 r34.2.2) rfl) ?_
    refine wl_nil (then_n (wp_seq (wc_region ?_)))
    refine wl_load H50 (i := 0) rfl (Lens.id kTAuto) ty23 rfl ?_
    intro v52 hv53
    refine wl_rn (rn_pure (.slice A43 r34.2.1.length c44) rfl) ?_
    refine wl_store (z := r34.1) H50 (i := 1) rfl (Lens.id kTAuto) ty23 rfl rfl hv53 ?_
    intro w55 H54
    refine wl_rn (rn_pure (.slice A43 r34.2.1.length c44) rfl) ?_
    refine wl_nil (then_n ?_)
    refine wp_ret ?_
    obtain ⟨v56, hv57, hl58⟩ := H54.loadv (i := 1) rfl ty23
    have hF := Option.some.inj hF
    subst hF
    exact ret_mk rfl (RV.cell rfl hl58 (RV.tmp rfl RV.nil)) ⟨_, v56, A43, c44, (hG29.trans hG37), rfl, (St.pick [(.box b46 23 (kTAuto.at_ r34.1)), (.box b5 23 (kTAuto.at_ r34.1)), (.box b1 23 (kTAuto.at_ (TAuto.mk a0.State a0.Count (IntKind.i64.wrap (a0.Left - 1)) a0.Id)))] [] [] H54 (by decide) rfl), hv57, hs45⟩
   ·refine wp_seq (wc_region ?_)
    refine wl_rn (rn_field fo23_1 rfl) ?_
    refine wl_loadd H17 (i := 1) rfl lTAuto_Count (dInt .i64) ty3 rfl ?_
    refine wl_rn (rn_pure (.bool (decide (a0.Count > 0))) rfl) ?_
    refine wl_nil (then_n ?_)
    rcases bcases (decide (a0.Count > 0)) with hb59 | hb59
    ·replace hF := ifT hF hb59
     refine wc_true (vb hb59) ?_
     refine wc_region ?_
     refine wl_rn (rn_pure (.int .i64 4) rfl) ?_
     refine wl_nil (then_n ?_)
     exact ⟨_, _, 4, frame_eq [(1, (pt b1)), (2, (pt b5)), (4, (.int .i64 4))] ⟨rfl, rfl, rfl, trivial⟩, GLe.refl _, H17, hF⟩
    ·replace hF := ifF hF hb59
     refine wc_false (vb hb59) ?_
     refine wp_skip ?_
     refine then_n ?_
     exact ⟨_, _, 5, frame_eq [(1, (pt b1)), (2, (pt b5)), (4, (.int .i64 5))] ⟨rfl, rfl, rfl, trivial⟩, GLe.refl _, H17, hF⟩

theorem nego_Tick_ok {c : World} (hc : Hc c) {G : Ghost} {w : World} {σ : List Ent} {a0 : TNego} {v0_ : Value} (h0_ : kTNego.V G v0_ a0) (H : St c G w (σ)) {r : (TNego × (List TPkt) × (List Int))} (hF : nego_Tick a0 = some r) :
  Calls Tryd.prog 12 ([v0_] : List Value).toArray w (Ends fun v w' => ∃ (G' : Ghost) (v1' : Value) (A2' : Option Addr) (c3' : Nat) (A4' : Option Addr) (c5' : Nat), GLe G G' ∧ tup [v1', (.slice A2' r.2.1.length c3'), (.slice A4' r.2.2.length c5')] = v ∧ St c G' w' (σ) ∧ kTNego.V G' v1' r.1 ∧ SlR kTPkt G' A2' c3' r.2.1 ∧ SlR kI G' A4' c5' r.2.2) := by
 unfold nego_Tick at hF
 refine calls_mk Tryd.func12 rfl rfl rfl ?_
 refine wp_seq (wc_region ?_)
 refine wl_box (K := kTNego) (x := a0) H rfl h0_ ?_
 intro b1 w4 H2
 refine wl_alloc H2 zr29 ?_
 intro b5 w8 H6
 iterate 2 refine wl_rn (rn_pure (.slice none 0 0) rfl) ?_
 refine wl_nil (then_n (wp_seq (wc_region ?_)))
 refine wl_load H6 (i := 1) rfl (Lens.id kTNego) ty29 rfl ?_
 intro v9 hv10
 refine wl_rnE (rn_build (G := G) zr63V rfl bs63 rfl (Parts.cons fo63_0 lTnego_workV_Nego hv10 (Parts.nil _))) ?_
 intro v11 hv12
 refine wl_box (K := kTnego_workV) (x := (Tnego_workV.mk a0 (.slice none 0 0) (.slice none 0 0) zTPkt)) H6 rfl hv12 ?_
 intro b13 w16 H14
 refine wl_rn (rn_pure (pt b13) rfl) ?_
 refine wl_nil (then_n (wp_seq (wc_region ?_)))
 refine wl_rn (rn_field fo29_0 rfl) ?_
 refine wl_load H14 (i := 2) rfl lTNego_A ty23 rfl ?_
 intro v17 hv18
 obtain ⟨r19, hr20, hF⟩ := bindS hF
 refine wl_call (vs := [v17]) en32 rfl (auto_Tick_ok hc hv18 H14 hr20) ?_
 rintro v25 w24 ⟨G21, v26, A28, c29, hG22, rfl, H23, hv27, hs30⟩
 refine wl_rn (rn_pure (.tuple #[v26, (.slice A28 r19.2.length c29)]) rfl) ?_
 refine wl_rn (rn_pure v26 rfl) ?_
 refine wl_rn (rn_pure (.slice A28 r19.2.length c29) rfl) ?_
 refine wl_alloc H23 zr23 ?_
 intro b31 w34 H32
 refine wl_store (z := r19.1) H32 (i := 0) rfl (Lens.id kTAuto) ty23 rfl rfl hv27 ?_
 intro w36 H35
 refine wl_rn (rn_pure (.slice A28 r19.2.length c29) rfl) ?_
 refine wl_nil (then_n (wp_seq (wc_region ?_)))
 refine wl_rn (rn_pure (pt b13) rfl) ?_
 refine wl_load H35 (i := 0) rfl (Lens.id kTAuto) ty23 rfl ?_
 intro v37 hv38
 refine wl_rn (rn_nilCheck rfl) ?_
 refine wl_rn (rn_field fo63_0 rfl) ?_
 refine wl_rn (rn_field fo29_0 rfl) ?_
 refine wl_store (z := r19.1) H35 (i := 1) rfl (Lens.then lTnego_workV_Nego lTNego_A) ty23 rfl rfl hv38 ?_
 intro w40 H39
 refine wl_nil (then_n (wp_seq (wc_region ?_)))
 refine wl_rn (rn_pure (pt b13) rfl) ?_
 refine wl_rn (rn_field fo29_0 rfl) ?_
 refine wl_rn (rn_field fo23_0 rfl) ?_
 refine wl_loadd H39 (i := 3) rfl (Lens.then lTNego_A lTAuto_State) (dInt .i64) ty3 rfl ?_
 refine wl_rn (rn_pure (.slice A28 r19.2.length c29) rfl) ?_
 refine wl_rnE (rn_build (G := G21) zr32 rfl bs32 rfl (Parts.nil _)) ?_
 intro v41 hv42
 have H43 := H39.nilrow kTPkt none 32
 have H45 := H43.nilrow kI none 3
 obtain ⟨r47, hr48, hF⟩ := bindS hF
 refine wl_call (vs := [(pt b13), (.int .i64 a0.A.State), (.slice A28 r19.2.length c29), v41]) en33 rfl (nego_work_acts_ok hc hs30 hv42 (St.pick [(.row kI none none 0 3 ([] : (List Int))), (.row kTPkt none none 0 32 ([] : (List TPkt))), (.box b31 23 (kTAuto.at_ r19.1)), (.box b13 63 (kTnego_workV.at_ (Tnego_workV.mk (TNego.mk r19.1 a0.R a0.Ours a0.Naks a0.Peer) (.slice none 0 0) (.slice none 0 0) zTPkt))), (.box b5 29 (kTNego.at_ zTNego)), (.box b1 29 (kTNego.at_ a0))] [(.box b13 63 (kTnego_workV.at_ (Tnego_workV.mk (TNego.mk r19.1 a0.R a0.Ours a0.Naks a0.Peer) (.slice none 0 0) (.slice none 0 0) zTPkt))), (.row kTPkt none none 0 32 ([] : (List TPkt))), (.row kI none none 0 3 ([] : (List Int))), (.box b31 23 (kTAuto.at_ r19.1)), (.box b5 29 (kTNego.at_ zTNego)), (.box b1 29 (kTNego.at_ a0))] [3, 1, 0, 2, 4, 5] H45 (by decide) rfl) hr48) ?_
 rintro v53 w52 ⟨G49, g54, A55, c56, g57, A58, c59, hG50, rfl, H51⟩
 refine wl_nil (then_n (wp_seq (wc_region ?_)))
 refine wl_rn (rn_pure (pt b13) rfl) ?_
 obtain ⟨r60, hr61, hF⟩ := bindS hF
 refine wl_call (vs := [(pt b13)]) en31 rfl (nego_work_told_ok hc H51 hr61) ?_
 rintro v66 w65 ⟨G62, v67, A69, c70, A72, c73, hG63, rfl, H64, hv68, hs71, hs74⟩
 refine wl_rn (rn_pure v67 rfl) ?_
 refine wl_rn (rn_pure (.slice A69 r60.2.1.length c70) rfl) ?_
 refine wl_rn (rn_pure (.slice A72 r60.2.2.length c73) rfl) ?_
 refine wl_store (z := r60.1) H64 (i := 1) rfl (Lens.id kTNego) ty29 rfl rfl hv68 ?_
 intro w76 H75
 refine wl_rn (rn_pure (.slice A69 r60.2.1.length c70) rfl) ?_
 refine wl_rn (rn_pure (.slice A72 r60.2.2.length c73) rfl) ?_
 refine wl_nil (then_n ?_)
 refine wp_ret ?_
 obtain ⟨v77, hv78, hl79⟩ := H75.loadv (i := 1) rfl ty29
 have hF := Option.some.inj hF
 subst hF
 exact ret_mk rfl (RV.cell rfl hl79 (RV.tmp rfl (RV.tmp rfl RV.nil))) ⟨_, v77, A69, c70, A72, c73, ((hG22.trans hG50).trans hG63), rfl, (St.pick [(.box b31 23 (kTAuto.at_ r19.1)), (.box b5 29 (kTNego.at_ r60.1)), (.box b1 29 (kTNego.at_ a0))] [] [] H75 (by decide) rfl), hv78, hs71, hs74⟩
end Go.Proofs.YtadlndnagfnlgaaDoor.W
