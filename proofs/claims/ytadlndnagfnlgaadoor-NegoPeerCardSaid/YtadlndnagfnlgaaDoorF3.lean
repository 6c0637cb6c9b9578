/- Calls come to what the plain functions say: written by a program (gen.py). -/
import Derived.Test.YtadlndnagfnlgaaDoorG
import Derived.Test.YtadlndnagfnlgaaDoorF0
import Derived.Test.YtadlndnagfnlgaaDoorF1
import Derived.Test.YtadlndnagfnlgaaDoorF2
set_option linter.unusedVariables false
set_option maxRecDepth 20000
namespace Go.Proofs.YtadlndnagfnlgaaDoor.W
open Go
set_option maxHeartbeats 4000000
attribute [local irreducible] wpList wpAny Code.wp wpListIn wpAnyIn Code.wpIn
theorem nego_work_echo_ok {c : World} (hc : Hc c) {G : Ghost} {w : World} {σ : List Ent} {b0 : Nat} {x2 : TNego} {x3 : (List TPkt)} {x8 : (List Int)} {x13 : TPkt} {g4 : Option Nat} {A5 : Option Addr} {c6 : Nat} {g9 : Option Nat} {A10 : Option Addr} {c11 : Nat}  (H : St c G w ((.box b0 63 (kTnego_workV.at_ (Tnego_workV.mk x2 (.slice A5 x3.length c6) (.slice A10 x8.length c11) x13))) :: (.row kTPkt g4 A5 c6 32 x3) :: (.row kI g9 A10 c11 3 x8) :: σ)) {r : (TNego × (List TPkt) × (List Int) × TPkt)} (hF : nego_work_echo x2 x3 x8 x13 = some r) :
  Calls Tryd.prog 59 ([(pt b0)] : List Value).toArray w (Ends fun v w' => ∃ (G' : Ghost) (g1' : Option Nat) (A2' : Option Addr) (c3' : Nat) (g4' : Option Nat) (A5' : Option Addr) (c6' : Nat), GLe G G' ∧ tup [] = v ∧ St c G' w' ((.box b0 63 (kTnego_workV.at_ (Tnego_workV.mk r.1 (.slice A2' r.2.1.length c3') (.slice A5' r.2.2.1.length c6') r.2.2.2))) :: (.row kTPkt g1' A2' c3' 32 r.2.1) :: (.row kI g4' A5' c6' 3 r.2.2.1) :: σ)) := by
 unfold nego_work_echo at hF
 refine calls_mk Tryd.func59 rfl rfl rfl ?_
 refine wp_seq (wc_region ?_)
 refine wl_rn (rn_pure (pt b0) rfl) ?_
 refine wl_rn (rn_nilCheck rfl) ?_
 refine wl_rn (rn_field fo63_3 rfl) ?_
 refine wl_rn (rn_field fo32_2 rfl) ?_
 refine wl_load H (i := 0) rfl (Lens.then lTnego_workV_P lTPkt_Data) ty30 rfl ?_
 intro v14 hv15
 obtain ⟨A16, c17, rfl, hs18⟩ := slice_V hv15
 refine wl_rn (rn_len sl30 rfl) ?_
 refine wl_rn (rn_pure (.bool (decide ((x13.Data.length : Int) ≥ 4))) rfl) ?_
 refine wl_nil (then_n ?_)
 rcases bcases (decide ((x13.Data.length : Int) ≥ 4)) with hb19 | hb19
 ·replace hF := ifT hF hb19
  refine wc_true (vb hb19) ?_
  refine wc_anyS (f := 17) H mixed ?_
  intro w20 H21
  refine any_pf (by repeat (first | exact PF.base | apply PF.then_ | apply PF.blk)) ?_
  intro hPF hns
  obtain ⟨r24, hr25, hF⟩ := bindS hF
  obtain ⟨r31, hr32, hF⟩ := bindS hF
  obtain ⟨r47, hr48, hF⟩ := bindS hF
  obtain ⟨r51, hr52, hF⟩ := bindS hF
  obtain ⟨r62, hr63, hF⟩ := bindS hF
  obtain ⟨r77, hr78, hF⟩ := bindS hF
  refine any_memo (fuel := 3) (m := 16383) (fun a w => ∃ (T0 : Fr) (G1 : Ghost) (g157 : Option Nat) (A158 : Option Addr) (c159 : Nat) (A160 : Option Addr) (c161 : Nat), a = mk 26 (upds T0 [(9, (pt b0)), (10, (pt b0)), (16, (.slice A158 r31.length c159)), (22, (.slice A160 r47.length c161))]) ∧ GLe G G1 ∧ St c G1 w ((.box b0 63 (kTnego_workV.at_ (Tnego_workV.mk x2 (.slice A5 x3.length c6) (.slice A10 x8.length c11) x13))) :: (.row kTPkt g4 A5 c6 32 x3) :: (.row kI g9 A10 c11 3 x8) :: (.row kB g157 A158 c159 5 r31) :: σ) ∧ SlR kB G1 A160 c161 r47) ?_ ?_
  ·rintro a w ⟨T0, G156, g157, A158, c159, A160, c161, rfl, hG154, H155, hs162⟩
   refine any_alls [14] ⟨any_ops (m' := 32767) fun Q' hN => ?_, trivial⟩
   refine wl_append H155 sl30 el5 (i := 3) rfl rfl rfl (hs162.src H155.ag) hr52 ?_
   intro g199 A200 c201 w202 H203
   refine wl_nil (hN _ _ ?_)
   refine any_alls [15] ⟨any_ops (m' := 65535) fun Q' hN => ?_, trivial⟩
   obtain ⟨G204, hG205, H206, hs207⟩ := H203.stay (i := 3) rfl (H203.capA (i := 3) rfl)
   refine wl_call (vs := [(pt b0), (.int .u8 10), (.slice A200 r51.length c201)]) en76 rfl (nego_work_reply_ok hc hs207 H206 hr63) ?_
   rintro v212 w211 ⟨G208, v213, g215, A216, c217, g218, A219, c220, hG209, rfl, H210, hv214⟩
   refine wl_nil (hN _ _ ?_)
   refine any_alls [16] ⟨any_ops (m' := 131071) fun Q' hN => ?_, trivial⟩
   refine wl_call (vs := [(pt b0), (.int .i64 15), v213]) en30 rfl (nego_work_event_ok hc hv214 H210 hr78) ?_
   rintro v225 w224 ⟨G221, A226, c227, g229, A230, c231, g232, A233, c234, hG222, rfl, H223, hs228⟩
   refine wl_nil (hN _ _ ?_)
   refine any_end ?_
   have hF := Option.some.inj hF
   subst hF
   exact end_mk rfl RV.nil ⟨_, g229, A230, c231, g232, A233, c234, (((hG154.trans hG205).trans hG209).trans hG222), rfl, H223⟩
  intro hM153
  refine any_memo (fuel := 4) (m := 16255) (fun a w => ∃ (T0 : Fr) (G1 : Ghost) (A150 : Option Addr) (c151 : Nat), a = mk 26 (upds T0 [(9, (pt b0)), (10, (pt b0)), (15, (.int .u32 r24)), (22, (.slice A150 r47.length c151))]) ∧ GLe G G1 ∧ St c G1 w ((.box b0 63 (kTnego_workV.at_ (Tnego_workV.mk x2 (.slice A5 x3.length c6) (.slice A10 x8.length c11) x13))) :: (.row kTPkt g4 A5 c6 32 x3) :: (.row kI g9 A10 c11 3 x8) :: σ) ∧ SlR kB G1 A150 c151 r47) ?_ ?_
  ·rintro a w ⟨T0, G149, A150, c151, rfl, hG147, H148, hs152⟩
   refine any_alls [7] ⟨any_ops (m' := 16383) fun Q' hN => ?_, trivial⟩
   refine wl_call (vs := [(.int .u32 r24)]) en81 rfl (opts_Four_ok hc H148 hr32) ?_
   rintro v239 w238 ⟨G235, g240, A241, c242, hG236, rfl, H237⟩
   refine wl_nil (hN _ _ ?_)
   exact hM153 _ _ ⟨_, _, g240, A241, c242, A150, c151, frame_eq _ ⟨rfl, rfl, rfl, rfl, trivial⟩, (hG147.trans hG236), (St.pk [1, 2, 3, 0] 4 H237 rfl (by decide)), (hs152.mono hG236)⟩
  intro hM146
  refine any_memo (fuel := 5) (m := 16191) (fun a w => ∃ (T0 : Fr) (G1 : Ghost) (v139 : Value) (A141 : Option Addr) (c142 : Nat), a = mk 26 (upds T0 [(9, (pt b0)), (10, (pt b0)), (14, v139), (22, (.slice A141 r47.length c142))]) ∧ GLe G G1 ∧ St c G1 w ((.box b0 63 (kTnego_workV.at_ (Tnego_workV.mk x2 (.slice A5 x3.length c6) (.slice A10 x8.length c11) x13))) :: (.row kTPkt g4 A5 c6 32 x3) :: (.row kI g9 A10 c11 3 x8) :: σ) ∧ kTNego.V G1 v139 x2 ∧ SlR kB G1 A141 c142 r47) ?_ ?_
  ·rintro a w ⟨T0, G138, v139, A141, c142, rfl, hG136, H137, hv140, hs143⟩
   refine any_alls [6] ⟨any_ops (m' := 16255) fun Q' hN => ?_, trivial⟩
   refine wl_call (vs := [v139]) en24 rfl (nego_Magic_ok hc hv140 H137 hr25) ?_
   rintro v248 w247 ⟨G244, hG245, rfl, H246⟩
   refine wl_nil (hN _ _ ?_)
   exact hM146 _ _ ⟨_, _, A141, c142, frame_eq _ ⟨rfl, rfl, rfl, rfl, trivial⟩, (hG136.trans hG245), H246, (hs143.mono hG245)⟩
  intro hM135
  refine any_rn (i := 0) (m' := 1) rfl (rn_pure (pt b0) rfl) hPF hns ?_
  refine any_rn (i := 1) (m' := 3) rfl (rn_pure (pt b0) rfl) hPF hns ?_
  refine any_rn (i := 2) (m' := 7) rfl (rn_pure (pt b0) rfl) hPF hns ?_
  refine any_rn (i := 3) (m' := 15) rfl (rn_nilCheck rfl) hPF hns ?_
  refine any_rn (i := 4) (m' := 31) rfl (rn_field fo63_0 rfl) hPF hns ?_
  refine any_rn (i := 8) (m' := 287) rfl (rn_pure (pt b0) rfl) hPF hns ?_
  refine any_rn (i := 9) (m' := 799) rfl (rn_nilCheck rfl) hPF hns ?_
  refine any_rn (i := 10) (m' := 1823) rfl (rn_field fo63_3 rfl) hPF hns ?_
  refine any_rn (i := 11) (m' := 3871) rfl (rn_field fo32_2 rfl) hPF hns ?_
  refine any_alls [5, 12] ⟨?_, ?_, trivial⟩
  ·refine any_ops (m' := 3903) fun Q' hN => ?_
   refine wl_load H21 (i := 0) rfl lTnego_workV_Nego ty29 rfl ?_
   intro v249 hv250
   refine wl_nil (hN _ _ ?_)
   refine any_alls [6, 12] ⟨?_, ?_, trivial⟩
   ·refine any_ops (m' := 3967) fun Q' hN => ?_
    refine wl_call (vs := [v249]) en24 rfl (nego_Magic_ok hc hv250 H21 hr25) ?_
    rintro v255 w254 ⟨G251, hG252, rfl, H253⟩
    refine wl_nil (hN _ _ ?_)
    refine any_alls [7, 12] ⟨?_, ?_, trivial⟩
    ·refine any_ops (m' := 4095) fun Q' hN => ?_
     refine wl_call (vs := [(.int .u32 r24)]) en81 rfl (opts_Four_ok hc H253 hr32) ?_
     rintro v260 w259 ⟨G256, g261, A262, c263, hG257, rfl, H258⟩
     refine wl_nil (hN _ _ ?_)
     refine any_alls [12] ⟨any_ops (m' := 8191) fun Q' hN => ?_, trivial⟩
     refine wl_load H258 (i := 1) rfl (Lens.then lTnego_workV_P lTPkt_Data) ty30 rfl ?_
     intro v265 hv266
     obtain ⟨A267, c268, rfl, hs269⟩ := slice_V hv266
     refine wl_nil (hN _ _ ?_)
     refine any_rnE (i := 13) (m' := 16383) rfl (rn_cut (lo := (some 4)) (hi := none) hs269 sl30 ty5 rfl ⟨_, rfl⟩ trivial hr48) hPF hns ?_
     intro z270 hs271
     exact hM153 _ _ ⟨_, _, g261, A262, c263, z270.1, z270.2, frame_eq _ ⟨rfl, rfl, rfl, rfl, trivial⟩, (hG252.trans hG257), (St.pk [1, 2, 3, 0] 4 H258 rfl (by decide)), hs271⟩
    ·refine any_ops (m' := 8063) fun Q' hN => ?_
     refine wl_load H253 (i := 0) rfl (Lens.then lTnego_workV_P lTPkt_Data) ty30 rfl ?_
     intro v272 hv273
     obtain ⟨A274, c275, rfl, hs276⟩ := slice_V hv273
     refine wl_nil (hN _ _ ?_)
     refine any_rnE (i := 13) (m' := 16255) rfl (rn_cut (lo := (some 4)) (hi := none) hs276 sl30 ty5 rfl ⟨_, rfl⟩ trivial hr48) hPF hns ?_
     intro z277 hs278
     exact hM146 _ _ ⟨_, _, z277.1, z277.2, frame_eq _ ⟨rfl, rfl, rfl, rfl, trivial⟩, hG252, H253, hs278⟩
   ·refine any_ops (m' := 7999) fun Q' hN => ?_
    refine wl_load H21 (i := 0) rfl (Lens.then lTnego_workV_P lTPkt_Data) ty30 rfl ?_
    intro v279 hv280
    obtain ⟨A281, c282, rfl, hs283⟩ := slice_V hv280
    refine wl_nil (hN _ _ ?_)
    refine any_rnE (i := 13) (m' := 16191) rfl (rn_cut (lo := (some 4)) (hi := none) hs283 sl30 ty5 rfl ⟨_, rfl⟩ trivial hr48) hPF hns ?_
    intro z284 hs285
    exact hM135 _ _ ⟨_, _, v249, z284.1, z284.2, frame_eq _ ⟨rfl, rfl, rfl, rfl, trivial⟩, GLe.refl _, H21, hv250, hs285⟩
  ·refine any_ops (m' := 7967) fun Q' hN => ?_
   refine wl_load H21 (i := 0) rfl (Lens.then lTnego_workV_P lTPkt_Data) ty30 rfl ?_
   intro v286 hv287
   obtain ⟨A288, c289, rfl, hs290⟩ := slice_V hv287
   refine wl_nil (hN _ _ ?_)
   refine any_rnE (i := 13) (m' := 16159) rfl (rn_cut (lo := (some 4)) (hi := none) hs290 sl30 ty5 rfl ⟨_, rfl⟩ trivial hr48) hPF hns ?_
   intro z291 hs292
   refine any_alls [5] ⟨any_ops (m' := 16191) fun Q' hN => ?_, trivial⟩
   refine wl_load H21 (i := 0) rfl lTnego_workV_Nego ty29 rfl ?_
   intro v293 hv294
   refine wl_nil (hN _ _ ?_)
   exact hM135 _ _ ⟨_, _, v293, z291.1, z291.2, frame_eq _ ⟨rfl, rfl, rfl, rfl, trivial⟩, GLe.refl _, H21, hv294, hs292⟩
 ·replace hF := ifF hF hb19
  refine wc_false (vb hb19) ?_
  refine wp_skip ?_
  have hF := Option.some.inj hF
  subst hF
  exact end_mk rfl RV.nil ⟨_, g4, A5, c6, g9, A10, c11, GLe.refl _, rfl, H⟩

theorem nego_work_nothing_ok {c : World} (hc : Hc c) {G : Ghost} {w : World} {σ : List Ent} {b0 : Nat} {x2 : TNego} {x3 : (List TPkt)} {x8 : (List Int)} {x13 : TPkt} {g4 : Option Nat} {A5 : Option Addr} {c6 : Nat} {g9 : Option Nat} {A10 : Option Addr} {c11 : Nat}  (H : St c G w ((.box b0 63 (kTnego_workV.at_ (Tnego_workV.mk x2 (.slice A5 x3.length c6) (.slice A10 x8.length c11) x13))) :: (.row kTPkt g4 A5 c6 32 x3) :: (.row kI g9 A10 c11 3 x8) :: σ)) {r : (TNego × (List TPkt) × (List Int) × TPkt)} (hF : nego_work_nothing x2 x3 x8 x13 = some r) :
  Calls Tryd.prog 60 ([(pt b0)] : List Value).toArray w (Ends fun v w' => ∃ (G' : Ghost) (g1' : Option Nat) (A2' : Option Addr) (c3' : Nat) (g4' : Option Nat) (A5' : Option Addr) (c6' : Nat), GLe G G' ∧ tup [] = v ∧ St c G' w' ((.box b0 63 (kTnego_workV.at_ (Tnego_workV.mk r.1 (.slice A2' r.2.1.length c3') (.slice A5' r.2.2.1.length c6') r.2.2.2))) :: (.row kTPkt g1' A2' c3' 32 r.2.1) :: (.row kI g4' A5' c6' 3 r.2.2.1) :: σ)) := by
 unfold nego_work_nothing at hF
 refine calls_mk Tryd.func60 rfl rfl rfl ?_
 refine wp_skip ?_
 have hF := Option.some.inj hF
 subst hF
 exact end_mk rfl RV.nil ⟨_, g4, A5, c6, g9, A10, c11, GLe.refl _, rfl, H⟩

theorem nego_Take_ok {c : World} (hc : Hc c) {G : Ghost} {w : World} {σ : List Ent} {a0 : TNego} {v0_ : Value} {a1 : TPkt} {v1_ : Value} (h0_ : kTNego.V G v0_ a0) (h1_ : kTPkt.V G v1_ a1) (H : St c G w (σ)) {r : (TNego × (List TPkt) × (List Int))} (hF : nego_Take a0 a1 = some r) :
  Calls Tryd.prog 13 ([v0_, v1_] : List Value).toArray w (Ends fun v w' => ∃ (G' : Ghost) (v1' : Value) (A2' : Option Addr) (c3' : Nat) (A4' : Option Addr) (c5' : Nat), GLe G G' ∧ tup [v1', (.slice A2' r.2.1.length c3'), (.slice A4' r.2.2.length c5')] = v ∧ St c G' w' (σ) ∧ kTNego.V G' v1' r.1 ∧ SlR kTPkt G' A2' c3' r.2.1 ∧ SlR kI G' A4' c5' r.2.2) := by
 unfold nego_Take at hF
 refine calls_mk Tryd.func13 rfl rfl rfl ?_
 refine wp_seq (wc_region ?_)
 refine wl_box (K := kTNego) (x := a0) H rfl h0_ ?_
 intro b1 w4 H2
 refine wl_box (K := kTPkt) (x := a1) H2 rfl h1_ ?_
 intro b5 w8 H6
 refine wl_alloc H6 zr29 ?_
 intro b9 w12 H10
 iterate 2 refine wl_rn (rn_pure (.slice none 0 0) rfl) ?_
 refine wl_nil (then_n (wp_seq (wc_region ?_)))
 refine wl_load H10 (i := 2) rfl (Lens.id kTNego) ty29 rfl ?_
 intro v13 hv14
 refine wl_load H10 (i := 1) rfl (Lens.id kTPkt) ty32 rfl ?_
 intro v15 hv16
 refine wl_rnE (rn_build (G := G) zr63V rfl bs63 rfl (Parts.cons fo63_0 lTnego_workV_Nego hv14 (Parts.cons fo63_3 lTnego_workV_P hv16 (Parts.nil _)))) ?_
 intro v17 hv18
 refine wl_box (K := kTnego_workV) (x := (Tnego_workV.mk a0 (.slice none 0 0) (.slice none 0 0) a1)) H10 rfl hv18 ?_
 intro b19 w22 H20
 refine wl_rn (rn_pure (pt b19) rfl) ?_
 refine wl_nil (then_n (wp_seq (wc_region ?_)))
 refine wl_rn (rn_pure (.int .u16 49185) rfl) ?_
 refine wl_nil (then_n ?_)
 refine wp_seq (join (fun a w => ∃ (T0 : Fr) (G1 : Ghost) (x24 : Int) (x25 : TNego) (x26 : (List TPkt)) (x31 : (List Int)) (x36 : TPkt) (g27 : Option Nat) (A28 : Option Addr) (c29 : Nat) (g32 : Option Nat) (A33 : Option Addr) (c34 : Nat), a = mk 45 (upds T0 [(2, (pt b1)), (3, (pt b5)), (4, (pt b9)), (7, (pt b19)), (8, (.int .u16 x24))]) ∧ GLe G G1 ∧ St c G1 w ((.box b19 63 (kTnego_workV.at_ (Tnego_workV.mk x25 (.slice A28 x26.length c29) (.slice A33 x31.length c34) x36))) :: (.row kTPkt g27 A28 c29 32 x26) :: (.row kI g32 A33 c34 3 x31) :: (.box b9 29 (kTNego.at_ zTNego)) :: (.box b5 32 (kTPkt.at_ a1)) :: (.box b1 29 (kTNego.at_ a0)) :: σ) ∧ nego_Take_j1 a0 a1 x24 x25 x26 x31 x36 = some r) ?_ ?_)
 ·rintro a w ⟨T0, G39, x24, x25, x26, x31, x36, g27, A28, c29, g32, A33, c34, rfl, hG37, H38, hF⟩
  refine wp_seq (join (fun a w => ∃ (T0 : Fr) (G1 : Ghost) (x239 : TNego) (x240 : (List TPkt)) (x245 : (List Int)) (x250 : TPkt) (g241 : Option Nat) (A242 : Option Addr) (c243 : Nat) (g246 : Option Nat) (A247 : Option Addr) (c248 : Nat), a = mk 45 (upds T0 [(4, (pt b9)), (7, (pt b19))]) ∧ GLe G39 G1 ∧ St c G1 w ((.box b19 63 (kTnego_workV.at_ (Tnego_workV.mk x239 (.slice A242 x240.length c243) (.slice A247 x245.length c248) x250))) :: (.row kTPkt g241 A242 c243 32 x240) :: (.row kI g246 A247 c248 3 x245) :: (.box b9 29 (kTNego.at_ zTNego)) :: σ) ∧ nego_Take_j2 x239 x240 x245 x250 = some r) ?_ ?_)
  ·rintro a w ⟨T0, G253, x239, x240, x245, x250, g241, A242, c243, g246, A247, c248, rfl, hG251, H252, hF⟩
   refine wp_seq (wc_region ?_)
   refine wl_rn (rn_pure (pt b19) rfl) ?_
   obtain ⟨r254, hr255, hF⟩ := bindS hF
   refine wl_call (vs := [(pt b19)]) en31 rfl (nego_work_told_ok hc H252 hr255) ?_
   rintro v260 w259 ⟨G256, v261, A263, c264, A266, c267, hG257, rfl, H258, hv262, hs265, hs268⟩
   refine wl_rn (rn_pure v261 rfl) ?_
   refine wl_rn (rn_pure (.slice A263 r254.2.1.length c264) rfl) ?_
   refine wl_rn (rn_pure (.slice A266 r254.2.2.length c267) rfl) ?_
   refine wl_store (z := r254.1) H258 (i := 0) rfl (Lens.id kTNego) ty29 rfl rfl hv262 ?_
   intro w270 H269
   refine wl_rn (rn_pure (.slice A263 r254.2.1.length c264) rfl) ?_
   refine wl_rn (rn_pure (.slice A266 r254.2.2.length c267) rfl) ?_
   refine wl_nil (then_n ?_)
   refine wp_ret ?_
   obtain ⟨v271, hv272, hl273⟩ := H269.loadv (i := 0) rfl ty29
   have hF := Option.some.inj hF
   subst hF
   exact ret_mk rfl (RV.cell rfl hl273 (RV.tmp rfl (RV.tmp rfl RV.nil))) ⟨_, v271, A263, c264, A266, c267, ((hG37.trans hG251).trans hG257), rfl, (St.pk [] 1 H269 rfl (by decide)), hv272, hs265, hs268⟩
  ·refine wp_block ?_
   refine wp_seq (wc_region ?_)
   refine wl_rn (rn_field fo29_0 rfl) ?_
   refine wl_rn (rn_field fo23_0 rfl) ?_
   refine wl_loadd H38 (i := 5) rfl (Lens.then lTNego_A lTAuto_State) (dInt .i64) ty3 rfl ?_
   iterate 2 refine wl_rn (rn_pure (.bool (decide (a0.A.State ≤ 1))) rfl) ?_
   refine wl_nil (then_n ?_)
   rcases bcases (decide (a0.A.State ≤ 1)) with hb274 | hb274
   ·replace hF := ifT hF hb274
    refine wc_true (vb hb274) ?_
    refine wp_skip ?_
    refine blk_n ?_
    refine then_n ?_
    exact ⟨_, _, x25, x26, x31, x36, g27, A28, c29, g32, A33, c34, frame_eq _ ⟨rfl, rfl, trivial⟩, GLe.refl _, (St.pk [0, 1, 2, 3] 6 H38 rfl (by decide)), hF⟩
   ·replace hF := ifF hF hb274
    refine wc_false (vb hb274) ?_
    refine wp_seq (wc_region ?_)
    refine wl_rn (rn_pure (.int .u16 x24) rfl) ?_
    refine wl_rn (rn_field fo32_0 rfl) ?_
    refine wl_loadd H38 (i := 4) rfl lTPkt_Code (dInt .u8) ty5 rfl ?_
    obtain ⟨r275, hr276, hF⟩ := bindS hF
    refine wl_call (vs := [(.int .u16 x24), (.int .u8 a1.Code)]) en34 rfl (pack_Known_ok hc H38 hr276) ?_
    rintro v281 w280 ⟨G277, hG278, rfl, H279⟩
    iterate 2 refine wl_rn (rn_pure (.bool (!r275)) rfl) ?_
    refine wl_nil (then_n ?_)
    rcases bcases (!r275) with hb282 | hb282
    ·replace hF := ifT hF hb282
     refine wc_true (vb hb282) ?_
     refine wc_region ?_
     refine wl_rn (rn_pure (pt b19) rfl) ?_
     refine wl_load H279 (i := 4) rfl (Lens.id kTPkt) ty32 rfl ?_
     intro v283 hv284
     refine wl_rn (rn_field fo29_0 rfl) ?_
     refine wl_rn (rn_field fo23_3 rfl) ?_
     refine wl_loadd H279 (i := 5) rfl (Lens.then lTNego_A lTAuto_Id) (dInt .u8) ty5 rfl ?_
     obtain ⟨r285, hr286, hF⟩ := bindS hF
     refine wl_call (vs := [v283, (.int .u8 a0.A.Id)]) en35 rfl (pack_Reject_ok hc hv284 H279 hr286) ?_
     rintro v291 w290 ⟨G287, v292, hG288, rfl, H289, hv293⟩
     obtain ⟨r294, hr295, hF⟩ := bindS hF
     refine wl_call (vs := [(pt b19), (.int .i64 12), v292]) en30 rfl (nego_work_event_ok hc hv293 H289 hr295) ?_
     rintro v300 w299 ⟨G296, A301, c302, g304, A305, c306, g307, A308, c309, hG297, rfl, H298, hs303⟩
     refine wl_nil (blk_n ?_)
     refine then_n ?_
     exact ⟨_, _, r294.2.1, r294.2.2.1, r294.2.2.2.1, r294.2.2.2.2, g304, A305, c306, g307, A308, c309, frame_eq _ ⟨rfl, rfl, trivial⟩, ((hG278.trans hG288).trans hG297), (St.pk [0, 1, 2, 3] 6 H298 rfl (by decide)), hF⟩
    ·replace hF := ifF hF hb282
     refine wc_false (vb hb282) ?_
     refine wc_anyS (f := 6) H279 mixed ?_
     intro w310 H311
     refine any_pf (by repeat (first | exact PF.base | apply PF.then_ | apply PF.blk)) ?_
     intro hPF hns
     obtain ⟨r312, hr313, hF⟩ := bindS hF
     rcases bcases (a1.Code == 1) with hb321 | hb321
     ·replace hF := ifT hF hb321
      obtain ⟨r322, hr323, hF⟩ := bindS hF
      refine any_memo (fuel := 2) (m := 23) (fun a w => ∃ (T0 : Fr) (G1 : Ghost) (r346 : Nat), a = mk 45 (upds T0 [(4, (pt b9)), (7, (pt b19)), (16, (.map (some r346))), (18, (.int .u8 a1.Code)), (20, (pt b19))]) ∧ GLe G277 G1 ∧ St c G1 w ((.box b9 29 (kTNego.at_ zTNego)) :: (.box b19 63 (kTnego_workV.at_ (Tnego_workV.mk x25 (.slice A28 x26.length c29) (.slice A33 x31.length c34) x36))) :: (.row kTPkt g27 A28 c29 32 x26) :: (.row kI g32 A33 c34 3 x31) :: (.mp r346 [⟨.int .u8 1, (.func (.func 52) #[] #[]), 0⟩, ⟨.int .u8 2, (.func (.func 53) #[] #[]), 1⟩, ⟨.int .u8 3, (.func (.func 54) #[] #[]), 2⟩, ⟨.int .u8 4, (.func (.func 54) #[] #[]), 3⟩, ⟨.int .u8 5, (.func (.func 55) #[] #[]), 4⟩, ⟨.int .u8 6, (.func (.func 56) #[] #[]), 5⟩, ⟨.int .u8 7, (.func (.func 57) #[] #[]), 6⟩, ⟨.int .u8 8, (.func (.func 58) #[] #[]), 7⟩, ⟨.int .u8 9, (.func (.func 59) #[] #[]), 8⟩, ⟨.int .u8 10, (.func (.func 60) #[] #[]), 9⟩, ⟨.int .u8 11, (.func (.func 60) #[] #[]), 10⟩] 11) :: σ)) ?_ ?_
      ·rintro a w ⟨T0, G345, r346, rfl, hG343, H344⟩
       refine any_alls [3] ⟨any_ops (m' := 31) fun Q' hN => ?_, trivial⟩
       refine wl_lookup (key := (.int .u8 a1.Code)) (val := (.func (.func 52) #[] #[])) (ok := true) H344 (i := 4) rfl mt73 un5 rfl rfl (by simp [Go.MapKept.IsKey]) ⟨_, (fnd_yes hb321), .inl ⟨_, rfl, rfl⟩⟩ ?_
       refine wl_nil (hN _ _ ?_)
       refine any_alls [5] ⟨any_ops (m' := 63) fun Q' hN => ?_, trivial⟩
       refine wl_callv (first := []) (captured := []) (vs := [(pt b19)]) en52 rfl rfl (nego_work_request_ok hc (St.pk [1, 2, 3, 0, 4] 5 H344 rfl (by decide)) hr323) ?_
       rintro v362 w361 ⟨G358, g363, A364, c365, g366, A367, c368, hG359, rfl, H360⟩
       refine wl_nil (hN _ _ ?_)
       refine any_end ?_
       refine blk_n ?_
       refine then_n ?_
       exact ⟨_, _, r322.1, r322.2.1, r322.2.2.1, r322.2.2.2, g363, A364, c365, g366, A367, c368, frame_eq _ ⟨rfl, rfl, trivial⟩, ((hG278.trans hG343).trans hG359), (St.pk [0, 1, 2, 3] 5 H360 rfl (by decide)), hF⟩
      intro hM342
      refine any_rn (i := 1) (m' := 2) rfl (rn_field fo32_0 rfl) hPF hns ?_
      refine any_rn (i := 4) (m' := 18) rfl (rn_pure (pt b19) rfl) hPF hns ?_
      refine any_alls [0, 2] ⟨?_, ?_, trivial⟩
      ·refine any_ops (m' := 19) fun Q' hN => ?_
       refine wl_call (vs := []) en36 rfl (nego_codes_ok hc H311 hr313) ?_
       rintro v373 w372 ⟨G369, r374, hG370, rfl, H371⟩
       refine wl_nil (hN _ _ ?_)
       refine any_alls [2] ⟨any_ops (m' := 23) fun Q' hN => ?_, trivial⟩
       refine wl_loadd H371 (i := 5) rfl lTPkt_Code (dInt .u8) ty5 rfl ?_
       refine wl_nil (hN _ _ ?_)
       exact hM342 _ _ ⟨_, _, r374, frame_eq _ ⟨rfl, rfl, rfl, rfl, rfl, trivial⟩, hG370, (St.pk [4, 1, 2, 3, 0] 7 H371 rfl (by decide))⟩
      ·refine any_ops (m' := 22) fun Q' hN => ?_
       refine wl_loadd H311 (i := 4) rfl lTPkt_Code (dInt .u8) ty5 rfl ?_
       refine wl_nil (hN _ _ ?_)
       refine any_alls [0] ⟨any_ops (m' := 23) fun Q' hN => ?_, trivial⟩
       refine wl_call (vs := []) en36 rfl (nego_codes_ok hc H311 hr313) ?_
       rintro v380 w379 ⟨G376, r381, hG377, rfl, H378⟩
       refine wl_nil (hN _ _ ?_)
       exact hM342 _ _ ⟨_, _, r381, frame_eq _ ⟨rfl, rfl, rfl, rfl, rfl, trivial⟩, hG377, (St.pk [4, 1, 2, 3, 0] 7 H378 rfl (by decide))⟩
     ·replace hF := ifF hF hb321
      rcases bcases (a1.Code == 2) with hb383 | hb383
      ·replace hF := ifT hF hb383
       obtain ⟨r384, hr385, hF⟩ := bindS hF
       refine any_memo (fuel := 2) (m := 23) (fun a w => ∃ (T0 : Fr) (G1 : Ghost) (r408 : Nat), a = mk 45 (upds T0 [(4, (pt b9)), (7, (pt b19)), (16, (.map (some r408))), (18, (.int .u8 a1.Code)), (20, (pt b19))]) ∧ GLe G277 G1 ∧ St c G1 w ((.box b9 29 (kTNego.at_ zTNego)) :: (.box b19 63 (kTnego_workV.at_ (Tnego_workV.mk x25 (.slice A28 x26.length c29) (.slice A33 x31.length c34) x36))) :: (.row kTPkt g27 A28 c29 32 x26) :: (.row kI g32 A33 c34 3 x31) :: (.mp r408 [⟨.int .u8 1, (.func (.func 52) #[] #[]), 0⟩, ⟨.int .u8 2, (.func (.func 53) #[] #[]), 1⟩, ⟨.int .u8 3, (.func (.func 54) #[] #[]), 2⟩, ⟨.int .u8 4, (.func (.func 54) #[] #[]), 3⟩, ⟨.int .u8 5, (.func (.func 55) #[] #[]), 4⟩, ⟨.int .u8 6, (.func (.func 56) #[] #[]), 5⟩, ⟨.int .u8 7, (.func (.func 57) #[] #[]), 6⟩, ⟨.int .u8 8, (.func (.func 58) #[] #[]), 7⟩, ⟨.int .u8 9, (.func (.func 59) #[] #[]), 8⟩, ⟨.int .u8 10, (.func (.func 60) #[] #[]), 9⟩, ⟨.int .u8 11, (.func (.func 60) #[] #[]), 10⟩] 11) :: σ)) ?_ ?_
       ·rintro a w ⟨T0, G407, r408, rfl, hG405, H406⟩
        refine any_alls [3] ⟨any_ops (m' := 31) fun Q' hN => ?_, trivial⟩
        refine wl_lookup (key := (.int .u8 a1.Code)) (val := (.func (.func 53) #[] #[])) (ok := true) H406 (i := 4) rfl mt73 un5 rfl rfl (by simp [Go.MapKept.IsKey]) ⟨_, (fnd_no hb321 (fnd_yes hb383)), .inl ⟨_, rfl, rfl⟩⟩ ?_
        refine wl_nil (hN _ _ ?_)
        refine any_alls [5] ⟨any_ops (m' := 63) fun Q' hN => ?_, trivial⟩
        refine wl_callv (first := []) (captured := []) (vs := [(pt b19)]) en53 rfl rfl (nego_work_ack_ok hc (St.pk [1, 2, 3, 0, 4] 5 H406 rfl (by decide)) hr385) ?_
        rintro v424 w423 ⟨G420, g425, A426, c427, g428, A429, c430, hG421, rfl, H422⟩
        refine wl_nil (hN _ _ ?_)
        refine any_end ?_
        refine blk_n ?_
        refine then_n ?_
        exact ⟨_, _, r384.1, r384.2.1, r384.2.2.1, r384.2.2.2, g425, A426, c427, g428, A429, c430, frame_eq _ ⟨rfl, rfl, trivial⟩, ((hG278.trans hG405).trans hG421), (St.pk [0, 1, 2, 3] 5 H422 rfl (by decide)), hF⟩
       intro hM404
       refine any_rn (i := 1) (m' := 2) rfl (rn_field fo32_0 rfl) hPF hns ?_
       refine any_rn (i := 4) (m' := 18) rfl (rn_pure (pt b19) rfl) hPF hns ?_
       refine any_alls [0, 2] ⟨?_, ?_, trivial⟩
       ·refine any_ops (m' := 19) fun Q' hN => ?_
        refine wl_call (vs := []) en36 rfl (nego_codes_ok hc H311 hr313) ?_
        rintro v435 w434 ⟨G431, r436, hG432, rfl, H433⟩
        refine wl_nil (hN _ _ ?_)
        refine any_alls [2] ⟨any_ops (m' := 23) fun Q' hN => ?_, trivial⟩
        refine wl_loadd H433 (i := 5) rfl lTPkt_Code (dInt .u8) ty5 rfl ?_
        refine wl_nil (hN _ _ ?_)
        exact hM404 _ _ ⟨_, _, r436, frame_eq _ ⟨rfl, rfl, rfl, rfl, rfl, trivial⟩, hG432, (St.pk [4, 1, 2, 3, 0] 7 H433 rfl (by decide))⟩
       ·refine any_ops (m' := 22) fun Q' hN => ?_
        refine wl_loadd H311 (i := 4) rfl lTPkt_Code (dInt .u8) ty5 rfl ?_
        refine wl_nil (hN _ _ ?_)
        refine any_alls [0] ⟨any_ops (m' := 23) fun Q' hN => ?_, trivial⟩
        refine wl_call (vs := []) en36 rfl (nego_codes_ok hc H311 hr313) ?_
        rintro v442 w441 ⟨G438, r443, hG439, rfl, H440⟩
        refine wl_nil (hN _ _ ?_)
        exact hM404 _ _ ⟨_, _, r443, frame_eq _ ⟨rfl, rfl, rfl, rfl, rfl, trivial⟩, hG439, (St.pk [4, 1, 2, 3, 0] 7 H440 rfl (by decide))⟩
      ·replace hF := ifF hF hb383
       rcases bcases (a1.Code == 3) with hb445 | hb445
       ·replace hF := ifT hF hb445
        obtain ⟨r446, hr447, hF⟩ := bindS hF
        refine any_memo (fuel := 2) (m := 23) (fun a w => ∃ (T0 : Fr) (G1 : Ghost) (r470 : Nat), a = mk 45 (upds T0 [(4, (pt b9)), (7, (pt b19)), (16, (.map (some r470))), (18, (.int .u8 a1.Code)), (20, (pt b19))]) ∧ GLe G277 G1 ∧ St c G1 w ((.box b9 29 (kTNego.at_ zTNego)) :: (.box b19 63 (kTnego_workV.at_ (Tnego_workV.mk x25 (.slice A28 x26.length c29) (.slice A33 x31.length c34) x36))) :: (.row kTPkt g27 A28 c29 32 x26) :: (.row kI g32 A33 c34 3 x31) :: (.mp r470 [⟨.int .u8 1, (.func (.func 52) #[] #[]), 0⟩, ⟨.int .u8 2, (.func (.func 53) #[] #[]), 1⟩, ⟨.int .u8 3, (.func (.func 54) #[] #[]), 2⟩, ⟨.int .u8 4, (.func (.func 54) #[] #[]), 3⟩, ⟨.int .u8 5, (.func (.func 55) #[] #[]), 4⟩, ⟨.int .u8 6, (.func (.func 56) #[] #[]), 5⟩, ⟨.int .u8 7, (.func (.func 57) #[] #[]), 6⟩, ⟨.int .u8 8, (.func (.func 58) #[] #[]), 7⟩, ⟨.int .u8 9, (.func (.func 59) #[] #[]), 8⟩, ⟨.int .u8 10, (.func (.func 60) #[] #[]), 9⟩, ⟨.int .u8 11, (.func (.func 60) #[] #[]), 10⟩] 11) :: σ)) ?_ ?_
        ·rintro a w ⟨T0, G469, r470, rfl, hG467, H468⟩
         refine any_alls [3] ⟨any_ops (m' := 31) fun Q' hN => ?_, trivial⟩
         refine wl_lookup (key := (.int .u8 a1.Code)) (val := (.func (.func 54) #[] #[])) (ok := true) H468 (i := 4) rfl mt73 un5 rfl rfl (by simp [Go.MapKept.IsKey]) ⟨_, (fnd_no hb321 (fnd_no hb383 (fnd_yes hb445))), .inl ⟨_, rfl, rfl⟩⟩ ?_
         refine wl_nil (hN _ _ ?_)
         refine any_alls [5] ⟨any_ops (m' := 63) fun Q' hN => ?_, trivial⟩
         refine wl_callv (first := []) (captured := []) (vs := [(pt b19)]) en54 rfl rfl (nego_work_nak_ok hc (St.pk [1, 2, 3, 0, 4] 5 H468 rfl (by decide)) hr447) ?_
         rintro v486 w485 ⟨G482, g487, A488, c489, g490, A491, c492, hG483, rfl, H484⟩
         refine wl_nil (hN _ _ ?_)
         refine any_end ?_
         refine blk_n ?_
         refine then_n ?_
         exact ⟨_, _, r446.1, r446.2.1, r446.2.2.1, r446.2.2.2, g487, A488, c489, g490, A491, c492, frame_eq _ ⟨rfl, rfl, trivial⟩, ((hG278.trans hG467).trans hG483), (St.pk [0, 1, 2, 3] 5 H484 rfl (by decide)), hF⟩
        intro hM466
        refine any_rn (i := 1) (m' := 2) rfl (rn_field fo32_0 rfl) hPF hns ?_
        refine any_rn (i := 4) (m' := 18) rfl (rn_pure (pt b19) rfl) hPF hns ?_
        refine any_alls [0, 2] ⟨?_, ?_, trivial⟩
        ·refine any_ops (m' := 19) fun Q' hN => ?_
         refine wl_call (vs := []) en36 rfl (nego_codes_ok hc H311 hr313) ?_
         rintro v497 w496 ⟨G493, r498, hG494, rfl, H495⟩
         refine wl_nil (hN _ _ ?_)
         refine any_alls [2] ⟨any_ops (m' := 23) fun Q' hN => ?_, trivial⟩
         refine wl_loadd H495 (i := 5) rfl lTPkt_Code (dInt .u8) ty5 rfl ?_
         refine wl_nil (hN _ _ ?_)
         exact hM466 _ _ ⟨_, _, r498, frame_eq _ ⟨rfl, rfl, rfl, rfl, rfl, trivial⟩, hG494, (St.pk [4, 1, 2, 3, 0] 7 H495 rfl (by decide))⟩
        ·refine any_ops (m' := 22) fun Q' hN => ?_
         refine wl_loadd H311 (i := 4) rfl lTPkt_Code (dInt .u8) ty5 rfl ?_
         refine wl_nil (hN _ _ ?_)
         refine any_alls [0] ⟨any_ops (m' := 23) fun Q' hN => ?_, trivial⟩
         refine wl_call (vs := []) en36 rfl (nego_codes_ok hc H311 hr313) ?_
         rintro v504 w503 ⟨G500, r505, hG501, rfl, H502⟩
         refine wl_nil (hN _ _ ?_)
         exact hM466 _ _ ⟨_, _, r505, frame_eq _ ⟨rfl, rfl, rfl, rfl, rfl, trivial⟩, hG501, (St.pk [4, 1, 2, 3, 0] 7 H502 rfl (by decide))⟩
       ·replace hF := ifF hF hb445
        rcases bcases (a1.Code == 4) with hb507 | hb507
        ·replace hF := ifT hF hb507
         obtain ⟨r508, hr509, hF⟩ := bindS hF
         refine any_memo (fuel := 2) (m := 23) (fun a w => ∃ (T0 : Fr) (G1 : Ghost) (r532 : Nat), a = mk 45 (upds T0 [(4, (pt b9)), (7, (pt b19)), (16, (.map (some r532))), (18, (.int .u8 a1.Code)), (20, (pt b19))]) ∧ GLe G277 G1 ∧ St c G1 w ((.box b9 29 (kTNego.at_ zTNego)) :: (.box b19 63 (kTnego_workV.at_ (Tnego_workV.mk x25 (.slice A28 x26.length c29) (.slice A33 x31.length c34) x36))) :: (.row kTPkt g27 A28 c29 32 x26) :: (.row kI g32 A33 c34 3 x31) :: (.mp r532 [⟨.int .u8 1, (.func (.func 52) #[] #[]), 0⟩, ⟨.int .u8 2, (.func (.func 53) #[] #[]), 1⟩, ⟨.int .u8 3, (.func (.func 54) #[] #[]), 2⟩, ⟨.int .u8 4, (.func (.func 54) #[] #[]), 3⟩, ⟨.int .u8 5, (.func (.func 55) #[] #[]), 4⟩, ⟨.int .u8 6, (.func (.func 56) #[] #[]), 5⟩, ⟨.int .u8 7, (.func (.func 57) #[] #[]), 6⟩, ⟨.int .u8 8, (.func (.func 58) #[] #[]), 7⟩, ⟨.int .u8 9, (.func (.func 59) #[] #[]), 8⟩, ⟨.int .u8 10, (.func (.func 60) #[] #[]), 9⟩, ⟨.int .u8 11, (.func (.func 60) #[] #[]), 10⟩] 11) :: σ)) ?_ ?_
         ·rintro a w ⟨T0, G531, r532, rfl, hG529, H530⟩
          refine any_alls [3] ⟨any_ops (m' := 31) fun Q' hN => ?_, trivial⟩
          refine wl_lookup (key := (.int .u8 a1.Code)) (val := (.func (.func 54) #[] #[])) (ok := true) H530 (i := 4) rfl mt73 un5 rfl rfl (by simp [Go.MapKept.IsKey]) ⟨_, (fnd_no hb321 (fnd_no hb383 (fnd_no hb445 (fnd_yes hb507)))), .inl ⟨_, rfl, rfl⟩⟩ ?_
          refine wl_nil (hN _ _ ?_)
          refine any_alls [5] ⟨any_ops (m' := 63) fun Q' hN => ?_, trivial⟩
          refine wl_callv (first := []) (captured := []) (vs := [(pt b19)]) en54 rfl rfl (nego_work_nak_ok hc (St.pk [1, 2, 3, 0, 4] 5 H530 rfl (by decide)) hr509) ?_
          rintro v548 w547 ⟨G544, g549, A550, c551, g552, A553, c554, hG545, rfl, H546⟩
          refine wl_nil (hN _ _ ?_)
          refine any_end ?_
          refine blk_n ?_
          refine then_n ?_
          exact ⟨_, _, r508.1, r508.2.1, r508.2.2.1, r508.2.2.2, g549, A550, c551, g552, A553, c554, frame_eq _ ⟨rfl, rfl, trivial⟩, ((hG278.trans hG529).trans hG545), (St.pk [0, 1, 2, 3] 5 H546 rfl (by decide)), hF⟩
         intro hM528
         refine any_rn (i := 1) (m' := 2) rfl (rn_field fo32_0 rfl) hPF hns ?_
         refine any_rn (i := 4) (m' := 18) rfl (rn_pure (pt b19) rfl) hPF hns ?_
         refine any_alls [0, 2] ⟨?_, ?_, trivial⟩
         ·refine any_ops (m' := 19) fun Q' hN => ?_
          refine wl_call (vs := []) en36 rfl (nego_codes_ok hc H311 hr313) ?_
          rintro v559 w558 ⟨G555, r560, hG556, rfl, H557⟩
          refine wl_nil (hN _ _ ?_)
          refine any_alls [2] ⟨any_ops (m' := 23) fun Q' hN => ?_, trivial⟩
          refine wl_loadd H557 (i := 5) rfl lTPkt_Code (dInt .u8) ty5 rfl ?_
          refine wl_nil (hN _ _ ?_)
          exact hM528 _ _ ⟨_, _, r560, frame_eq _ ⟨rfl, rfl, rfl, rfl, rfl, trivial⟩, hG556, (St.pk [4, 1, 2, 3, 0] 7 H557 rfl (by decide))⟩
         ·refine any_ops (m' := 22) fun Q' hN => ?_
          refine wl_loadd H311 (i := 4) rfl lTPkt_Code (dInt .u8) ty5 rfl ?_
          refine wl_nil (hN _ _ ?_)
          refine any_alls [0] ⟨any_ops (m' := 23) fun Q' hN => ?_, trivial⟩
          refine wl_call (vs := []) en36 rfl (nego_codes_ok hc H311 hr313) ?_
          rintro v566 w565 ⟨G562, r567, hG563, rfl, H564⟩
          refine wl_nil (hN _ _ ?_)
          exact hM528 _ _ ⟨_, _, r567, frame_eq _ ⟨rfl, rfl, rfl, rfl, rfl, trivial⟩, hG563, (St.pk [4, 1, 2, 3, 0] 7 H564 rfl (by decide))⟩
        ·replace hF := ifF hF hb507
         rcases bcases (a1.Code == 5) with hb569 | hb569
         ·replace hF := ifT hF hb569
          obtain ⟨r570, hr571, hF⟩ := bindS hF
          refine any_memo (fuel := 2) (m := 23) (fun a w => ∃ (T0 : Fr) (G1 : Ghost) (r594 : Nat), a = mk 45 (upds T0 [(4, (pt b9)), (7, (pt b19)), (16, (.map (some r594))), (18, (.int .u8 a1.Code)), (20, (pt b19))]) ∧ GLe G277 G1 ∧ St c G1 w ((.box b9 29 (kTNego.at_ zTNego)) :: (.box b19 63 (kTnego_workV.at_ (Tnego_workV.mk x25 (.slice A28 x26.length c29) (.slice A33 x31.length c34) x36))) :: (.row kTPkt g27 A28 c29 32 x26) :: (.row kI g32 A33 c34 3 x31) :: (.mp r594 [⟨.int .u8 1, (.func (.func 52) #[] #[]), 0⟩, ⟨.int .u8 2, (.func (.func 53) #[] #[]), 1⟩, ⟨.int .u8 3, (.func (.func 54) #[] #[]), 2⟩, ⟨.int .u8 4, (.func (.func 54) #[] #[]), 3⟩, ⟨.int .u8 5, (.func (.func 55) #[] #[]), 4⟩, ⟨.int .u8 6, (.func (.func 56) #[] #[]), 5⟩, ⟨.int .u8 7, (.func (.func 57) #[] #[]), 6⟩, ⟨.int .u8 8, (.func (.func 58) #[] #[]), 7⟩, ⟨.int .u8 9, (.func (.func 59) #[] #[]), 8⟩, ⟨.int .u8 10, (.func (.func 60) #[] #[]), 9⟩, ⟨.int .u8 11, (.func (.func 60) #[] #[]), 10⟩] 11) :: σ)) ?_ ?_
          ·rintro a w ⟨T0, G593, r594, rfl, hG591, H592⟩
           refine any_alls [3] ⟨any_ops (m' := 31) fun Q' hN => ?_, trivial⟩
           refine wl_lookup (key := (.int .u8 a1.Code)) (val := (.func (.func 55) #[] #[])) (ok := true) H592 (i := 4) rfl mt73 un5 rfl rfl (by simp [Go.MapKept.IsKey]) ⟨_, (fnd_no hb321 (fnd_no hb383 (fnd_no hb445 (fnd_no hb507 (fnd_yes hb569))))), .inl ⟨_, rfl, rfl⟩⟩ ?_
           refine wl_nil (hN _ _ ?_)
           refine any_alls [5] ⟨any_ops (m' := 63) fun Q' hN => ?_, trivial⟩
           refine wl_callv (first := []) (captured := []) (vs := [(pt b19)]) en55 rfl rfl (nego_work_term_ok hc (St.pk [1, 2, 3, 0, 4] 5 H592 rfl (by decide)) hr571) ?_
           rintro v610 w609 ⟨G606, g611, A612, c613, g614, A615, c616, hG607, rfl, H608⟩
           refine wl_nil (hN _ _ ?_)
           refine any_end ?_
           refine blk_n ?_
           refine then_n ?_
           exact ⟨_, _, r570.1, r570.2.1, r570.2.2.1, r570.2.2.2, g611, A612, c613, g614, A615, c616, frame_eq _ ⟨rfl, rfl, trivial⟩, ((hG278.trans hG591).trans hG607), (St.pk [0, 1, 2, 3] 5 H608 rfl (by decide)), hF⟩
          intro hM590
          refine any_rn (i := 1) (m' := 2) rfl (rn_field fo32_0 rfl) hPF hns ?_
          refine any_rn (i := 4) (m' := 18) rfl (rn_pure (pt b19) rfl) hPF hns ?_
          refine any_alls [0, 2] ⟨?_, ?_, trivial⟩
          ·refine any_ops (m' := 19) fun Q' hN => ?_
           refine wl_call (vs := []) en36 rfl (nego_codes_ok hc H311 hr313) ?_
           rintro v621 w620 ⟨G617, r622, hG618, rfl, H619⟩
           refine wl_nil (hN _ _ ?_)
           refine any_alls [2] ⟨any_ops (m' := 23) fun Q' hN => ?_, trivial⟩
           refine wl_loadd H619 (i := 5) rfl lTPkt_Code (dInt .u8) ty5 rfl ?_
           refine wl_nil (hN _ _ ?_)
           exact hM590 _ _ ⟨_, _, r622, frame_eq _ ⟨rfl, rfl, rfl, rfl, rfl, trivial⟩, hG618, (St.pk [4, 1, 2, 3, 0] 7 H619 rfl (by decide))⟩
          ·refine any_ops (m' := 22) fun Q' hN => ?_
           refine wl_loadd H311 (i := 4) rfl lTPkt_Code (dInt .u8) ty5 rfl ?_
           refine wl_nil (hN _ _ ?_)
           refine any_alls [0] ⟨any_ops (m' := 23) fun Q' hN => ?_, trivial⟩
           refine wl_call (vs := []) en36 rfl (nego_codes_ok hc H311 hr313) ?_
           rintro v628 w627 ⟨G624, r629, hG625, rfl, H626⟩
           refine wl_nil (hN _ _ ?_)
           exact hM590 _ _ ⟨_, _, r629, frame_eq _ ⟨rfl, rfl, rfl, rfl, rfl, trivial⟩, hG625, (St.pk [4, 1, 2, 3, 0] 7 H626 rfl (by decide))⟩
         ·replace hF := ifF hF hb569
          rcases bcases (a1.Code == 6) with hb631 | hb631
          ·replace hF := ifT hF hb631
           obtain ⟨r632, hr633, hF⟩ := bindS hF
           refine any_memo (fuel := 2) (m := 23) (fun a w => ∃ (T0 : Fr) (G1 : Ghost) (r656 : Nat), a = mk 45 (upds T0 [(4, (pt b9)), (7, (pt b19)), (16, (.map (some r656))), (18, (.int .u8 a1.Code)), (20, (pt b19))]) ∧ GLe G277 G1 ∧ St c G1 w ((.box b9 29 (kTNego.at_ zTNego)) :: (.box b19 63 (kTnego_workV.at_ (Tnego_workV.mk x25 (.slice A28 x26.length c29) (.slice A33 x31.length c34) x36))) :: (.row kTPkt g27 A28 c29 32 x26) :: (.row kI g32 A33 c34 3 x31) :: (.mp r656 [⟨.int .u8 1, (.func (.func 52) #[] #[]), 0⟩, ⟨.int .u8 2, (.func (.func 53) #[] #[]), 1⟩, ⟨.int .u8 3, (.func (.func 54) #[] #[]), 2⟩, ⟨.int .u8 4, (.func (.func 54) #[] #[]), 3⟩, ⟨.int .u8 5, (.func (.func 55) #[] #[]), 4⟩, ⟨.int .u8 6, (.func (.func 56) #[] #[]), 5⟩, ⟨.int .u8 7, (.func (.func 57) #[] #[]), 6⟩, ⟨.int .u8 8, (.func (.func 58) #[] #[]), 7⟩, ⟨.int .u8 9, (.func (.func 59) #[] #[]), 8⟩, ⟨.int .u8 10, (.func (.func 60) #[] #[]), 9⟩, ⟨.int .u8 11, (.func (.func 60) #[] #[]), 10⟩] 11) :: σ)) ?_ ?_
           ·rintro a w ⟨T0, G655, r656, rfl, hG653, H654⟩
            refine any_alls [3] ⟨any_ops (m' := 31) fun Q' hN => ?_, trivial⟩
            refine wl_lookup (key := (.int .u8 a1.Code)) (val := (.func (.func 56) #[] #[])) (ok := true) H654 (i := 4) rfl mt73 un5 rfl rfl (by simp [Go.MapKept.IsKey]) ⟨_, (fnd_no hb321 (fnd_no hb383 (fnd_no hb445 (fnd_no hb507 (fnd_no hb569 (fnd_yes hb631)))))), .inl ⟨_, rfl, rfl⟩⟩ ?_
            refine wl_nil (hN _ _ ?_)
            refine any_alls [5] ⟨any_ops (m' := 63) fun Q' hN => ?_, trivial⟩
            refine wl_callv (first := []) (captured := []) (vs := [(pt b19)]) en56 rfl rfl (nego_work_termed_ok hc (St.pk [1, 2, 3, 0, 4] 5 H654 rfl (by decide)) hr633) ?_
            rintro v672 w671 ⟨G668, g673, A674, c675, g676, A677, c678, hG669, rfl, H670⟩
            refine wl_nil (hN _ _ ?_)
            refine any_end ?_
            refine blk_n ?_
            refine then_n ?_
            exact ⟨_, _, r632.1, r632.2.1, r632.2.2.1, r632.2.2.2, g673, A674, c675, g676, A677, c678, frame_eq _ ⟨rfl, rfl, trivial⟩, ((hG278.trans hG653).trans hG669), (St.pk [0, 1, 2, 3] 5 H670 rfl (by decide)), hF⟩
           intro hM652
           refine any_rn (i := 1) (m' := 2) rfl (rn_field fo32_0 rfl) hPF hns ?_
           refine any_rn (i := 4) (m' := 18) rfl (rn_pure (pt b19) rfl) hPF hns ?_
           refine any_alls [0, 2] ⟨?_, ?_, trivial⟩
           ·refine any_ops (m' := 19) fun Q' hN => ?_
            refine wl_call (vs := []) en36 rfl (nego_codes_ok hc H311 hr313) ?_
            rintro v683 w682 ⟨G679, r684, hG680, rfl, H681⟩
            refine wl_nil (hN _ _ ?_)
            refine any_alls [2] ⟨any_ops (m' := 23) fun Q' hN => ?_, trivial⟩
            refine wl_loadd H681 (i := 5) rfl lTPkt_Code (dInt .u8) ty5 rfl ?_
            refine wl_nil (hN _ _ ?_)
            exact hM652 _ _ ⟨_, _, r684, frame_eq _ ⟨rfl, rfl, rfl, rfl, rfl, trivial⟩, hG680, (St.pk [4, 1, 2, 3, 0] 7 H681 rfl (by decide))⟩
           ·refine any_ops (m' := 22) fun Q' hN => ?_
            refine wl_loadd H311 (i := 4) rfl lTPkt_Code (dInt .u8) ty5 rfl ?_
            refine wl_nil (hN _ _ ?_)
            refine any_alls [0] ⟨any_ops (m' := 23) fun Q' hN => ?_, trivial⟩
            refine wl_call (vs := []) en36 rfl (nego_codes_ok hc H311 hr313) ?_
            rintro v690 w689 ⟨G686, r691, hG687, rfl, H688⟩
            refine wl_nil (hN _ _ ?_)
            exact hM652 _ _ ⟨_, _, r691, frame_eq _ ⟨rfl, rfl, rfl, rfl, rfl, trivial⟩, hG687, (St.pk [4, 1, 2, 3, 0] 7 H688 rfl (by decide))⟩
          ·replace hF := ifF hF hb631
           rcases bcases (a1.Code == 7) with hb693 | hb693
           ·replace hF := ifT hF hb693
            obtain ⟨r694, hr695, hF⟩ := bindS hF
            refine any_memo (fuel := 2) (m := 23) (fun a w => ∃ (T0 : Fr) (G1 : Ghost) (r718 : Nat), a = mk 45 (upds T0 [(4, (pt b9)), (7, (pt b19)), (16, (.map (some r718))), (18, (.int .u8 a1.Code)), (20, (pt b19))]) ∧ GLe G277 G1 ∧ St c G1 w ((.box b9 29 (kTNego.at_ zTNego)) :: (.box b19 63 (kTnego_workV.at_ (Tnego_workV.mk x25 (.slice A28 x26.length c29) (.slice A33 x31.length c34) x36))) :: (.row kTPkt g27 A28 c29 32 x26) :: (.row kI g32 A33 c34 3 x31) :: (.mp r718 [⟨.int .u8 1, (.func (.func 52) #[] #[]), 0⟩, ⟨.int .u8 2, (.func (.func 53) #[] #[]), 1⟩, ⟨.int .u8 3, (.func (.func 54) #[] #[]), 2⟩, ⟨.int .u8 4, (.func (.func 54) #[] #[]), 3⟩, ⟨.int .u8 5, (.func (.func 55) #[] #[]), 4⟩, ⟨.int .u8 6, (.func (.func 56) #[] #[]), 5⟩, ⟨.int .u8 7, (.func (.func 57) #[] #[]), 6⟩, ⟨.int .u8 8, (.func (.func 58) #[] #[]), 7⟩, ⟨.int .u8 9, (.func (.func 59) #[] #[]), 8⟩, ⟨.int .u8 10, (.func (.func 60) #[] #[]), 9⟩, ⟨.int .u8 11, (.func (.func 60) #[] #[]), 10⟩] 11) :: σ)) ?_ ?_
            ·rintro a w ⟨T0, G717, r718, rfl, hG715, H716⟩
             refine any_alls [3] ⟨any_ops (m' := 31) fun Q' hN => ?_, trivial⟩
             refine wl_lookup (key := (.int .u8 a1.Code)) (val := (.func (.func 57) #[] #[])) (ok := true) H716 (i := 4) rfl mt73 un5 rfl rfl (by simp [Go.MapKept.IsKey]) ⟨_, (fnd_no hb321 (fnd_no hb383 (fnd_no hb445 (fnd_no hb507 (fnd_no hb569 (fnd_no hb631 (fnd_yes hb693))))))), .inl ⟨_, rfl, rfl⟩⟩ ?_
             refine wl_nil (hN _ _ ?_)
             refine any_alls [5] ⟨any_ops (m' := 63) fun Q' hN => ?_, trivial⟩
             refine wl_callv (first := []) (captured := []) (vs := [(pt b19)]) en57 rfl rfl (nego_work_code_ok hc (St.pk [1, 2, 3, 0, 4] 5 H716 rfl (by decide)) hr695) ?_
             rintro v734 w733 ⟨G730, g735, A736, c737, g738, A739, c740, hG731, rfl, H732⟩
             refine wl_nil (hN _ _ ?_)
             refine any_end ?_
             refine blk_n ?_
             refine then_n ?_
             exact ⟨_, _, r694.1, r694.2.1, r694.2.2.1, r694.2.2.2, g735, A736, c737, g738, A739, c740, frame_eq _ ⟨rfl, rfl, trivial⟩, ((hG278.trans hG715).trans hG731), (St.pk [0, 1, 2, 3] 5 H732 rfl (by decide)), hF⟩
            intro hM714
            refine any_rn (i := 1) (m' := 2) rfl (rn_field fo32_0 rfl) hPF hns ?_
            refine any_rn (i := 4) (m' := 18) rfl (rn_pure (pt b19) rfl) hPF hns ?_
            refine any_alls [0, 2] ⟨?_, ?_, trivial⟩
            ·refine any_ops (m' := 19) fun Q' hN => ?_
             refine wl_call (vs := []) en36 rfl (nego_codes_ok hc H311 hr313) ?_
             rintro v745 w744 ⟨G741, r746, hG742, rfl, H743⟩
             refine wl_nil (hN _ _ ?_)
             refine any_alls [2] ⟨any_ops (m' := 23) fun Q' hN => ?_, trivial⟩
             refine wl_loadd H743 (i := 5) rfl lTPkt_Code (dInt .u8) ty5 rfl ?_
             refine wl_nil (hN _ _ ?_)
             exact hM714 _ _ ⟨_, _, r746, frame_eq _ ⟨rfl, rfl, rfl, rfl, rfl, trivial⟩, hG742, (St.pk [4, 1, 2, 3, 0] 7 H743 rfl (by decide))⟩
            ·refine any_ops (m' := 22) fun Q' hN => ?_
             refine wl_loadd H311 (i := 4) rfl lTPkt_Code (dInt .u8) ty5 rfl ?_
             refine wl_nil (hN _ _ ?_)
             refine any_alls [0] ⟨any_ops (m' := 23) fun Q' hN => ?_, trivial⟩
             refine wl_call (vs := []) en36 rfl (nego_codes_ok hc H311 hr313) ?_
             rintro v752 w751 ⟨G748, r753, hG749, rfl, H750⟩
             refine wl_nil (hN _ _ ?_)
             exact hM714 _ _ ⟨_, _, r753, frame_eq _ ⟨rfl, rfl, rfl, rfl, rfl, trivial⟩, hG749, (St.pk [4, 1, 2, 3, 0] 7 H750 rfl (by decide))⟩
           ·replace hF := ifF hF hb693
            rcases bcases (a1.Code == 8) with hb755 | hb755
            ·replace hF := ifT hF hb755
             obtain ⟨r756, hr757, hF⟩ := bindS hF
             refine any_memo (fuel := 2) (m := 23) (fun a w => ∃ (T0 : Fr) (G1 : Ghost) (r780 : Nat), a = mk 45 (upds T0 [(4, (pt b9)), (7, (pt b19)), (16, (.map (some r780))), (18, (.int .u8 a1.Code)), (20, (pt b19))]) ∧ GLe G277 G1 ∧ St c G1 w ((.box b9 29 (kTNego.at_ zTNego)) :: (.box b19 63 (kTnego_workV.at_ (Tnego_workV.mk x25 (.slice A28 x26.length c29) (.slice A33 x31.length c34) x36))) :: (.row kTPkt g27 A28 c29 32 x26) :: (.row kI g32 A33 c34 3 x31) :: (.mp r780 [⟨.int .u8 1, (.func (.func 52) #[] #[]), 0⟩, ⟨.int .u8 2, (.func (.func 53) #[] #[]), 1⟩, ⟨.int .u8 3, (.func (.func 54) #[] #[]), 2⟩, ⟨.int .u8 4, (.func (.func 54) #[] #[]), 3⟩, ⟨.int .u8 5, (.func (.func 55) #[] #[]), 4⟩, ⟨.int .u8 6, (.func (.func 56) #[] #[]), 5⟩, ⟨.int .u8 7, (.func (.func 57) #[] #[]), 6⟩, ⟨.int .u8 8, (.func (.func 58) #[] #[]), 7⟩, ⟨.int .u8 9, (.func (.func 59) #[] #[]), 8⟩, ⟨.int .u8 10, (.func (.func 60) #[] #[]), 9⟩, ⟨.int .u8 11, (.func (.func 60) #[] #[]), 10⟩] 11) :: σ)) ?_ ?_
             ·rintro a w ⟨T0, G779, r780, rfl, hG777, H778⟩
              refine any_alls [3] ⟨any_ops (m' := 31) fun Q' hN => ?_, trivial⟩
              refine wl_lookup (key := (.int .u8 a1.Code)) (val := (.func (.func 58) #[] #[])) (ok := true) H778 (i := 4) rfl mt73 un5 rfl rfl (by simp [Go.MapKept.IsKey]) ⟨_, (fnd_no hb321 (fnd_no hb383 (fnd_no hb445 (fnd_no hb507 (fnd_no hb569 (fnd_no hb631 (fnd_no hb693 (fnd_yes hb755)))))))), .inl ⟨_, rfl, rfl⟩⟩ ?_
              refine wl_nil (hN _ _ ?_)
              refine any_alls [5] ⟨any_ops (m' := 63) fun Q' hN => ?_, trivial⟩
              refine wl_callv (first := []) (captured := []) (vs := [(pt b19)]) en58 rfl rfl (nego_work_proto_ok hc (St.pk [1, 2, 3, 0, 4] 5 H778 rfl (by decide)) hr757) ?_
              rintro v796 w795 ⟨G792, g797, A798, c799, g800, A801, c802, hG793, rfl, H794⟩
              refine wl_nil (hN _ _ ?_)
              refine any_end ?_
              refine blk_n ?_
              refine then_n ?_
              exact ⟨_, _, r756.1, r756.2.1, r756.2.2.1, r756.2.2.2, g797, A798, c799, g800, A801, c802, frame_eq _ ⟨rfl, rfl, trivial⟩, ((hG278.trans hG777).trans hG793), (St.pk [0, 1, 2, 3] 5 H794 rfl (by decide)), hF⟩
             intro hM776
             refine any_rn (i := 1) (m' := 2) rfl (rn_field fo32_0 rfl) hPF hns ?_
             refine any_rn (i := 4) (m' := 18) rfl (rn_pure (pt b19) rfl) hPF hns ?_
             refine any_alls [0, 2] ⟨?_, ?_, trivial⟩
             ·refine any_ops (m' := 19) fun Q' hN => ?_
              refine wl_call (vs := []) en36 rfl (nego_codes_ok hc H311 hr313) ?_
              rintro v807 w806 ⟨G803, r808, hG804, rfl, H805⟩
              refine wl_nil (hN _ _ ?_)
              refine any_alls [2] ⟨any_ops (m' := 23) fun Q' hN => ?_, trivial⟩
              refine wl_loadd H805 (i := 5) rfl lTPkt_Code (dInt .u8) ty5 rfl ?_
              refine wl_nil (hN _ _ ?_)
              exact hM776 _ _ ⟨_, _, r808, frame_eq _ ⟨rfl, rfl, rfl, rfl, rfl, trivial⟩, hG804, (St.pk [4, 1, 2, 3, 0] 7 H805 rfl (by decide))⟩
             ·refine any_ops (m' := 22) fun Q' hN => ?_
              refine wl_loadd H311 (i := 4) rfl lTPkt_Code (dInt .u8) ty5 rfl ?_
              refine wl_nil (hN _ _ ?_)
              refine any_alls [0] ⟨any_ops (m' := 23) fun Q' hN => ?_, trivial⟩
              refine wl_call (vs := []) en36 rfl (nego_codes_ok hc H311 hr313) ?_
              rintro v814 w813 ⟨G810, r815, hG811, rfl, H812⟩
              refine wl_nil (hN _ _ ?_)
              exact hM776 _ _ ⟨_, _, r815, frame_eq _ ⟨rfl, rfl, rfl, rfl, rfl, trivial⟩, hG811, (St.pk [4, 1, 2, 3, 0] 7 H812 rfl (by decide))⟩
            ·replace hF := ifF hF hb755
             rcases bcases (a1.Code == 9) with hb817 | hb817
             ·replace hF := ifT hF hb817
              obtain ⟨r818, hr819, hF⟩ := bindS hF
              refine any_memo (fuel := 2) (m := 23) (fun a w => ∃ (T0 : Fr) (G1 : Ghost) (r842 : Nat), a = mk 45 (upds T0 [(4, (pt b9)), (7, (pt b19)), (16, (.map (some r842))), (18, (.int .u8 a1.Code)), (20, (pt b19))]) ∧ GLe G277 G1 ∧ St c G1 w ((.box b9 29 (kTNego.at_ zTNego)) :: (.box b19 63 (kTnego_workV.at_ (Tnego_workV.mk x25 (.slice A28 x26.length c29) (.slice A33 x31.length c34) x36))) :: (.row kTPkt g27 A28 c29 32 x26) :: (.row kI g32 A33 c34 3 x31) :: (.mp r842 [⟨.int .u8 1, (.func (.func 52) #[] #[]), 0⟩, ⟨.int .u8 2, (.func (.func 53) #[] #[]), 1⟩, ⟨.int .u8 3, (.func (.func 54) #[] #[]), 2⟩, ⟨.int .u8 4, (.func (.func 54) #[] #[]), 3⟩, ⟨.int .u8 5, (.func (.func 55) #[] #[]), 4⟩, ⟨.int .u8 6, (.func (.func 56) #[] #[]), 5⟩, ⟨.int .u8 7, (.func (.func 57) #[] #[]), 6⟩, ⟨.int .u8 8, (.func (.func 58) #[] #[]), 7⟩, ⟨.int .u8 9, (.func (.func 59) #[] #[]), 8⟩, ⟨.int .u8 10, (.func (.func 60) #[] #[]), 9⟩, ⟨.int .u8 11, (.func (.func 60) #[] #[]), 10⟩] 11) :: σ)) ?_ ?_
              ·rintro a w ⟨T0, G841, r842, rfl, hG839, H840⟩
               refine any_alls [3] ⟨any_ops (m' := 31) fun Q' hN => ?_, trivial⟩
               refine wl_lookup (key := (.int .u8 a1.Code)) (val := (.func (.func 59) #[] #[])) (ok := true) H840 (i := 4) rfl mt73 un5 rfl rfl (by simp [Go.MapKept.IsKey]) ⟨_, (fnd_no hb321 (fnd_no hb383 (fnd_no hb445 (fnd_no hb507 (fnd_no hb569 (fnd_no hb631 (fnd_no hb693 (fnd_no hb755 (fnd_yes hb817))))))))), .inl ⟨_, rfl, rfl⟩⟩ ?_
               refine wl_nil (hN _ _ ?_)
               refine any_alls [5] ⟨any_ops (m' := 63) fun Q' hN => ?_, trivial⟩
               refine wl_callv (first := []) (captured := []) (vs := [(pt b19)]) en59 rfl rfl (nego_work_echo_ok hc (St.pk [1, 2, 3, 0, 4] 5 H840 rfl (by decide)) hr819) ?_
               rintro v858 w857 ⟨G854, g859, A860, c861, g862, A863, c864, hG855, rfl, H856⟩
               refine wl_nil (hN _ _ ?_)
               refine any_end ?_
               refine blk_n ?_
               refine then_n ?_
               exact ⟨_, _, r818.1, r818.2.1, r818.2.2.1, r818.2.2.2, g859, A860, c861, g862, A863, c864, frame_eq _ ⟨rfl, rfl, trivial⟩, ((hG278.trans hG839).trans hG855), (St.pk [0, 1, 2, 3] 5 H856 rfl (by decide)), hF⟩
              intro hM838
              refine any_rn (i := 1) (m' := 2) rfl (rn_field fo32_0 rfl) hPF hns ?_
              refine any_rn (i := 4) (m' := 18) rfl (rn_pure (pt b19) rfl) hPF hns ?_
              refine any_alls [0, 2] ⟨?_, ?_, trivial⟩
              ·refine any_ops (m' := 19) fun Q' hN => ?_
               refine wl_call (vs := []) en36 rfl (nego_codes_ok hc H311 hr313) ?_
               rintro v869 w868 ⟨G865, r870, hG866, rfl, H867⟩
               refine wl_nil (hN _ _ ?_)
               refine any_alls [2] ⟨any_ops (m' := 23) fun Q' hN => ?_, trivial⟩
               refine wl_loadd H867 (i := 5) rfl lTPkt_Code (dInt .u8) ty5 rfl ?_
               refine wl_nil (hN _ _ ?_)
               exact hM838 _ _ ⟨_, _, r870, frame_eq _ ⟨rfl, rfl, rfl, rfl, rfl, trivial⟩, hG866, (St.pk [4, 1, 2, 3, 0] 7 H867 rfl (by decide))⟩
              ·refine any_ops (m' := 22) fun Q' hN => ?_
               refine wl_loadd H311 (i := 4) rfl lTPkt_Code (dInt .u8) ty5 rfl ?_
               refine wl_nil (hN _ _ ?_)
               refine any_alls [0] ⟨any_ops (m' := 23) fun Q' hN => ?_, trivial⟩
               refine wl_call (vs := []) en36 rfl (nego_codes_ok hc H311 hr313) ?_
               rintro v876 w875 ⟨G872, r877, hG873, rfl, H874⟩
               refine wl_nil (hN _ _ ?_)
               exact hM838 _ _ ⟨_, _, r877, frame_eq _ ⟨rfl, rfl, rfl, rfl, rfl, trivial⟩, hG873, (St.pk [4, 1, 2, 3, 0] 7 H874 rfl (by decide))⟩
             ·replace hF := ifF hF hb817
              rcases bcases (a1.Code == 10) with hb879 | hb879
              ·replace hF := ifT hF hb879
               obtain ⟨r880, hr881, hF⟩ := bindS hF
               refine any_memo (fuel := 2) (m := 23) (fun a w => ∃ (T0 : Fr) (G1 : Ghost) (r904 : Nat), a = mk 45 (upds T0 [(4, (pt b9)), (7, (pt b19)), (16, (.map (some r904))), (18, (.int .u8 a1.Code)), (20, (pt b19))]) ∧ GLe G277 G1 ∧ St c G1 w ((.box b9 29 (kTNego.at_ zTNego)) :: (.box b19 63 (kTnego_workV.at_ (Tnego_workV.mk x25 (.slice A28 x26.length c29) (.slice A33 x31.length c34) x36))) :: (.row kTPkt g27 A28 c29 32 x26) :: (.row kI g32 A33 c34 3 x31) :: (.mp r904 [⟨.int .u8 1, (.func (.func 52) #[] #[]), 0⟩, ⟨.int .u8 2, (.func (.func 53) #[] #[]), 1⟩, ⟨.int .u8 3, (.func (.func 54) #[] #[]), 2⟩, ⟨.int .u8 4, (.func (.func 54) #[] #[]), 3⟩, ⟨.int .u8 5, (.func (.func 55) #[] #[]), 4⟩, ⟨.int .u8 6, (.func (.func 56) #[] #[]), 5⟩, ⟨.int .u8 7, (.func (.func 57) #[] #[]), 6⟩, ⟨.int .u8 8, (.func (.func 58) #[] #[]), 7⟩, ⟨.int .u8 9, (.func (.func 59) #[] #[]), 8⟩, ⟨.int .u8 10, (.func (.func 60) #[] #[]), 9⟩, ⟨.int .u8 11, (.func (.func 60) #[] #[]), 10⟩] 11) :: σ)) ?_ ?_
               ·rintro a w ⟨T0, G903, r904, rfl, hG901, H902⟩
                refine any_alls [3] ⟨any_ops (m' := 31) fun Q' hN => ?_, trivial⟩
                refine wl_lookup (key := (.int .u8 a1.Code)) (val := (.func (.func 60) #[] #[])) (ok := true) H902 (i := 4) rfl mt73 un5 rfl rfl (by simp [Go.MapKept.IsKey]) ⟨_, (fnd_no hb321 (fnd_no hb383 (fnd_no hb445 (fnd_no hb507 (fnd_no hb569 (fnd_no hb631 (fnd_no hb693 (fnd_no hb755 (fnd_no hb817 (fnd_yes hb879)))))))))), .inl ⟨_, rfl, rfl⟩⟩ ?_
                refine wl_nil (hN _ _ ?_)
                refine any_alls [5] ⟨any_ops (m' := 63) fun Q' hN => ?_, trivial⟩
                refine wl_callv (first := []) (captured := []) (vs := [(pt b19)]) en60 rfl rfl (nego_work_nothing_ok hc (St.pk [1, 2, 3, 0, 4] 5 H902 rfl (by decide)) hr881) ?_
                rintro v920 w919 ⟨G916, g921, A922, c923, g924, A925, c926, hG917, rfl, H918⟩
                refine wl_nil (hN _ _ ?_)
                refine any_end ?_
                refine blk_n ?_
                refine then_n ?_
                exact ⟨_, _, r880.1, r880.2.1, r880.2.2.1, r880.2.2.2, g921, A922, c923, g924, A925, c926, frame_eq _ ⟨rfl, rfl, trivial⟩, ((hG278.trans hG901).trans hG917), (St.pk [0, 1, 2, 3] 5 H918 rfl (by decide)), hF⟩
               intro hM900
               refine any_rn (i := 1) (m' := 2) rfl (rn_field fo32_0 rfl) hPF hns ?_
               refine any_rn (i := 4) (m' := 18) rfl (rn_pure (pt b19) rfl) hPF hns ?_
               refine any_alls [0, 2] ⟨?_, ?_, trivial⟩
               ·refine any_ops (m' := 19) fun Q' hN => ?_
                refine wl_call (vs := []) en36 rfl (nego_codes_ok hc H311 hr313) ?_
                rintro v931 w930 ⟨G927, r932, hG928, rfl, H929⟩
                refine wl_nil (hN _ _ ?_)
                refine any_alls [2] ⟨any_ops (m' := 23) fun Q' hN => ?_, trivial⟩
                refine wl_loadd H929 (i := 5) rfl lTPkt_Code (dInt .u8) ty5 rfl ?_
                refine wl_nil (hN _ _ ?_)
                exact hM900 _ _ ⟨_, _, r932, frame_eq _ ⟨rfl, rfl, rfl, rfl, rfl, trivial⟩, hG928, (St.pk [4, 1, 2, 3, 0] 7 H929 rfl (by decide))⟩
               ·refine any_ops (m' := 22) fun Q' hN => ?_
                refine wl_loadd H311 (i := 4) rfl lTPkt_Code (dInt .u8) ty5 rfl ?_
                refine wl_nil (hN _ _ ?_)
                refine any_alls [0] ⟨any_ops (m' := 23) fun Q' hN => ?_, trivial⟩
                refine wl_call (vs := []) en36 rfl (nego_codes_ok hc H311 hr313) ?_
                rintro v938 w937 ⟨G934, r939, hG935, rfl, H936⟩
                refine wl_nil (hN _ _ ?_)
                exact hM900 _ _ ⟨_, _, r939, frame_eq _ ⟨rfl, rfl, rfl, rfl, rfl, trivial⟩, hG935, (St.pk [4, 1, 2, 3, 0] 7 H936 rfl (by decide))⟩
              ·replace hF := ifF hF hb879
               rcases bcases (a1.Code == 11) with hb941 | hb941
               ·replace hF := ifT hF hb941
                obtain ⟨r942, hr943, hF⟩ := bindS hF
                refine any_memo (fuel := 2) (m := 23) (fun a w => ∃ (T0 : Fr) (G1 : Ghost) (r966 : Nat), a = mk 45 (upds T0 [(4, (pt b9)), (7, (pt b19)), (16, (.map (some r966))), (18, (.int .u8 a1.Code)), (20, (pt b19))]) ∧ GLe G277 G1 ∧ St c G1 w ((.box b9 29 (kTNego.at_ zTNego)) :: (.box b19 63 (kTnego_workV.at_ (Tnego_workV.mk x25 (.slice A28 x26.length c29) (.slice A33 x31.length c34) x36))) :: (.row kTPkt g27 A28 c29 32 x26) :: (.row kI g32 A33 c34 3 x31) :: (.mp r966 [⟨.int .u8 1, (.func (.func 52) #[] #[]), 0⟩, ⟨.int .u8 2, (.func (.func 53) #[] #[]), 1⟩, ⟨.int .u8 3, (.func (.func 54) #[] #[]), 2⟩, ⟨.int .u8 4, (.func (.func 54) #[] #[]), 3⟩, ⟨.int .u8 5, (.func (.func 55) #[] #[]), 4⟩, ⟨.int .u8 6, (.func (.func 56) #[] #[]), 5⟩, ⟨.int .u8 7, (.func (.func 57) #[] #[]), 6⟩, ⟨.int .u8 8, (.func (.func 58) #[] #[]), 7⟩, ⟨.int .u8 9, (.func (.func 59) #[] #[]), 8⟩, ⟨.int .u8 10, (.func (.func 60) #[] #[]), 9⟩, ⟨.int .u8 11, (.func (.func 60) #[] #[]), 10⟩] 11) :: σ)) ?_ ?_
                ·rintro a w ⟨T0, G965, r966, rfl, hG963, H964⟩
                 refine any_alls [3] ⟨any_ops (m' := 31) fun Q' hN => ?_, trivial⟩
                 refine wl_lookup (key := (.int .u8 a1.Code)) (val := (.func (.func 60) #[] #[])) (ok := true) H964 (i := 4) rfl mt73 un5 rfl rfl (by simp [Go.MapKept.IsKey]) ⟨_, (fnd_no hb321 (fnd_no hb383 (fnd_no hb445 (fnd_no hb507 (fnd_no hb569 (fnd_no hb631 (fnd_no hb693 (fnd_no hb755 (fnd_no hb817 (fnd_no hb879 (fnd_yes hb941))))))))))), .inl ⟨_, rfl, rfl⟩⟩ ?_
                 refine wl_nil (hN _ _ ?_)
                 refine any_alls [5] ⟨any_ops (m' := 63) fun Q' hN => ?_, trivial⟩
                 refine wl_callv (first := []) (captured := []) (vs := [(pt b19)]) en60 rfl rfl (nego_work_nothing_ok hc (St.pk [1, 2, 3, 0, 4] 5 H964 rfl (by decide)) hr943) ?_
                 rintro v982 w981 ⟨G978, g983, A984, c985, g986, A987, c988, hG979, rfl, H980⟩
                 refine wl_nil (hN _ _ ?_)
                 refine any_end ?_
                 refine blk_n ?_
                 refine then_n ?_
                 exact ⟨_, _, r942.1, r942.2.1, r942.2.2.1, r942.2.2.2, g983, A984, c985, g986, A987, c988, frame_eq _ ⟨rfl, rfl, trivial⟩, ((hG278.trans hG963).trans hG979), (St.pk [0, 1, 2, 3] 5 H980 rfl (by decide)), hF⟩
                intro hM962
                refine any_rn (i := 1) (m' := 2) rfl (rn_field fo32_0 rfl) hPF hns ?_
                refine any_rn (i := 4) (m' := 18) rfl (rn_pure (pt b19) rfl) hPF hns ?_
                refine any_alls [0, 2] ⟨?_, ?_, trivial⟩
                ·refine any_ops (m' := 19) fun Q' hN => ?_
                 refine wl_call (vs := []) en36 rfl (nego_codes_ok hc H311 hr313) ?_
                 rintro v993 w992 ⟨G989, r994, hG990, rfl, H991⟩
                 refine wl_nil (hN _ _ ?_)
                 refine any_alls [2] ⟨any_ops (m' := 23) fun Q' hN => ?_, trivial⟩
                 refine wl_loadd H991 (i := 5) rfl lTPkt_Code (dInt .u8) ty5 rfl ?_
                 refine wl_nil (hN _ _ ?_)
                 exact hM962 _ _ ⟨_, _, r994, frame_eq _ ⟨rfl, rfl, rfl, rfl, rfl, trivial⟩, hG990, (St.pk [4, 1, 2, 3, 0] 7 H991 rfl (by decide))⟩
                ·refine any_ops (m' := 22) fun Q' hN => ?_
                 refine wl_loadd H311 (i := 4) rfl lTPkt_Code (dInt .u8) ty5 rfl ?_
                 refine wl_nil (hN _ _ ?_)
                 refine any_alls [0] ⟨any_ops (m' := 23) fun Q' hN => ?_, trivial⟩
                 refine wl_call (vs := []) en36 rfl (nego_codes_ok hc H311 hr313) ?_
                 rintro v1000 w999 ⟨G996, r1001, hG997, rfl, H998⟩
                 refine wl_nil (hN _ _ ?_)
                 exact hM962 _ _ ⟨_, _, r1001, frame_eq _ ⟨rfl, rfl, rfl, rfl, rfl, trivial⟩, hG997, (St.pk [4, 1, 2, 3, 0] 7 H998 rfl (by decide))⟩
               ·replace hF := ifF hF hb941
                exact noneF hF
 ·refine wp_seq (wc_region ?_)
  refine wl_rn (rn_field fo29_1 rfl) ?_
  refine wl_rn (rn_field fo26_0 rfl) ?_
  refine wl_loadd H20 (i := 3) rfl (Lens.then lTNego_R lTRule_Ip) dBool ty4 rfl ?_
  refine wl_nil (then_n ?_)
  rcases bcases a0.R.Ip with hb1003 | hb1003
  ·replace hF := ifT hF hb1003
   refine wc_true (vb hb1003) ?_
   refine wc_region ?_
   refine wl_rn (rn_pure (.int .u16 32801) rfl) ?_
   refine wl_nil ?_
   have H1004 := H20.nilrow kTPkt none 32
   have H1006 := H1004.nilrow kI none 3
   refine then_n ?_
   exact ⟨_, _, 32801, a0, ([] : (List TPkt)), ([] : (List Int)), a1, none, none, 0, none, none, 0, frame_eq _ ⟨rfl, rfl, rfl, rfl, rfl, trivial⟩, GLe.refl _, (St.pk [2, 1, 0, 3, 4, 5] 6 H1006 rfl (by decide)), hF⟩
  ·replace hF := ifF hF hb1003
   refine wc_false (vb hb1003) ?_
   refine wp_skip ?_
   have H1008 := H20.nilrow kTPkt none 32
   have H1010 := H1008.nilrow kI none 3
   refine then_n ?_
   exact ⟨_, _, 49185, a0, ([] : (List TPkt)), ([] : (List Int)), a1, none, none, 0, none, none, 0, frame_eq _ ⟨rfl, rfl, rfl, rfl, rfl, trivial⟩, GLe.refl _, (St.pk [2, 1, 0, 3, 4, 5] 6 H1010 rfl (by decide)), hF⟩

theorem auto_Tick_ok {c : World} (hc : Hc c) {G : Ghost} {w : World} {σ : List Ent} {a0 : TAuto} {v0_ : Value} (h0_ : kTAuto.V G v0_ a0) (H : St c G w (σ)) {r : (TAuto × (List Int))} (hF : auto_Tick a0 = some r) :
  Calls Tryd.prog 32 ([v0_] : List Value).toArray w (Ends fun v w' => ∃ (G' : Ghost) (v1' : Value) (A2' : Option Addr) (c3' : Nat), GLe G G' ∧ tup [v1', (.slice A2' r.2.length c3')] = v ∧ St c G' w' (σ) ∧ kTAuto.V G' v1' r.1 ∧ SlR kI G' A2' c3' r.2) := by
 unfold auto_Tick at hF
 refine calls_mk Tryd.func32 rfl rfl rfl ?_
 refine wp_seq (wc_region ?_)
 refine wl_box (K := kTAuto) (x := a0) H rfl h0_ ?_
 intro b1 w4 H2
 refine wl_alloc H2 zr23 ?_
 intro b5 w8 H6
 refine wl_rn (rn_pure (.slice none 0 0) rfl) ?_
 refine wl_nil (then_n ?_)
 refine wp_seq ?_
 refine wp_seq (wc_region ?_)
 refine wl_rn (rn_field fo23_2 rfl) ?_
 refine wl_loadd H6 (i := 1) rfl lTAuto_Left (dInt .i64) ty3 rfl ?_
 refine wl_rn (rn_pure (.bool (a0.Left == 0)) rfl) ?_
 refine wl_nil (then_n ?_)
 rcases bcases (a0.Left == 0) with hb9 | hb9
 ·replace hF := ifT hF hb9
  refine wc_true (vb hb9) ?_
  refine wp_seq (wc_region ?_)
  refine wl_load H6 (i := 1) rfl (Lens.id kTAuto) ty23 rfl ?_
  intro v10 hv11
  refine wl_store (z := a0) H6 (i := 0) rfl (Lens.id kTAuto) ty23 rfl rfl hv11 ?_
  intro w13 H12
  refine wl_rn (rn_pure (.slice none 0 0) rfl) ?_
  refine wl_nil (then_n ?_)
  refine wp_ret ?_
  refine then_r ?_
  obtain ⟨v14, hv15, hl16⟩ := H12.loadv (i := 0) rfl ty23
  have hF := Option.some.inj hF
  subst hF
  exact ret_mk rfl (RV.cell rfl hl16 (RV.tmp rfl RV.nil)) ⟨_, v14, none, 0, GLe.refl _, rfl, (St.pk [] 2 H12 rfl (by decide)), hv15, (SlR.nil _ _)⟩
 ·replace hF := ifF hF hb9
  refine wc_false (vb hb9) ?_
  refine wp_skip ?_
  refine then_n ?_
  refine wp_seq (wc_region ?_)
  refine wl_rn (rn_field fo23_2 rfl) ?_
  refine wl_loadd H6 (i := 1) rfl lTAuto_Left (dInt .i64) ty3 rfl ?_
  refine wl_rn (rn_pure (.int .i64 (IntKind.i64.wrap (a0.Left - 1))) rfl) ?_
  refine wl_rn (rn_field fo23_2 rfl) ?_
  refine wl_store (z := (IntKind.i64.wrap (a0.Left - 1))) H6 (i := 1) rfl lTAuto_Left ty3 rfl rfl ((dInt .i64).toV _ _) ?_
  intro w18 H17
  refine wl_nil (then_n ?_)
  refine wp_seq ?_
  refine wp_seq (wc_region ?_)
  refine wl_rn (rn_field fo23_2 rfl) ?_
  refine wl_loadd H17 (i := 1) rfl lTAuto_Left (dInt .i64) ty3 rfl ?_
  refine wl_rn (rn_pure (.bool (decide ((IntKind.i64.wrap (a0.Left - 1)) > 0))) rfl) ?_
  refine wl_nil (then_n ?_)
  rcases bcases (decide ((IntKind.i64.wrap (a0.Left - 1)) > 0)) with hb19 | hb19
  ·replace hF := ifT hF hb19
   refine wc_true (vb hb19) ?_
   refine wp_seq (wc_region ?_)
   refine wl_load H17 (i := 1) rfl (Lens.id kTAuto) ty23 rfl ?_
   intro v20 hv21
   refine wl_store (z := (TAuto.mk a0.State a0.Count (IntKind.i64.wrap (a0.Left - 1)) a0.Id)) H17 (i := 0) rfl (Lens.id kTAuto) ty23 rfl rfl hv21 ?_
   intro w23 H22
   refine wl_rn (rn_pure (.slice none 0 0) rfl) ?_
   refine wl_nil (then_n ?_)
   refine wp_ret ?_
   refine then_r ?_
   obtain ⟨v24, hv25, hl26⟩ := H22.loadv (i := 0) rfl ty23
   have hF := Option.some.inj hF
   subst hF
   exact ret_mk rfl (RV.cell rfl hl26 (RV.tmp rfl RV.nil)) ⟨_, v24, none, 0, GLe.refl _, rfl, (St.pk [] 2 H22 rfl (by decide)), hv25, (SlR.nil _ _)⟩
  ·replace hF := ifF hF hb19
   refine wc_false (vb hb19) ?_
   refine wp_skip ?_
   refine then_n ?_
   refine wp_seq (wc_region ?_)
   refine wl_rn (rn_pure (.int .i64 5) rfl) ?_
   refine wl_nil (then_n ?_)
   refine wp_seq (join (fun a w => ∃ (T0 : Fr) (G1 : Ghost) (x28 : Int), a = mk 32 (upds T0 [(1, (pt b1)), (2, (pt b5)), (4, (.int .i64 x28))]) ∧ GLe G G1 ∧ St c G1 w ((.box b5 23 (kTAuto.at_ zTAuto)) :: (.box b1 23 (kTAuto.at_ (TAuto.mk a0.State a0.Count (IntKind.i64.wrap (a0.Left - 1)) a0.Id))) :: σ) ∧ auto_Tick_j1 a0 x28 = some r) ?_ ?_)
   ·rintro a w ⟨T0, G31, x28, rfl, hG29, H30, hF⟩
    refine wp_seq (wc_region ?_)
    refine wl_load H30 (i := 1) rfl (Lens.id kTAuto) ty23 rfl ?_
    intro v32 hv33
    refine wl_rn (rn_pure (.int .i64 x28) rfl) ?_
    obtain ⟨r34, hr35, hF⟩ := bindS hF
    refine wl_call (vs := [v32, (.int .i64 x28)]) en47 rfl (auto_Do_ok hc hv33 H30 hr35) ?_
    rintro v40 w39 ⟨G36, v41, A43, c44, hG37, rfl, H38, hv42, hs45⟩
    refine wl_rn (rn_pure (.tuple #[v41, (.slice A43 r34.2.1.length c44), (.int .i64 r34.2.2)]) rfl) ?_
    refine wl_rn (rn_pure v41 rfl) ?_
    refine wl_rn (rn_pure (.slice A43 r34.2.1.length c44) rfl) ?_
    refine wl_rn (rn_pure (.int .i64 r34.2.2) rfl) ?_
    refine wl_alloc H38 zr23 ?_
    intro b46 w49 H47
    refine wl_store (z := r34.1) H47 (i := 0) rfl (Lens.id kTAuto) ty23 rfl rfl hv42 ?_
    intro w51 H50
    refine wl_rn (rn_pure (.slice A43 r34.2.1.length c44) rfl) ?_
    refine wl_rn (rn_pure (.int .i64 r34.2.2) rfl) ?_
    refine wl_nil (then_n (wp_seq (wc_region ?_)))
    refine wl_load H50 (i := 0) rfl (Lens.id kTAuto) ty23 rfl ?_
    intro v52 hv53
    refine wl_rn (rn_pure (.slice A43 r34.2.1.length c44) rfl) ?_
    refine wl_store (z := r34.1) H50 (i := 1) rfl (Lens.id kTAuto) ty23 rfl rfl hv53 ?_
    intro w55 H54
    refine wl_rn (rn_pure (.slice A43 r34.2.1.length c44) rfl) ?_
    refine wl_nil (then_n ?_)
    refine wp_ret ?_
    obtain ⟨v56, hv57, hl58⟩ := H54.loadv (i := 1) rfl ty23
    have hF := Option.some.inj hF
    subst hF
    exact ret_mk rfl (RV.cell rfl hl58 (RV.tmp rfl RV.nil)) ⟨_, v56, A43, c44, (hG29.trans hG37), rfl, (St.pk [] 3 H54 rfl (by decide)), hv57, hs45⟩
   ·refine wp_seq (wc_region ?_)
    refine wl_rn (rn_field fo23_1 rfl) ?_
    refine wl_loadd H17 (i := 1) rfl lTAuto_Count (dInt .i64) ty3 rfl ?_
    refine wl_rn (rn_pure (.bool (decide (a0.Count > 0))) rfl) ?_
    refine wl_nil (then_n ?_)
    rcases bcases (decide (a0.Count > 0)) with hb59 | hb59
    ·replace hF := ifT hF hb59
     refine wc_true (vb hb59) ?_
     refine wc_region ?_
     refine wl_rn (rn_pure (.int .i64 4) rfl) ?_
     refine wl_nil (then_n ?_)
     exact ⟨_, _, 4, frame_eq _ ⟨rfl, rfl, rfl, trivial⟩, GLe.refl _, H17, hF⟩
    ·replace hF := ifF hF hb59
     refine wc_false (vb hb59) ?_
     refine wp_skip ?_
     refine then_n ?_
     exact ⟨_, _, 5, frame_eq _ ⟨rfl, rfl, rfl, trivial⟩, GLe.refl _, H17, hF⟩

theorem nego_Tick_ok {c : World} (hc : Hc c) {G : Ghost} {w : World} {σ : List Ent} {a0 : TNego} {v0_ : Value} (h0_ : kTNego.V G v0_ a0) (H : St c G w (σ)) {r : (TNego × (List TPkt) × (List Int))} (hF : nego_Tick a0 = some r) :
  Calls Tryd.prog 12 ([v0_] : List Value).toArray w (Ends fun v w' => ∃ (G' : Ghost) (v1' : Value) (A2' : Option Addr) (c3' : Nat) (A4' : Option Addr) (c5' : Nat), GLe G G' ∧ tup [v1', (.slice A2' r.2.1.length c3'), (.slice A4' r.2.2.length c5')] = v ∧ St c G' w' (σ) ∧ kTNego.V G' v1' r.1 ∧ SlR kTPkt G' A2' c3' r.2.1 ∧ SlR kI G' A4' c5' r.2.2) := by
 unfold nego_Tick at hF
 refine calls_mk Tryd.func12 rfl rfl rfl ?_
 refine wp_seq (wc_region ?_)
 refine wl_box (K := kTNego) (x := a0) H rfl h0_ ?_
 intro b1 w4 H2
 refine wl_alloc H2 zr29 ?_
 intro b5 w8 H6
 iterate 2 refine wl_rn (rn_pure (.slice none 0 0) rfl) ?_
 refine wl_nil (then_n (wp_seq (wc_region ?_)))
 refine wl_load H6 (i := 1) rfl (Lens.id kTNego) ty29 rfl ?_
 intro v9 hv10
 refine wl_rnE (rn_build (G := G) zr63V rfl bs63 rfl (Parts.cons fo63_0 lTnego_workV_Nego hv10 (Parts.nil _))) ?_
 intro v11 hv12
 refine wl_box (K := kTnego_workV) (x := (Tnego_workV.mk a0 (.slice none 0 0) (.slice none 0 0) zTPkt)) H6 rfl hv12 ?_
 intro b13 w16 H14
 refine wl_rn (rn_pure (pt b13) rfl) ?_
 refine wl_nil (then_n (wp_seq (wc_region ?_)))
 refine wl_rn (rn_field fo29_0 rfl) ?_
 refine wl_load H14 (i := 2) rfl lTNego_A ty23 rfl ?_
 intro v17 hv18
 obtain ⟨r19, hr20, hF⟩ := bindS hF
 refine wl_call (vs := [v17]) en32 rfl (auto_Tick_ok hc hv18 H14 hr20) ?_
 rintro v25 w24 ⟨G21, v26, A28, c29, hG22, rfl, H23, hv27, hs30⟩
 refine wl_rn (rn_pure (.tuple #[v26, (.slice A28 r19.2.length c29)]) rfl) ?_
 refine wl_rn (rn_pure v26 rfl) ?_
 refine wl_rn (rn_pure (.slice A28 r19.2.length c29) rfl) ?_
 refine wl_alloc H23 zr23 ?_
 intro b31 w34 H32
 refine wl_store (z := r19.1) H32 (i := 0) rfl (Lens.id kTAuto) ty23 rfl rfl hv27 ?_
 intro w36 H35
 refine wl_rn (rn_pure (.slice A28 r19.2.length c29) rfl) ?_
 refine wl_nil (then_n (wp_seq (wc_region ?_)))
 refine wl_rn (rn_pure (pt b13) rfl) ?_
 refine wl_load H35 (i := 0) rfl (Lens.id kTAuto) ty23 rfl ?_
 intro v37 hv38
 refine wl_rn (rn_nilCheck rfl) ?_
 refine wl_rn (rn_field fo63_0 rfl) ?_
 refine wl_rn (rn_field fo29_0 rfl) ?_
 refine wl_store (z := r19.1) H35 (i := 1) rfl (Lens.then lTnego_workV_Nego lTNego_A) ty23 rfl rfl hv38 ?_
 intro w40 H39
 refine wl_nil (then_n (wp_seq (wc_region ?_)))
 refine wl_rn (rn_pure (pt b13) rfl) ?_
 refine wl_rn (rn_field fo29_0 rfl) ?_
 refine wl_rn (rn_field fo23_0 rfl) ?_
 refine wl_loadd H39 (i := 3) rfl (Lens.then lTNego_A lTAuto_State) (dInt .i64) ty3 rfl ?_
 refine wl_rn (rn_pure (.slice A28 r19.2.length c29) rfl) ?_
 refine wl_rnE (rn_build (G := G21) zr32 rfl bs32 rfl (Parts.nil _)) ?_
 intro v41 hv42
 have H43 := H39.nilrow kTPkt none 32
 have H45 := H43.nilrow kI none 3
 obtain ⟨r47, hr48, hF⟩ := bindS hF
 refine wl_call (vs := [(pt b13), (.int .i64 a0.A.State), (.slice A28 r19.2.length c29), v41]) en33 rfl (nego_work_acts_ok hc hs30 hv42 (St.pk [3, 1, 0, 2, 4, 5] 6 H45 rfl (by decide)) hr48) ?_
 rintro v53 w52 ⟨G49, g54, A55, c56, g57, A58, c59, hG50, rfl, H51⟩
 refine wl_nil (then_n (wp_seq (wc_region ?_)))
 refine wl_rn (rn_pure (pt b13) rfl) ?_
 obtain ⟨r60, hr61, hF⟩ := bindS hF
 refine wl_call (vs := [(pt b13)]) en31 rfl (nego_work_told_ok hc H51 hr61) ?_
 rintro v66 w65 ⟨G62, v67, A69, c70, A72, c73, hG63, rfl, H64, hv68, hs71, hs74⟩
 refine wl_rn (rn_pure v67 rfl) ?_
 refine wl_rn (rn_pure (.slice A69 r60.2.1.length c70) rfl) ?_
 refine wl_rn (rn_pure (.slice A72 r60.2.2.length c73) rfl) ?_
 refine wl_store (z := r60.1) H64 (i := 1) rfl (Lens.id kTNego) ty29 rfl rfl hv68 ?_
 intro w76 H75
 refine wl_rn (rn_pure (.slice A69 r60.2.1.length c70) rfl) ?_
 refine wl_rn (rn_pure (.slice A72 r60.2.2.length c73) rfl) ?_
 refine wl_nil (then_n ?_)
 refine wp_ret ?_
 obtain ⟨v77, hv78, hl79⟩ := H75.loadv (i := 1) rfl ty29
 have hF := Option.some.inj hF
 subst hF
 exact ret_mk rfl (RV.cell rfl hl79 (RV.tmp rfl (RV.tmp rfl RV.nil))) ⟨_, v77, A69, c70, A72, c73, ((hG22.trans hG50).trans hG63), rfl, (St.pk [] 3 H75 rfl (by decide)), hv78, hs71, hs74⟩

theorem auto_Right_ok {c : World} (hc : Hc c) {G : Ghost} {w : World} {σ : List Ent} {a0 : TAuto} {v0_ : Value} (h0_ : kTAuto.V G v0_ a0) (H : St c G w (σ)) {r : Bool} (hF : auto_Right a0 = some r) :
  Calls Tryd.prog 43 ([v0_] : List Value).toArray w (Ends fun v w' => ∃ (G' : Ghost), GLe G G' ∧ tup [(.bool r)] = v ∧ St c G' w' (σ)) := by
 unfold auto_Right at hF
 refine calls_mk Tryd.func43 rfl rfl rfl ?_
 refine wp_seq (wc_region ?_)
 refine wl_box (K := kTAuto) (x := a0) H rfl h0_ ?_
 intro b1 w4 H2
 refine wl_rn (rn_pure (.bool false) rfl) ?_
 refine wl_nil (then_n ?_)
 refine wp_seq ?_
 refine wp_seq (join (fun a w => ∃ (T0 : Fr) (G1 : Ghost) (x8 : Bool), a = mk 35 (upds T0 [(1, (pt b1)), (20, (.bool x8))]) ∧ GLe G G1 ∧ St c G1 w ((.box b1 23 (kTAuto.at_ a0)) :: σ) ∧ auto_Right_j1 a0 x8 = some r) ?_ ?_)
 ·rintro a w ⟨T0, G11, x8, rfl, hG9, H10, hF⟩
  rcases bcases x8 with hb12 | hb12
  ·replace hF := ifT hF hb12
   refine wc_true (vb hb12) ?_
   refine wp_seq (wc_region ?_)
   refine wl_rn (rn_pure (.bool false) rfl) ?_
   refine wl_nil (then_n ?_)
   refine wp_ret ?_
   refine then_r ?_
   have hF := Option.some.inj hF
   subst hF
   exact ret_mk rfl (RV.tmp rfl RV.nil) ⟨_, hG9, rfl, (St.pk [] 1 H10 rfl (by decide))⟩
  ·replace hF := ifF hF hb12
   refine wc_false (vb hb12) ?_
   refine wp_skip ?_
   refine then_n ?_
   refine wp_seq ?_
   refine wp_seq (wc_region ?_)
   refine wl_rn (rn_field fo23_0 rfl) ?_
   refine wl_loadd H10 (i := 0) rfl lTAuto_State (dInt .i64) ty3 rfl ?_
   obtain ⟨r13, hr14, hF⟩ := bindS hF
   refine wl_call (vs := [(.int .i64 a0.State)]) en64 rfl (fsm_Timed_ok hc H10 hr14) ?_
   rintro v19 w18 ⟨G15, hG16, rfl, H17⟩
   refine wl_nil (then_n ?_)
   rcases bcases r13 with hb20 | hb20
   ·replace hF := ifT hF hb20
    refine wc_true (vb hb20) ?_
    refine wp_seq (wc_region ?_)
    refine wl_rn (rn_field fo23_2 rfl) ?_
    refine wl_loadd H17 (i := 0) rfl lTAuto_Left (dInt .i64) ty3 rfl ?_
    iterate 2 refine wl_rn (rn_pure (.bool (decide (a0.Left ≥ 1))) rfl) ?_
    rcases bcases (decide (a0.Left ≥ 1)) with hb21 | hb21
    ·replace hF := ifT hF hb21
     refine wl_yes rfl rfl rfl (vb hb21) ?_
     refine wl_rn (rn_field fo23_2 rfl) ?_
     refine wl_yes rfl rfl rfl (vb hb21) ?_
     refine wl_loadd H17 (i := 0) rfl lTAuto_Left (dInt .i64) ty3 rfl ?_
     refine wl_yes rfl rfl rfl (vb hb21) ?_
     refine wl_rn (rn_pure (.bool (decide (a0.Left ≤ 3))) rfl) ?_
     refine wl_rn (rn_pickT (.bool (decide (a0.Left ≤ 3))) (vb hb21) rfl) ?_
     refine wl_rn (rn_pure (.bool (decide (a0.Left ≤ 3))) rfl) ?_
     refine wl_nil (then_n ?_)
     refine wp_ret ?_
     refine then_r ?_
     have hF := Option.some.inj hF
     subst hF
     exact ret_mk rfl (RV.tmp rfl RV.nil) ⟨_, (hG9.trans hG16), rfl, (St.pk [] 1 H17 rfl (by decide))⟩
    ·replace hF := ifF hF hb21
     iterate 3 refine wl_no rfl rfl rfl (vb hb21) ?_
     refine wl_rn (rn_pickF (.bool false) (vb hb21) rfl) ?_
     refine wl_rn (rn_pure (.bool false) rfl) ?_
     refine wl_nil (then_n ?_)
     refine wp_ret ?_
     refine then_r ?_
     have hF := Option.some.inj hF
     subst hF
     exact ret_mk rfl (RV.tmp rfl RV.nil) ⟨_, (hG9.trans hG16), rfl, (St.pk [] 1 H17 rfl (by decide))⟩
   ·replace hF := ifF hF hb20
    refine wc_false (vb hb20) ?_
    refine wp_skip ?_
    refine then_n ?_
    refine wp_seq (wc_region ?_)
    refine wl_rn (rn_field fo23_2 rfl) ?_
    refine wl_loadd H17 (i := 0) rfl lTAuto_Left (dInt .i64) ty3 rfl ?_
    iterate 2 refine wl_rn (rn_pure (.bool (a0.Left == 0)) rfl) ?_
    refine wl_nil (then_n ?_)
    refine wp_ret ?_
    have hF := Option.some.inj hF
    subst hF
    exact ret_mk rfl (RV.tmp rfl RV.nil) ⟨_, (hG9.trans hG16), rfl, (St.pk [] 1 H17 rfl (by decide))⟩
 ·refine wc_region ?_
  refine wl_rn (rn_field fo23_0 rfl) ?_
  refine wl_loadd H2 (i := 0) rfl lTAuto_State (dInt .i64) ty3 rfl ?_
  iterate 2 refine wl_rn (rn_pure (.bool (decide (a0.State < 0))) rfl) ?_
  rcases bcases (decide (a0.State < 0)) with hb22 | hb22
  ·replace hF := ifT hF hb22
   iterate 3 refine wl_no rfl rfl rfl (vb hb22) ?_
   refine wl_rn (rn_pickT (.bool true) (vb hb22) rfl) ?_
   refine wl_rn (rn_pure (.bool true) rfl) ?_
   iterate 3 refine wl_no rfl rfl rfl rfl ?_
   refine wl_rn (rn_pickT (.bool true) rfl rfl) ?_
   refine wl_rn (rn_pure (.bool true) rfl) ?_
   iterate 3 refine wl_no rfl rfl rfl rfl ?_
   refine wl_rn (rn_pickT (.bool true) rfl rfl) ?_
   refine wl_nil (then_n ?_)
   exact ⟨_, _, true, frame_eq _ ⟨rfl, rfl, trivial⟩, GLe.refl _, H2, hF⟩
  ·replace hF := ifF hF hb22
   refine wl_yes rfl rfl rfl (vb hb22) ?_
   refine wl_rn (rn_field fo23_0 rfl) ?_
   refine wl_yes rfl rfl rfl (vb hb22) ?_
   refine wl_loadd H2 (i := 0) rfl lTAuto_State (dInt .i64) ty3 rfl ?_
   refine wl_yes rfl rfl rfl (vb hb22) ?_
   refine wl_rn (rn_pure (.bool (decide (a0.State ≥ 10))) rfl) ?_
   refine wl_rn (rn_pickF (.bool (decide (a0.State ≥ 10))) (vb hb22) rfl) ?_
   refine wl_rn (rn_pure (.bool (decide (a0.State ≥ 10))) rfl) ?_
   rcases bcases (decide (a0.State ≥ 10)) with hb23 | hb23
   ·replace hF := ifT hF hb23
    iterate 3 refine wl_no rfl rfl rfl (vb hb23) ?_
    refine wl_rn (rn_pickT (.bool true) (vb hb23) rfl) ?_
    refine wl_rn (rn_pure (.bool true) rfl) ?_
    iterate 3 refine wl_no rfl rfl rfl rfl ?_
    refine wl_rn (rn_pickT (.bool true) rfl rfl) ?_
    refine wl_nil (then_n ?_)
    exact ⟨_, _, true, frame_eq _ ⟨rfl, rfl, trivial⟩, GLe.refl _, H2, hF⟩
   ·replace hF := ifF hF hb23
    refine wl_yes rfl rfl rfl (vb hb23) ?_
    refine wl_rn (rn_field fo23_1 rfl) ?_
    refine wl_yes rfl rfl rfl (vb hb23) ?_
    refine wl_loadd H2 (i := 0) rfl lTAuto_Count (dInt .i64) ty3 rfl ?_
    refine wl_yes rfl rfl rfl (vb hb23) ?_
    refine wl_rn (rn_pure (.bool (decide (a0.Count < 0))) rfl) ?_
    refine wl_rn (rn_pickF (.bool (decide (a0.Count < 0))) (vb hb23) rfl) ?_
    refine wl_rn (rn_pure (.bool (decide (a0.Count < 0))) rfl) ?_
    rcases bcases (decide (a0.Count < 0)) with hb24 | hb24
    ·replace hF := ifT hF hb24
     iterate 3 refine wl_no rfl rfl rfl (vb hb24) ?_
     refine wl_rn (rn_pickT (.bool true) (vb hb24) rfl) ?_
     refine wl_nil (then_n ?_)
     exact ⟨_, _, true, frame_eq _ ⟨rfl, rfl, trivial⟩, GLe.refl _, H2, hF⟩
    ·replace hF := ifF hF hb24
     refine wl_yes rfl rfl rfl (vb hb24) ?_
     refine wl_rn (rn_field fo23_1 rfl) ?_
     refine wl_yes rfl rfl rfl (vb hb24) ?_
     refine wl_loadd H2 (i := 0) rfl lTAuto_Count (dInt .i64) ty3 rfl ?_
     refine wl_yes rfl rfl rfl (vb hb24) ?_
     refine wl_rn (rn_pure (.bool (decide (a0.Count > 5))) rfl) ?_
     refine wl_rn (rn_pickF (.bool (decide (a0.Count > 5))) (vb hb24) rfl) ?_
     refine wl_nil (then_n ?_)
     exact ⟨_, _, (decide (a0.Count > 5)), frame_eq _ ⟨rfl, rfl, trivial⟩, GLe.refl _, H2, hF⟩

theorem nego_Right_1_ok {c : World} (hc : Hc c) {G : Ghost} {w : World} {σ : List Ent} {a0 : TOpt} {v0_ : Value} (h0_ : kTOpt.V G v0_ a0) (H : St c G w (σ)) {r : Bool} (hF : nego_Right_1 a0 = some r) :
  Calls Tryd.prog 42 ([v0_] : List Value).toArray w (Ends fun v w' => ∃ (G' : Ghost), GLe G G' ∧ tup [(.bool r)] = v ∧ St c G' w' (σ)) := by
 unfold nego_Right_1 at hF
 refine calls_mk Tryd.func42 rfl rfl rfl ?_
 refine wp_seq (wc_region ?_)
 refine wl_box (K := kTOpt) (x := a0) H rfl h0_ ?_
 intro b1 w4 H2
 refine wl_rn (rn_pure (.bool false) rfl) ?_
 refine wl_nil (then_n (wp_seq (wc_region ?_)))
 refine wl_rn (rn_field fo60_0 rfl) ?_
 refine wl_loadd H2 (i := 0) rfl lTOpt_Typ (dInt .u8) ty5 rfl ?_
 iterate 2 refine wl_rn (rn_pure (.bool (a0.Typ == 5)) rfl) ?_
 rcases bcases (a0.Typ == 5) with hb5 | hb5
 ·replace hF := ifT hF hb5
  refine wl_yes rfl rfl rfl (vb hb5) ?_
  refine wl_rn (rn_field fo60_1 rfl) ?_
  refine wl_yes rfl rfl rfl (vb hb5) ?_
  refine wl_load H2 (i := 0) rfl lTOpt_Data ty30 rfl ?_
  intro v6 hv7
  obtain ⟨A8, c9, rfl, hs10⟩ := slice_V hv7
  refine wl_yes rfl rfl rfl (vb hb5) ?_
  refine wl_rn (rn_len sl30 rfl) ?_
  refine wl_yes rfl rfl rfl (vb hb5) ?_
  refine wl_rn (rn_pure (.bool ((a0.Data.length : Int) != 4)) rfl) ?_
  refine wl_rn (rn_pickT (.bool ((a0.Data.length : Int) != 4)) (vb hb5) rfl) ?_
  refine wl_rn (rn_pure (.bool ((a0.Data.length : Int) != 4)) rfl) ?_
  refine wl_nil (then_n ?_)
  refine wp_ret ?_
  have hF := Option.some.inj hF
  subst hF
  exact ret_mk rfl (RV.tmp rfl RV.nil) ⟨_, GLe.refl _, rfl, (St.pk [] 1 H2 rfl (by decide))⟩
 ·replace hF := ifF hF hb5
  iterate 4 refine wl_no rfl rfl rfl (vb hb5) ?_
  refine wl_rn (rn_pickF (.bool false) (vb hb5) rfl) ?_
  refine wl_rn (rn_pure (.bool false) rfl) ?_
  refine wl_nil (then_n ?_)
  refine wp_ret ?_
  have hF := Option.some.inj hF
  subst hF
  exact ret_mk rfl (RV.tmp rfl RV.nil) ⟨_, GLe.refl _, rfl, (St.pk [] 1 H2 rfl (by decide))⟩

theorem slices_IndexFunc_Opt_nego_Right_1_ok {c : World} (hc : Hc c) {G : Ghost} {w : World} {σ : List Ent} {a0 : (List TOpt)} {A0_ : Option Addr} {c0_ : Nat} (h0_ : SlR kTOpt G A0_ c0_ a0) (H : St c G w (σ)) {r : Int} (hF : slices_IndexFunc_Opt_nego_Right_1 a0 = some r) :
  Calls Tryd.prog 65 ([(.slice A0_ a0.length c0_), (.func (.func 42) #[] #[])] : List Value).toArray w (Ends fun v w' => ∃ (G' : Ghost), GLe G G' ∧ tup [(.int .i64 r)] = v ∧ St c G' w' (σ)) := by
 unfold slices_IndexFunc_Opt_nego_Right_1 at hF
 refine calls_mk Tryd.func65 rfl rfl rfl ?_
 refine wp_seq (wc_region ?_)
 refine wl_rn (rn_pure (.int .i64 0) rfl) ?_
 refine wl_nil (then_n ?_)
 refine wp_seq ?_
 refine wp_seq (wc_region ?_)
 refine wl_rn (rn_pure (.slice A0_ a0.length c0_) rfl) ?_
 refine wl_rn (rn_len sl27 rfl) ?_
 refine wl_rn (rn_pure (.int .i64 0) rfl) ?_
 refine wl_nil (then_n ?_)
 refine wp_block ?_
 refine wp_loopX (fun (s : Int) a w => ∃ (T0 : Fr) (G1 : Ghost), a = mk 19 (upds T0 [(0, (.slice A0_ a0.length c0_)), (1, (.func (.func 42) #[] #[])), (7, (.int .i64 (a0.length : Int))), (8, (.int .i64 s))]) ∧ GLe G G1 ∧ St c G1 w (σ)) hF ?_ ?_
 ·exact ⟨_, _, frame_eq _ ⟨rfl, rfl, rfl, rfl, trivial⟩, GLe.refl _, H⟩
 ·rintro x18 a w y21 ⟨T0, G22, rfl, hG19, H20⟩ hF hy1
  refine wp_seq (wc_region ?_)
  refine wl_rn (rn_pure (.bool (decide (x18 < (a0.length : Int)))) rfl) ?_
  refine wl_nil (then_n ?_)
  refine wp_seq ?_
  rcases bcases (decide (x18 < (a0.length : Int))) with hb23 | hb23
  ·replace hF := ifT hF hb23
   refine wc_true (vb hb23) ?_
   refine wp_skip ?_
   refine then_n ?_
   refine wp_seq ?_
   refine wp_block ?_
   refine wp_seq (wc_region ?_)
   iterate 2 refine wl_rn (rn_pure (.int .i64 x18) rfl) ?_
   refine wl_nil (then_n (wp_seq (wc_region ?_)))
   refine wl_rn (rn_pure (.func (.func 42) #[] #[]) rfl) ?_
   refine wl_rn (rn_pure (.slice A0_ a0.length c0_) rfl) ?_
   refine wl_rn (rn_pure (.int .i64 x18) rfl) ?_
   obtain ⟨x24, hx25, hF⟩ := bindS hF
   refine wl_rnE (rn_index (h0_.mono hG19) sl27 ty60 rfl rfl hx25) ?_
   intro a26 hp27
   refine wl_loadp H20 hp27 ty60 rfl ?_
   intro v28 hv29
   obtain ⟨r30, hr31, hF⟩ := bindS hF
   refine wl_callv (first := []) (captured := []) (vs := [v28]) en42 rfl rfl (nego_Right_1_ok hc hv29 H20 hr31) ?_
   rintro v36 w35 ⟨G32, hG33, rfl, H34⟩
   refine wl_nil (then_n ?_)
   rcases bcases r30 with hb37 | hb37
   ·replace hF := ifT hF hb37
    refine wc_true (vb hb37) ?_
    refine wp_seq (wc_region ?_)
    iterate 2 refine wl_rn (rn_pure (.int .i64 x18) rfl) ?_
    refine wl_nil (then_n ?_)
    refine wp_ret ?_
    refine blk_r ?_
    iterate 2 refine then_r ?_
    replace hF := exitS hF hy1
    refine blk_r ?_
    refine then_r ?_
    have hF := Option.some.inj hF
    subst hF
    exact ret_mk rfl (RV.tmp rfl RV.nil) ⟨_, (hG19.trans hG33), rfl, H34⟩
   ·replace hF := ifF hF hb37
    refine wc_false (vb hb37) ?_
    refine wp_skip ?_
    refine blk_n ?_
    refine then_n ?_
    refine wc_region ?_
    iterate 2 refine wl_rn (rn_pure (.int .i64 (IntKind.i64.wrap (x18 + 1))) rfl) ?_
    refine wl_nil (then_n ?_)
    exact ⟨_, (Option.some.inj hF).symm, _, _, frame_eq _ ⟨rfl, rfl, rfl, rfl, trivial⟩, (hG19.trans hG33), H34⟩
  ·replace hF := ifF hF hb23
   refine wc_false (vb hb23) ?_
   refine wp_exit ?_
   iterate 2 refine then_e ?_
   replace hF := exitS hF hy1
   refine blk_e ?_
   refine then_n ?_
   refine wp_seq (wc_region ?_)
   refine wl_rn (rn_pure (.int .i64 (-1)) rfl) ?_
   refine wl_nil (then_n ?_)
   refine wp_ret ?_
   have hF := Option.some.inj hF
   subst hF
   exact ret_mk rfl (RV.tmp rfl RV.nil) ⟨_, hG19, rfl, H20⟩

theorem slices_ContainsFunc_Opt_nego_Right_1_ok {c : World} (hc : Hc c) {G : Ghost} {w : World} {σ : List Ent} {a0 : (List TOpt)} {A0_ : Option Addr} {c0_ : Nat} (h0_ : SlR kTOpt G A0_ c0_ a0) (H : St c G w (σ)) {r : Bool} (hF : slices_ContainsFunc_Opt_nego_Right_1 a0 = some r) :
  Calls Tryd.prog 44 ([(.slice A0_ a0.length c0_), (.func (.func 42) #[] #[])] : List Value).toArray w (Ends fun v w' => ∃ (G' : Ghost), GLe G G' ∧ tup [(.bool r)] = v ∧ St c G' w' (σ)) := by
 unfold slices_ContainsFunc_Opt_nego_Right_1 at hF
 refine calls_mk Tryd.func44 rfl rfl rfl ?_
 refine wp_seq (wc_region ?_)
 refine wl_rn (rn_pure (.bool false) rfl) ?_
 refine wl_nil (then_n (wp_seq (wc_region ?_)))
 refine wl_rn (rn_pure (.slice A0_ a0.length c0_) rfl) ?_
 refine wl_rn (rn_pure (.func (.func 42) #[] #[]) rfl) ?_
 obtain ⟨r1, hr2, hF⟩ := bindS hF
 refine wl_call (vs := [(.slice A0_ a0.length c0_), (.func (.func 42) #[] #[])]) en65 rfl (slices_IndexFunc_Opt_nego_Right_1_ok hc h0_ H hr2) ?_
 rintro v7 w6 ⟨G3, hG4, rfl, H5⟩
 iterate 2 refine wl_rn (rn_pure (.bool (decide (r1 ≥ 0))) rfl) ?_
 refine wl_nil (then_n ?_)
 refine wp_ret ?_
 have hF := Option.some.inj hF
 subst hF
 exact ret_mk rfl (RV.tmp rfl RV.nil) ⟨_, hG4, rfl, H5⟩

theorem nego_Right_ok {c : World} (hc : Hc c) {G : Ghost} {w : World} {σ : List Ent} {a0 : TNego} {v0_ : Value} (h0_ : kTNego.V G v0_ a0) (H : St c G w (σ)) {r : Bool} (hF : nego_Right a0 = some r) :
  Calls Tryd.prog 25 ([v0_] : List Value).toArray w (Ends fun v w' => ∃ (G' : Ghost), GLe G G' ∧ tup [(.bool r)] = v ∧ St c G' w' (σ)) := by
 unfold nego_Right at hF
 refine calls_mk Tryd.func25 rfl rfl rfl ?_
 refine wp_seq (wc_region ?_)
 refine wl_box (K := kTNego) (x := a0) H rfl h0_ ?_
 intro b1 w4 H2
 refine wl_rn (rn_pure (.bool false) rfl) ?_
 refine wl_nil (then_n (wp_seq (wc_region ?_)))
 refine wl_rn (rn_field fo29_2 rfl) ?_
 refine wl_load H2 (i := 0) rfl lTNego_Ours ty27 rfl ?_
 intro v5 hv6
 obtain ⟨A7, c8, rfl, hs9⟩ := slice_V hv6
 obtain ⟨r10, hr11, hF⟩ := bindS hF
 refine wl_call (vs := [(.slice A7 a0.Ours.length c8)]) en41 rfl (opts_Bytes_ok hc hs9 H2 hr11) ?_
 rintro v16 w15 ⟨G12, A17, c18, hG13, rfl, H14, hs19⟩
 refine wl_rn (rn_pure (.tuple #[(.slice A17 r10.1.length c18), (.int .i64 r10.2)]) rfl) ?_
 refine wl_rn (rn_pure (.slice A17 r10.1.length c18) rfl) ?_
 refine wl_rn (rn_pure (.int .i64 r10.2) rfl) ?_
 refine wl_rn (rn_pure (.slice A17 r10.1.length c18) rfl) ?_
 refine wl_rn (rn_pure (.int .i64 r10.2) rfl) ?_
 refine wl_nil (then_n (wp_seq (wc_region ?_)))
 refine wl_rn (rn_pure (.func (.func 42) #[] #[]) rfl) ?_
 refine wl_nil (then_n (wp_seq (wc_region ?_)))
 refine wl_rn (rn_field fo29_0 rfl) ?_
 refine wl_load H14 (i := 0) rfl lTNego_A ty23 rfl ?_
 intro v20 hv21
 obtain ⟨r22, hr23, hF⟩ := bindS hF
 refine wl_call (vs := [v20]) en43 rfl (auto_Right_ok hc hv21 H14 hr23) ?_
 rintro v28 w27 ⟨G24, hG25, rfl, H26⟩
 refine wl_rn (rn_pure (.bool r22) rfl) ?_
 rcases bcases r22 with hb29 | hb29
 ·replace hF := ifT hF hb29
  refine wl_yes rfl rfl rfl (vb hb29) ?_
  refine wl_rn (rn_field fo29_3 rfl) ?_
  refine wl_yes rfl rfl rfl (vb hb29) ?_
  refine wl_loadd H26 (i := 0) rfl lTNego_Naks (dInt .i64) ty3 rfl ?_
  refine wl_yes rfl rfl rfl (vb hb29) ?_
  refine wl_rn (rn_pure (.bool (decide (a0.Naks ≥ 0))) rfl) ?_
  refine wl_rn (rn_pickT (.bool (decide (a0.Naks ≥ 0))) (vb hb29) rfl) ?_
  refine wl_rn (rn_pure (.bool (decide (a0.Naks ≥ 0))) rfl) ?_
  rcases bcases (decide (a0.Naks ≥ 0)) with hb30 | hb30
  ·replace hF := ifT hF hb30
   refine wl_yes rfl rfl rfl (vb hb30) ?_
   refine wl_rn (rn_field fo29_3 rfl) ?_
   refine wl_yes rfl rfl rfl (vb hb30) ?_
   refine wl_loadd H26 (i := 0) rfl lTNego_Naks (dInt .i64) ty3 rfl ?_
   refine wl_yes rfl rfl rfl (vb hb30) ?_
   refine wl_rn (rn_pure (.bool (decide (a0.Naks ≤ 3))) rfl) ?_
   refine wl_rn (rn_pickT (.bool (decide (a0.Naks ≤ 3))) (vb hb30) rfl) ?_
   refine wl_rn (rn_pure (.bool (decide (a0.Naks ≤ 3))) rfl) ?_
   rcases bcases (decide (a0.Naks ≤ 3)) with hb31 | hb31
   ·replace hF := ifT hF hb31
    refine wl_yes rfl rfl rfl (vb hb31) ?_
    refine wl_rn (rn_pure (.int .i64 r10.2) rfl) ?_
    refine wl_yes rfl rfl rfl (vb hb31) ?_
    refine wl_rn (rn_pure (.bool (r10.2 == 0)) rfl) ?_
    refine wl_rn (rn_pickT (.bool (r10.2 == 0)) (vb hb31) rfl) ?_
    refine wl_rn (rn_pure (.bool (r10.2 == 0)) rfl) ?_
    rcases bcases (r10.2 == 0) with hb32 | hb32
    ·replace hF := ifT hF hb32
     refine wl_yes rfl rfl rfl (vb hb32) ?_
     refine wl_rn (rn_field fo29_2 rfl) ?_
     refine wl_yes rfl rfl rfl (vb hb32) ?_
     refine wl_load H26 (i := 0) rfl lTNego_Ours ty27 rfl ?_
     intro v33 hv34
     obtain ⟨A35, c36, rfl, hs37⟩ := slice_V hv34
     refine wl_yes rfl rfl rfl (vb hb32) ?_
     refine wl_rn (rn_pure (.func (.func 42) #[] #[]) rfl) ?_
     refine wl_yes rfl rfl rfl (vb hb32) ?_
     obtain ⟨r38, hr39, hF⟩ := bindS hF
     refine wl_call (vs := [(.slice A35 a0.Ours.length c36), (.func (.func 42) #[] #[])]) en44 rfl (slices_ContainsFunc_Opt_nego_Right_1_ok hc hs37 H26 hr39) ?_
     rintro v44 w43 ⟨G40, hG41, rfl, H42⟩
     refine wl_yes rfl rfl rfl (vb hb32) ?_
     refine wl_rn (rn_pure (.bool (!r38)) rfl) ?_
     refine wl_rn (rn_pickT (.bool (!r38)) (vb hb32) rfl) ?_
     refine wl_rn (rn_pure (.bool (!r38)) rfl) ?_
     refine wl_nil (then_n ?_)
     refine wp_ret ?_
     have hF := Option.some.inj hF
     subst hF
     exact ret_mk rfl (RV.tmp rfl RV.nil) ⟨_, ((hG13.trans hG25).trans hG41), rfl, (St.pk [] 1 H42 rfl (by decide))⟩
    ·replace hF := ifF hF hb32
     iterate 5 refine wl_no rfl rfl rfl (vb hb32) ?_
     refine wl_rn (rn_pickF (.bool false) (vb hb32) rfl) ?_
     refine wl_rn (rn_pure (.bool false) rfl) ?_
     refine wl_nil (then_n ?_)
     refine wp_ret ?_
     have hF := Option.some.inj hF
     subst hF
     exact ret_mk rfl (RV.tmp rfl RV.nil) ⟨_, (hG13.trans hG25), rfl, (St.pk [] 1 H26 rfl (by decide))⟩
   ·replace hF := ifF hF hb31
    iterate 2 refine wl_no rfl rfl rfl (vb hb31) ?_
    refine wl_rn (rn_pickF (.bool false) (vb hb31) rfl) ?_
    refine wl_rn (rn_pure (.bool false) rfl) ?_
    iterate 5 refine wl_no rfl rfl rfl rfl ?_
    refine wl_rn (rn_pickF (.bool false) rfl rfl) ?_
    refine wl_rn (rn_pure (.bool false) rfl) ?_
    refine wl_nil (then_n ?_)
    refine wp_ret ?_
    have hF := Option.some.inj hF
    subst hF
    exact ret_mk rfl (RV.tmp rfl RV.nil) ⟨_, (hG13.trans hG25), rfl, (St.pk [] 1 H26 rfl (by decide))⟩
  ·replace hF := ifF hF hb30
   iterate 3 refine wl_no rfl rfl rfl (vb hb30) ?_
   refine wl_rn (rn_pickF (.bool false) (vb hb30) rfl) ?_
   refine wl_rn (rn_pure (.bool false) rfl) ?_
   iterate 2 refine wl_no rfl rfl rfl rfl ?_
   refine wl_rn (rn_pickF (.bool false) rfl rfl) ?_
   refine wl_rn (rn_pure (.bool false) rfl) ?_
   iterate 5 refine wl_no rfl rfl rfl rfl ?_
   refine wl_rn (rn_pickF (.bool false) rfl rfl) ?_
   refine wl_rn (rn_pure (.bool false) rfl) ?_
   refine wl_nil (then_n ?_)
   refine wp_ret ?_
   have hF := Option.some.inj hF
   subst hF
   exact ret_mk rfl (RV.tmp rfl RV.nil) ⟨_, (hG13.trans hG25), rfl, (St.pk [] 1 H26 rfl (by decide))⟩
 ·replace hF := ifF hF hb29
  iterate 3 refine wl_no rfl rfl rfl (vb hb29) ?_
  refine wl_rn (rn_pickF (.bool false) (vb hb29) rfl) ?_
  refine wl_rn (rn_pure (.bool false) rfl) ?_
  iterate 3 refine wl_no rfl rfl rfl rfl ?_
  refine wl_rn (rn_pickF (.bool false) rfl rfl) ?_
  refine wl_rn (rn_pure (.bool false) rfl) ?_
  iterate 2 refine wl_no rfl rfl rfl rfl ?_
  refine wl_rn (rn_pickF (.bool false) rfl rfl) ?_
  refine wl_rn (rn_pure (.bool false) rfl) ?_
  iterate 5 refine wl_no rfl rfl rfl rfl ?_
  refine wl_rn (rn_pickF (.bool false) rfl rfl) ?_
  refine wl_rn (rn_pure (.bool false) rfl) ?_
  refine wl_nil (then_n ?_)
  refine wp_ret ?_
  have hF := Option.some.inj hF
  subst hF
  exact ret_mk rfl (RV.tmp rfl RV.nil) ⟨_, (hG13.trans hG25), rfl, (St.pk [] 1 H26 rfl (by decide))⟩

theorem opts_Same_1_ok {c : World} (hc : Hc c) {G : Ghost} {w : World} {σ : List Ent} {a0 : TOpt} {v0_ : Value} {a1 : TOpt} {v1_ : Value} (h0_ : kTOpt.V G v0_ a0) (h1_ : kTOpt.V G v1_ a1) (H : St c G w (σ)) {r : Bool} (hF : opts_Same_1 a0 a1 = some r) :
  Calls Tryd.prog 67 ([v0_, v1_] : List Value).toArray w (Ends fun v w' => ∃ (G' : Ghost), GLe G G' ∧ tup [(.bool r)] = v ∧ St c G' w' (σ)) := by
 unfold opts_Same_1 at hF
 refine calls_mk Tryd.func67 rfl rfl rfl ?_
 refine wp_seq (wc_region ?_)
 refine wl_box (K := kTOpt) (x := a0) H rfl h0_ ?_
 intro b1 w4 H2
 refine wl_box (K := kTOpt) (x := a1) H2 rfl h1_ ?_
 intro b5 w8 H6
 refine wl_rn (rn_pure (.bool false) rfl) ?_
 refine wl_nil (then_n (wp_seq (wc_region ?_)))
 refine wl_rn (rn_field fo60_0 rfl) ?_
 refine wl_loadd H6 (i := 1) rfl lTOpt_Typ (dInt .u8) ty5 rfl ?_
 refine wl_rn (rn_field fo60_0 rfl) ?_
 refine wl_loadd H6 (i := 0) rfl lTOpt_Typ (dInt .u8) ty5 rfl ?_
 iterate 2 refine wl_rn (rn_pure (.bool (a0.Typ == a1.Typ)) rfl) ?_
 rcases bcases (a0.Typ == a1.Typ) with hb9 | hb9
 ·replace hF := ifT hF hb9
  refine wl_yes rfl rfl rfl (vb hb9) ?_
  refine wl_rn (rn_field fo60_1 rfl) ?_
  refine wl_yes rfl rfl rfl (vb hb9) ?_
  refine wl_load H6 (i := 1) rfl lTOpt_Data ty30 rfl ?_
  intro v10 hv11
  obtain ⟨A12, c13, rfl, hs14⟩ := slice_V hv11
  refine wl_yes rfl rfl rfl (vb hb9) ?_
  refine wl_rn (rn_field fo60_1 rfl) ?_
  refine wl_yes rfl rfl rfl (vb hb9) ?_
  refine wl_load H6 (i := 0) rfl lTOpt_Data ty30 rfl ?_
  intro v15 hv16
  obtain ⟨A17, c18, rfl, hs19⟩ := slice_V hv16
  refine wl_yes rfl rfl rfl (vb hb9) ?_
  obtain ⟨r20, hr21, hF⟩ := bindS hF
  refine wl_call (vs := [(.slice A12 a0.Data.length c13), (.slice A17 a1.Data.length c18)]) en68 rfl (bytes_Equal_ok hc hs14 hs19 H6 hr21) ?_
  rintro v26 w25 ⟨G22, hG23, rfl, H24⟩
  refine wl_rn (rn_pickT (.bool r20) (vb hb9) rfl) ?_
  refine wl_rn (rn_pure (.bool r20) rfl) ?_
  refine wl_nil (then_n ?_)
  refine wp_ret ?_
  have hF := Option.some.inj hF
  subst hF
  exact ret_mk rfl (RV.tmp rfl RV.nil) ⟨_, hG23, rfl, (St.pk [] 2 H24 rfl (by decide))⟩
 ·replace hF := ifF hF hb9
  iterate 5 refine wl_no rfl rfl rfl (vb hb9) ?_
  refine wl_rn (rn_pickF (.bool false) (vb hb9) rfl) ?_
  refine wl_rn (rn_pure (.bool false) rfl) ?_
  refine wl_nil (then_n ?_)
  refine wp_ret ?_
  have hF := Option.some.inj hF
  subst hF
  exact ret_mk rfl (RV.tmp rfl RV.nil) ⟨_, GLe.refl _, rfl, (St.pk [] 2 H6 rfl (by decide))⟩

theorem slices_EqualFunc_Opt_opts_Same_1_ok {c : World} (hc : Hc c) {G : Ghost} {w : World} {σ : List Ent} {a0 : (List TOpt)} {A0_ : Option Addr} {c0_ : Nat} {a1 : (List TOpt)} {A1_ : Option Addr} {c1_ : Nat} (h0_ : SlR kTOpt G A0_ c0_ a0) (h1_ : SlR kTOpt G A1_ c1_ a1) (H : St c G w (σ)) {r : Bool} (hF : slices_EqualFunc_Opt_opts_Same_1 a0 a1 = some r) :
  Calls Tryd.prog 66 ([(.slice A0_ a0.length c0_), (.slice A1_ a1.length c1_), (.func (.func 67) #[] #[])] : List Value).toArray w (Ends fun v w' => ∃ (G' : Ghost), GLe G G' ∧ tup [(.bool r)] = v ∧ St c G' w' (σ)) := by
 unfold slices_EqualFunc_Opt_opts_Same_1 at hF
 refine calls_mk Tryd.func66 rfl rfl rfl ?_
 refine wp_seq (wc_region ?_)
 refine wl_rn (rn_pure (.bool false) rfl) ?_
 refine wl_nil (then_n ?_)
 refine wp_seq ?_
 refine wp_seq (wc_region ?_)
 refine wl_rn (rn_pure (.slice A0_ a0.length c0_) rfl) ?_
 refine wl_rn (rn_len sl27 rfl) ?_
 refine wl_rn (rn_pure (.slice A1_ a1.length c1_) rfl) ?_
 refine wl_rn (rn_len sl27 rfl) ?_
 refine wl_rn (rn_pure (.bool ((a0.length : Int) != (a1.length : Int))) rfl) ?_
 refine wl_nil (then_n ?_)
 rcases bcases ((a0.length : Int) != (a1.length : Int)) with hb1 | hb1
 ·replace hF := ifT hF hb1
  refine wc_true (vb hb1) ?_
  refine wp_seq (wc_region ?_)
  refine wl_rn (rn_pure (.bool false) rfl) ?_
  refine wl_nil (then_n ?_)
  refine wp_ret ?_
  refine then_r ?_
  have hF := Option.some.inj hF
  subst hF
  exact ret_mk rfl (RV.tmp rfl RV.nil) ⟨_, GLe.refl _, rfl, H⟩
 ·replace hF := ifF hF hb1
  refine wc_false (vb hb1) ?_
  refine wp_skip ?_
  refine then_n ?_
  refine wp_seq ?_
  refine wp_seq (wc_region ?_)
  refine wl_rn (rn_pure (.slice A0_ a0.length c0_) rfl) ?_
  refine wl_rn (rn_len sl27 rfl) ?_
  refine wl_rn (rn_pure (.int .i64 0) rfl) ?_
  refine wl_nil (then_n ?_)
  refine wp_block ?_
  refine wp_loopX (fun (s : Int) a w => ∃ (T0 : Fr) (G1 : Ghost), a = mk 32 (upds T0 [(1, (.slice A1_ a1.length c1_)), (2, (.func (.func 67) #[] #[])), (15, (.slice A0_ a0.length c0_)), (16, (.int .i64 (a0.length : Int))), (17, (.int .i64 s))]) ∧ GLe G G1 ∧ St c G1 w (σ)) hF ?_ ?_
  ·exact ⟨_, _, frame_eq _ ⟨rfl, rfl, rfl, rfl, rfl, trivial⟩, GLe.refl _, H⟩
  ·rintro x41 a w y44 ⟨T0, G45, rfl, hG42, H43⟩ hF hy2
   refine wp_seq (wc_region ?_)
   refine wl_rn (rn_pure (.bool (decide (x41 < (a0.length : Int)))) rfl) ?_
   refine wl_nil (then_n ?_)
   refine wp_seq ?_
   rcases bcases (decide (x41 < (a0.length : Int))) with hb46 | hb46
   ·replace hF := ifT hF hb46
    refine wc_true (vb hb46) ?_
    refine wp_skip ?_
    refine then_n ?_
    refine wp_seq ?_
    refine wp_block ?_
    refine wp_seq (wc_region ?_)
    refine wl_rn (rn_pure (.int .i64 x41) rfl) ?_
    obtain ⟨x47, hx48, hF⟩ := bindS hF
    refine wl_rnE (rn_index (h0_.mono hG42) sl27 ty60 rfl rfl hx48) ?_
    intro a49 hp50
    refine wl_loadp H43 hp50 ty60 rfl ?_
    intro v51 hv52
    refine wl_alloc H43 zr60 ?_
    intro b53 w56 H54
    refine wl_rn (rn_pure (.int .i64 x41) rfl) ?_
    refine wl_store (z := x47) H54 (i := 0) rfl (Lens.id kTOpt) ty60 rfl rfl hv52 ?_
    intro w58 H57
    refine wl_nil (then_n (wp_seq (wc_region ?_)))
    refine wl_rn (rn_pure (.slice A1_ a1.length c1_) rfl) ?_
    refine wl_rn (rn_pure (.int .i64 x41) rfl) ?_
    obtain ⟨x59, hx60, hF⟩ := bindS hF
    refine wl_rnE (rn_index (h1_.mono hG42) sl27 ty60 rfl rfl hx60) ?_
    intro a61 hp62
    refine wl_loadp H57 hp62 ty60 rfl ?_
    intro v63 hv64
    refine wl_alloc H57 zr60 ?_
    intro b65 w68 H66
    refine wl_store (z := x59) H66 (i := 0) rfl (Lens.id kTOpt) ty60 rfl rfl hv64 ?_
    intro w70 H69
    refine wl_nil (then_n (wp_seq (wc_region ?_)))
    refine wl_rn (rn_pure (.func (.func 67) #[] #[]) rfl) ?_
    refine wl_load H69 (i := 1) rfl (Lens.id kTOpt) ty60 rfl ?_
    intro v71 hv72
    refine wl_load H69 (i := 0) rfl (Lens.id kTOpt) ty60 rfl ?_
    intro v73 hv74
    obtain ⟨r75, hr76, hF⟩ := bindS hF
    refine wl_callv (first := []) (captured := []) (vs := [v71, v73]) en67 rfl rfl (opts_Same_1_ok hc hv72 hv74 H69 hr76) ?_
    rintro v81 w80 ⟨G77, hG78, rfl, H79⟩
    refine wl_rn (rn_pure (.bool (!r75)) rfl) ?_
    refine wl_nil (then_n ?_)
    rcases bcases (!r75) with hb82 | hb82
    ·replace hF := ifT hF hb82
     refine wc_true (vb hb82) ?_
     refine wp_seq (wc_region ?_)
     refine wl_rn (rn_pure (.bool false) rfl) ?_
     refine wl_nil (then_n ?_)
     refine wp_ret ?_
     refine blk_r ?_
     iterate 2 refine then_r ?_
     replace hF := exitS hF hy2
     refine blk_r ?_
     refine then_r ?_
     have hF := Option.some.inj hF
     subst hF
     exact ret_mk rfl (RV.tmp rfl RV.nil) ⟨_, (hG42.trans hG78), rfl, (St.pk [] 2 H79 rfl (by decide))⟩
    ·replace hF := ifF hF hb82
     refine wc_false (vb hb82) ?_
     refine wp_skip ?_
     refine blk_n ?_
     refine then_n ?_
     refine wc_region ?_
     iterate 2 refine wl_rn (rn_pure (.int .i64 (IntKind.i64.wrap (x41 + 1))) rfl) ?_
     refine wl_nil (then_n ?_)
     exact ⟨_, (Option.some.inj hF).symm, _, _, frame_eq _ ⟨rfl, rfl, rfl, rfl, rfl, trivial⟩, (hG42.trans hG78), (St.pk [] 2 H79 rfl (by decide))⟩
   ·replace hF := ifF hF hb46
    refine wc_false (vb hb46) ?_
    refine wp_exit ?_
    iterate 2 refine then_e ?_
    replace hF := exitS hF hy2
    refine blk_e ?_
    refine then_n ?_
    refine wp_seq (wc_region ?_)
    refine wl_rn (rn_pure (.bool true) rfl) ?_
    refine wl_nil (then_n ?_)
    refine wp_ret ?_
    have hF := Option.some.inj hF
    subst hF
    exact ret_mk rfl (RV.tmp rfl RV.nil) ⟨_, hG42, rfl, H43⟩

theorem opts_Same_ok {c : World} (hc : Hc c) {G : Ghost} {w : World} {σ : List Ent} {a0 : (List TOpt)} {A0_ : Option Addr} {c0_ : Nat} {a1 : (List TOpt)} {A1_ : Option Addr} {c1_ : Nat} (h0_ : SlR kTOpt G A0_ c0_ a0) (h1_ : SlR kTOpt G A1_ c1_ a1) (H : St c G w (σ)) {r : Bool} (hF : opts_Same a0 a1 = some r) :
  Calls Tryd.prog 45 ([(.slice A0_ a0.length c0_), (.slice A1_ a1.length c1_)] : List Value).toArray w (Ends fun v w' => ∃ (G' : Ghost), GLe G G' ∧ tup [(.bool r)] = v ∧ St c G' w' (σ)) := by
 unfold opts_Same at hF
 refine calls_mk Tryd.func45 rfl rfl rfl ?_
 refine wp_seq (wc_region ?_)
 refine wl_rn (rn_pure (.bool false) rfl) ?_
 refine wl_nil (then_n (wp_seq (wc_region ?_)))
 refine wl_rn (rn_pure (.slice A0_ a0.length c0_) rfl) ?_
 refine wl_rn (rn_pure (.slice A1_ a1.length c1_) rfl) ?_
 obtain ⟨r1, hr2, hF⟩ := bindS hF
 refine wl_call (vs := [(.slice A0_ a0.length c0_), (.slice A1_ a1.length c1_), (.func (.func 67) #[] #[])]) en66 rfl (slices_EqualFunc_Opt_opts_Same_1_ok hc h0_ h1_ H hr2) ?_
 rintro v7 w6 ⟨G3, hG4, rfl, H5⟩
 refine wl_rn (rn_pure (.bool r1) rfl) ?_
 refine wl_nil (then_n ?_)
 refine wp_ret ?_
 have hF := Option.some.inj hF
 subst hF
 exact ret_mk rfl (RV.tmp rfl RV.nil) ⟨_, hG4, rfl, H5⟩

theorem nego_Same_ok {c : World} (hc : Hc c) {G : Ghost} {w : World} {σ : List Ent} {a0 : TNego} {v0_ : Value} {a1 : TNego} {v1_ : Value} (h0_ : kTNego.V G v0_ a0) (h1_ : kTNego.V G v1_ a1) (H : St c G w (σ)) {r : Bool} (hF : nego_Same a0 a1 = some r) :
  Calls Tryd.prog 26 ([v0_, v1_] : List Value).toArray w (Ends fun v w' => ∃ (G' : Ghost), GLe G G' ∧ tup [(.bool r)] = v ∧ St c G' w' (σ)) := by
 unfold nego_Same at hF
 refine calls_mk Tryd.func26 rfl rfl rfl ?_
 refine wp_seq (wc_region ?_)
 refine wl_box (K := kTNego) (x := a0) H rfl h0_ ?_
 intro b1 w4 H2
 refine wl_box (K := kTNego) (x := a1) H2 rfl h1_ ?_
 intro b5 w8 H6
 refine wl_rn (rn_pure (.bool false) rfl) ?_
 refine wl_nil (then_n (wp_seq (wc_region ?_)))
 refine wl_rn (rn_field fo29_0 rfl) ?_
 refine wl_load H6 (i := 1) rfl lTNego_A ty23 rfl ?_
 intro v9 hv10
 refine wl_rn (rn_field fo29_0 rfl) ?_
 refine wl_load H6 (i := 0) rfl lTNego_A ty23 rfl ?_
 intro v11 hv12
 refine wl_rn (rn_eql eqTAuto rfl eg23 rfl rfl rfl hv10 hv12) ?_
 refine wl_rn (rn_pure (.bool (eTAuto a0.A a1.A)) rfl) ?_
 rcases bcases (eTAuto a0.A a1.A) with hb13 | hb13
 ·replace hF := ifT hF hb13
  refine wl_yes rfl rfl rfl (vb hb13) ?_
  refine wl_rn (rn_field fo29_1 rfl) ?_
  refine wl_yes rfl rfl rfl (vb hb13) ?_
  refine wl_load H6 (i := 1) rfl lTNego_R ty26 rfl ?_
  intro v14 hv15
  refine wl_yes rfl rfl rfl (vb hb13) ?_
  refine wl_rn (rn_field fo29_1 rfl) ?_
  refine wl_yes rfl rfl rfl (vb hb13) ?_
  refine wl_load H6 (i := 0) rfl lTNego_R ty26 rfl ?_
  intro v16 hv17
  refine wl_yes rfl rfl rfl (vb hb13) ?_
  refine wl_rn (rn_eql eqTRule rfl eg26 rfl rfl rfl hv15 hv17) ?_
  refine wl_rn (rn_pickT (.bool (eTRule a0.R a1.R)) (vb hb13) rfl) ?_
  refine wl_rn (rn_pure (.bool (eTRule a0.R a1.R)) rfl) ?_
  rcases bcases (eTRule a0.R a1.R) with hb18 | hb18
  ·replace hF := ifT hF hb18
   refine wl_yes rfl rfl rfl (vb hb18) ?_
   refine wl_rn (rn_field fo29_3 rfl) ?_
   refine wl_yes rfl rfl rfl (vb hb18) ?_
   refine wl_loadd H6 (i := 1) rfl lTNego_Naks (dInt .i64) ty3 rfl ?_
   refine wl_yes rfl rfl rfl (vb hb18) ?_
   refine wl_rn (rn_field fo29_3 rfl) ?_
   refine wl_yes rfl rfl rfl (vb hb18) ?_
   refine wl_loadd H6 (i := 0) rfl lTNego_Naks (dInt .i64) ty3 rfl ?_
   refine wl_yes rfl rfl rfl (vb hb18) ?_
   refine wl_rn (rn_pure (.bool (a0.Naks == a1.Naks)) rfl) ?_
   refine wl_rn (rn_pickT (.bool (a0.Naks == a1.Naks)) (vb hb18) rfl) ?_
   refine wl_rn (rn_pure (.bool (a0.Naks == a1.Naks)) rfl) ?_
   rcases bcases (a0.Naks == a1.Naks) with hb19 | hb19
   ·replace hF := ifT hF hb19
    refine wl_yes rfl rfl rfl (vb hb19) ?_
    refine wl_rn (rn_field fo29_2 rfl) ?_
    refine wl_yes rfl rfl rfl (vb hb19) ?_
    refine wl_load H6 (i := 1) rfl lTNego_Ours ty27 rfl ?_
    intro v20 hv21
    obtain ⟨A22, c23, rfl, hs24⟩ := slice_V hv21
    refine wl_yes rfl rfl rfl (vb hb19) ?_
    refine wl_rn (rn_field fo29_2 rfl) ?_
    refine wl_yes rfl rfl rfl (vb hb19) ?_
    refine wl_load H6 (i := 0) rfl lTNego_Ours ty27 rfl ?_
    intro v25 hv26
    obtain ⟨A27, c28, rfl, hs29⟩ := slice_V hv26
    refine wl_yes rfl rfl rfl (vb hb19) ?_
    obtain ⟨r30, hr31, hF⟩ := bindS hF
    refine wl_call (vs := [(.slice A22 a0.Ours.length c23), (.slice A27 a1.Ours.length c28)]) en45 rfl (opts_Same_ok hc hs24 hs29 H6 hr31) ?_
    rintro v36 w35 ⟨G32, hG33, rfl, H34⟩
    refine wl_rn (rn_pickT (.bool r30) (vb hb19) rfl) ?_
    refine wl_rn (rn_pure (.bool r30) rfl) ?_
    rcases bcases r30 with hb37 | hb37
    ·replace hF := ifT hF hb37
     refine wl_yes rfl rfl rfl (vb hb37) ?_
     refine wl_rn (rn_field fo29_4 rfl) ?_
     refine wl_yes rfl rfl rfl (vb hb37) ?_
     refine wl_load H34 (i := 1) rfl lTNego_Peer ty27 rfl ?_
     intro v38 hv39
     obtain ⟨A40, c41, rfl, hs42⟩ := slice_V hv39
     refine wl_yes rfl rfl rfl (vb hb37) ?_
     refine wl_rn (rn_field fo29_4 rfl) ?_
     refine wl_yes rfl rfl rfl (vb hb37) ?_
     refine wl_load H34 (i := 0) rfl lTNego_Peer ty27 rfl ?_
     intro v43 hv44
     obtain ⟨A45, c46, rfl, hs47⟩ := slice_V hv44
     refine wl_yes rfl rfl rfl (vb hb37) ?_
     obtain ⟨r48, hr49, hF⟩ := bindS hF
     refine wl_call (vs := [(.slice A40 a0.Peer.length c41), (.slice A45 a1.Peer.length c46)]) en45 rfl (opts_Same_ok hc hs42 hs47 H34 hr49) ?_
     rintro v54 w53 ⟨G50, hG51, rfl, H52⟩
     refine wl_rn (rn_pickT (.bool r48) (vb hb37) rfl) ?_
     refine wl_rn (rn_pure (.bool r48) rfl) ?_
     refine wl_nil (then_n ?_)
     refine wp_ret ?_
     have hF := Option.some.inj hF
     subst hF
     exact ret_mk rfl (RV.tmp rfl RV.nil) ⟨_, (hG33.trans hG51), rfl, (St.pk [] 2 H52 rfl (by decide))⟩
    ·replace hF := ifF hF hb37
     iterate 5 refine wl_no rfl rfl rfl (vb hb37) ?_
     refine wl_rn (rn_pickF (.bool false) (vb hb37) rfl) ?_
     refine wl_rn (rn_pure (.bool false) rfl) ?_
     refine wl_nil (then_n ?_)
     refine wp_ret ?_
     have hF := Option.some.inj hF
     subst hF
     exact ret_mk rfl (RV.tmp rfl RV.nil) ⟨_, hG33, rfl, (St.pk [] 2 H34 rfl (by decide))⟩
   ·replace hF := ifF hF hb19
    iterate 5 refine wl_no rfl rfl rfl (vb hb19) ?_
    refine wl_rn (rn_pickF (.bool false) (vb hb19) rfl) ?_
    refine wl_rn (rn_pure (.bool false) rfl) ?_
    iterate 5 refine wl_no rfl rfl rfl rfl ?_
    refine wl_rn (rn_pickF (.bool false) rfl rfl) ?_
    refine wl_rn (rn_pure (.bool false) rfl) ?_
    refine wl_nil (then_n ?_)
    refine wp_ret ?_
    have hF := Option.some.inj hF
    subst hF
    exact ret_mk rfl (RV.tmp rfl RV.nil) ⟨_, GLe.refl _, rfl, (St.pk [] 2 H6 rfl (by decide))⟩
  ·replace hF := ifF hF hb18
   iterate 5 refine wl_no rfl rfl rfl (vb hb18) ?_
   refine wl_rn (rn_pickF (.bool false) (vb hb18) rfl) ?_
   refine wl_rn (rn_pure (.bool false) rfl) ?_
   iterate 5 refine wl_no rfl rfl rfl rfl ?_
   refine wl_rn (rn_pickF (.bool false) rfl rfl) ?_
   refine wl_rn (rn_pure (.bool false) rfl) ?_
   iterate 5 refine wl_no rfl rfl rfl rfl ?_
   refine wl_rn (rn_pickF (.bool false) rfl rfl) ?_
   refine wl_rn (rn_pure (.bool false) rfl) ?_
   refine wl_nil (then_n ?_)
   refine wp_ret ?_
   have hF := Option.some.inj hF
   subst hF
   exact ret_mk rfl (RV.tmp rfl RV.nil) ⟨_, GLe.refl _, rfl, (St.pk [] 2 H6 rfl (by decide))⟩
 ·replace hF := ifF hF hb13
  iterate 5 refine wl_no rfl rfl rfl (vb hb13) ?_
  refine wl_rn (rn_pickF (.bool false) (vb hb13) rfl) ?_
  refine wl_rn (rn_pure (.bool false) rfl) ?_
  iterate 5 refine wl_no rfl rfl rfl rfl ?_
  refine wl_rn (rn_pickF (.bool false) rfl rfl) ?_
  refine wl_rn (rn_pure (.bool false) rfl) ?_
  iterate 5 refine wl_no rfl rfl rfl rfl ?_
  refine wl_rn (rn_pickF (.bool false) rfl rfl) ?_
  refine wl_rn (rn_pure (.bool false) rfl) ?_
  iterate 5 refine wl_no rfl rfl rfl rfl ?_
  refine wl_rn (rn_pickF (.bool false) rfl rfl) ?_
  refine wl_rn (rn_pure (.bool false) rfl) ?_
  refine wl_nil (then_n ?_)
  refine wp_ret ?_
  have hF := Option.some.inj hF
  subst hF
  exact ret_mk rfl (RV.tmp rfl RV.nil) ⟨_, GLe.refl _, rfl, (St.pk [] 2 H6 rfl (by decide))⟩

theorem portreevelaw14_shown_ok {c : World} (hc : Hc c) {G : Ghost} {w : World} {σ : List Ent}   (H : St c G w (σ)) {r : Bool} (hF : portreevelaw14_shown = some r) :
  Calls Tryd.prog 8 ([] : List Value).toArray w (Ends fun v w' => ∃ (G' : Ghost), GLe G G' ∧ tup [(.bool r)] = v ∧ St c G' w' (σ)) := by
 unfold portreevelaw14_shown at hF
 refine calls_mk Tryd.func8 rfl rfl rfl ?_
 refine wp_seq (wc_region ?_)
 refine wl_rn (rn_pure (.bool false) rfl) ?_
 refine wl_nil (then_n (wp_seq (wc_region ?_)))
 refine wl_rnE (rn_build (G := G) zr26 rfl bs26 rfl (Parts.cons fo26_1 lTRule_Magic ((dInt .u32).toV _ _) (Parts.nil _))) ?_
 intro v1 hv2
 obtain ⟨r3, hr4, hF⟩ := bindS hF
 refine wl_call (vs := [v1]) en18 rfl (nego_New_ok hc hv2 H hr4) ?_
 rintro v9 w8 ⟨G5, v10, hG6, rfl, H7, hv11⟩
 obtain ⟨r12, hr13, hF⟩ := bindS hF
 refine wl_call (vs := [v10, (.int .i64 2)]) en11 rfl (nego_Do_ok hc hv11 H7 hr13) ?_
 rintro v18 w17 ⟨G14, v19, A21, c22, A24, c25, hG15, rfl, H16, hv20, hs23, hs26⟩
 refine wl_rn (rn_pure (.tuple #[v19, (.slice A21 r12.2.1.length c22), (.slice A24 r12.2.2.length c25)]) rfl) ?_
 refine wl_rn (rn_pure v19 rfl) ?_
 refine wl_rn (rn_pure (.slice A21 r12.2.1.length c22) rfl) ?_
 refine wl_rn (rn_pure (.slice A24 r12.2.2.length c25) rfl) ?_
 refine wl_alloc H16 zr29 ?_
 intro b27 w30 H28
 refine wl_store (z := r12.1) H28 (i := 0) rfl (Lens.id kTNego) ty29 rfl rfl hv20 ?_
 intro w32 H31
 refine wl_rn (rn_pure (.slice A21 r12.2.1.length c22) rfl) ?_
 refine wl_rn (rn_pure (.slice A24 r12.2.2.length c25) rfl) ?_
 refine wl_nil (then_n (wp_seq (wc_region ?_)))
 refine wl_load H31 (i := 0) rfl (Lens.id kTNego) ty29 rfl ?_
 intro v33 hv34
 obtain ⟨r35, hr36, hF⟩ := bindS hF
 refine wl_call (vs := [v33, (.int .i64 0)]) en11 rfl (nego_Do_ok hc hv34 H31 hr36) ?_
 rintro v41 w40 ⟨G37, v42, A44, c45, A47, c48, hG38, rfl, H39, hv43, hs46, hs49⟩
 refine wl_rn (rn_pure (.tuple #[v42, (.slice A44 r35.2.1.length c45), (.slice A47 r35.2.2.length c48)]) rfl) ?_
 refine wl_rn (rn_pure v42 rfl) ?_
 refine wl_rn (rn_pure (.slice A44 r35.2.1.length c45) rfl) ?_
 refine wl_rn (rn_pure (.slice A47 r35.2.2.length c48) rfl) ?_
 refine wl_alloc H39 zr29 ?_
 intro b50 w53 H51
 refine wl_store (z := r35.1) H51 (i := 0) rfl (Lens.id kTNego) ty29 rfl rfl hv43 ?_
 intro w55 H54
 refine wl_rn (rn_pure (.slice A44 r35.2.1.length c45) rfl) ?_
 refine wl_rn (rn_pure (.slice A47 r35.2.2.length c48) rfl) ?_
 refine wl_nil (then_n (wp_seq (wc_region ?_)))
 refine wl_load H54 (i := 0) rfl (Lens.id kTNego) ty29 rfl ?_
 intro v56 hv57
 refine wl_rnE (rn_build (G := G37) zr32 rfl bs32 rfl (Parts.cons fo32_0 lTPkt_Code ((dInt .u8).toV _ _) (Parts.cons fo32_1 lTPkt_Id ((dInt .u8).toV _ _) (Parts.nil _)))) ?_
 intro v58 hv59
 obtain ⟨r60, hr61, hF⟩ := bindS hF
 refine wl_call (vs := [v56, v58]) en13 rfl (nego_Take_ok hc hv57 hv59 H54 hr61) ?_
 rintro v66 w65 ⟨G62, v67, A69, c70, A72, c73, hG63, rfl, H64, hv68, hs71, hs74⟩
 refine wl_rn (rn_pure (.tuple #[v67, (.slice A69 r60.2.1.length c70), (.slice A72 r60.2.2.length c73)]) rfl) ?_
 refine wl_rn (rn_pure v67 rfl) ?_
 refine wl_rn (rn_pure (.slice A69 r60.2.1.length c70) rfl) ?_
 refine wl_rn (rn_pure (.slice A72 r60.2.2.length c73) rfl) ?_
 refine wl_alloc H64 zr29 ?_
 intro b75 w78 H76
 refine wl_store (z := r60.1) H76 (i := 0) rfl (Lens.id kTNego) ty29 rfl rfl hv68 ?_
 intro w80 H79
 refine wl_rn (rn_pure (.slice A69 r60.2.1.length c70) rfl) ?_
 refine wl_rn (rn_pure (.slice A72 r60.2.2.length c73) rfl) ?_
 refine wl_nil (then_n (wp_seq (wc_region ?_)))
 refine wl_load H79 (i := 0) rfl (Lens.id kTNego) ty29 rfl ?_
 intro v81 hv82
 obtain ⟨r83, hr84, hF⟩ := bindS hF
 refine wl_call (vs := [v81]) en12 rfl (nego_Tick_ok hc hv82 H79 hr84) ?_
 rintro v89 w88 ⟨G85, v90, A92, c93, A95, c96, hG86, rfl, H87, hv91, hs94, hs97⟩
 refine wl_rn (rn_pure (.tuple #[v90, (.slice A92 r83.2.1.length c93), (.slice A95 r83.2.2.length c96)]) rfl) ?_
 refine wl_rn (rn_pure v90 rfl) ?_
 refine wl_rn (rn_pure (.slice A92 r83.2.1.length c93) rfl) ?_
 refine wl_rn (rn_pure (.slice A95 r83.2.2.length c96) rfl) ?_
 refine wl_alloc H87 zr29 ?_
 intro b98 w101 H99
 refine wl_store (z := r83.1) H99 (i := 0) rfl (Lens.id kTNego) ty29 rfl rfl hv91 ?_
 intro w103 H102
 refine wl_rn (rn_pure (.slice A92 r83.2.1.length c93) rfl) ?_
 refine wl_rn (rn_pure (.slice A95 r83.2.2.length c96) rfl) ?_
 refine wl_nil (then_n (wp_seq (wc_region ?_)))
 refine wl_rn (rn_pure (.slice A24 r12.2.2.length c25) rfl) ?_
 refine wl_rn (rn_len sl36 rfl) ?_
 iterate 2 refine wl_rn (rn_pure (.bool ((r12.2.2.length : Int) == 1)) rfl) ?_
 rcases bcases ((r12.2.2.length : Int) == 1) with hb104 | hb104
 ·replace hF := ifT hF hb104
  refine wl_yes rfl rfl rfl (vb hb104) ?_
  refine wl_rn (rn_pure (.slice A24 r12.2.2.length c25) rfl) ?_
  refine wl_yes rfl rfl rfl (vb hb104) ?_
  obtain ⟨x105, hx106, hF⟩ := bindS hF
  refine wl_rnE (rn_index (hs26.mono ((hG38.trans hG63).trans hG86)) sl36 ty3 rfl rfl hx106) ?_
  intro a107 hp108
  refine wl_yes rfl rfl rfl (vb hb104) ?_
  refine wl_loadpd H102 hp108 (dInt .i64) ty3 rfl ?_
  refine wl_yes rfl rfl rfl (vb hb104) ?_
  refine wl_rn (rn_pure (.bool (x105 == 3)) rfl) ?_
  refine wl_rn (rn_pickT (.bool (x105 == 3)) (vb hb104) rfl) ?_
  refine wl_rn (rn_pure (.bool (x105 == 3)) rfl) ?_
  rcases bcases (x105 == 3) with hb109 | hb109
  ·replace hF := ifT hF hb109
   refine wl_yes rfl rfl rfl (vb hb109) ?_
   refine wl_rn (rn_pure (.slice A44 r35.2.1.length c45) rfl) ?_
   refine wl_yes rfl rfl rfl (vb hb109) ?_
   refine wl_rn (rn_len sl35 rfl) ?_
   refine wl_yes rfl rfl rfl (vb hb109) ?_
   refine wl_rn (rn_pure (.bool ((r35.2.1.length : Int) == 1)) rfl) ?_
   refine wl_rn (rn_pickT (.bool ((r35.2.1.length : Int) == 1)) (vb hb109) rfl) ?_
   refine wl_rn (rn_pure (.bool ((r35.2.1.length : Int) == 1)) rfl) ?_
   rcases bcases ((r35.2.1.length : Int) == 1) with hb110 | hb110
   ·replace hF := ifT hF hb110
    refine wl_yes rfl rfl rfl (vb hb110) ?_
    refine wl_rn (rn_pure (.slice A44 r35.2.1.length c45) rfl) ?_
    refine wl_yes rfl rfl rfl (vb hb110) ?_
    obtain ⟨x111, hx112, hF⟩ := bindS hF
    refine wl_rnE (rn_index (hs46.mono (hG63.trans hG86)) sl35 ty32 rfl rfl hx112) ?_
    intro a113 hp114
    refine wl_yes rfl rfl rfl (vb hb110) ?_
    refine wl_rn (rn_fieldp fo32_0 rfl) ?_
    refine wl_yes rfl rfl rfl (vb hb110) ?_
    refine wl_loadpd H102 (hp114.lens lTPkt_Code) (dInt .u8) ty5 rfl ?_
    refine wl_yes rfl rfl rfl (vb hb110) ?_
    refine wl_rn (rn_pure (.bool (x111.Code == 1)) rfl) ?_
    refine wl_rn (rn_pickT (.bool (x111.Code == 1)) (vb hb110) rfl) ?_
    refine wl_rn (rn_pure (.bool (x111.Code == 1)) rfl) ?_
    rcases bcases (x111.Code == 1) with hb115 | hb115
    ·replace hF := ifT hF hb115
     refine wl_yes rfl rfl rfl (vb hb115) ?_
     refine wl_rn (rn_pure (.slice A44 r35.2.1.length c45) rfl) ?_
     refine wl_yes rfl rfl rfl (vb hb115) ?_
     obtain ⟨x116, hx117, hF⟩ := bindS hF
     refine wl_rnE (rn_index (hs46.mono (hG63.trans hG86)) sl35 ty32 rfl rfl hx117) ?_
     intro a118 hp119
     refine wl_yes rfl rfl rfl (vb hb115) ?_
     refine wl_rn (rn_fieldp fo32_1 rfl) ?_
     refine wl_yes rfl rfl rfl (vb hb115) ?_
     refine wl_loadpd H102 (hp119.lens lTPkt_Id) (dInt .u8) ty5 rfl ?_
     refine wl_yes rfl rfl rfl (vb hb115) ?_
     refine wl_rn (rn_pure (.bool (x116.Id == 1)) rfl) ?_
     refine wl_rn (rn_pickT (.bool (x116.Id == 1)) (vb hb115) rfl) ?_
     refine wl_rn (rn_pure (.bool (x116.Id == 1)) rfl) ?_
     rcases bcases (x116.Id == 1) with hb120 | hb120
     ·replace hF := ifT hF hb120
      refine wl_yes rfl rfl rfl (vb hb120) ?_
      refine wl_rn (rn_pure (.slice A69 r60.2.1.length c70) rfl) ?_
      refine wl_yes rfl rfl rfl (vb hb120) ?_
      refine wl_rn (rn_len sl35 rfl) ?_
      refine wl_yes rfl rfl rfl (vb hb120) ?_
      refine wl_rn (rn_pure (.bool ((r60.2.1.length : Int) == 1)) rfl) ?_
      refine wl_rn (rn_pickT (.bool ((r60.2.1.length : Int) == 1)) (vb hb120) rfl) ?_
      refine wl_rn (rn_pure (.bool ((r60.2.1.length : Int) == 1)) rfl) ?_
      rcases bcases ((r60.2.1.length : Int) == 1) with hb121 | hb121
      ·replace hF := ifT hF hb121
       refine wl_yes rfl rfl rfl (vb hb121) ?_
       refine wl_rn (rn_pure (.slice A69 r60.2.1.length c70) rfl) ?_
       refine wl_yes rfl rfl rfl (vb hb121) ?_
       obtain ⟨x122, hx123, hF⟩ := bindS hF
       refine wl_rnE (rn_index (hs71.mono hG86) sl35 ty32 rfl rfl hx123) ?_
       intro a124 hp125
       refine wl_yes rfl rfl rfl (vb hb121) ?_
       refine wl_rn (rn_fieldp fo32_0 rfl) ?_
       refine wl_yes rfl rfl rfl (vb hb121) ?_
       refine wl_loadpd H102 (hp125.lens lTPkt_Code) (dInt .u8) ty5 rfl ?_
       refine wl_yes rfl rfl rfl (vb hb121) ?_
       refine wl_rn (rn_pure (.bool (x122.Code == 2)) rfl) ?_
       refine wl_rn (rn_pickT (.bool (x122.Code == 2)) (vb hb121) rfl) ?_
       refine wl_rn (rn_pure (.bool (x122.Code == 2)) rfl) ?_
       rcases bcases (x122.Code == 2) with hb126 | hb126
       ·replace hF := ifT hF hb126
        refine wl_yes rfl rfl rfl (vb hb126) ?_
        refine wl_rn (rn_pure (.slice A69 r60.2.1.length c70) rfl) ?_
        refine wl_yes rfl rfl rfl (vb hb126) ?_
        obtain ⟨x127, hx128, hF⟩ := bindS hF
        refine wl_rnE (rn_index (hs71.mono hG86) sl35 ty32 rfl rfl hx128) ?_
        intro a129 hp130
        refine wl_yes rfl rfl rfl (vb hb126) ?_
        refine wl_rn (rn_fieldp fo32_1 rfl) ?_
        refine wl_yes rfl rfl rfl (vb hb126) ?_
        refine wl_loadpd H102 (hp130.lens lTPkt_Id) (dInt .u8) ty5 rfl ?_
        refine wl_yes rfl rfl rfl (vb hb126) ?_
        refine wl_rn (rn_pure (.bool (x127.Id == 9)) rfl) ?_
        refine wl_rn (rn_pickT (.bool (x127.Id == 9)) (vb hb126) rfl) ?_
        refine wl_rn (rn_pure (.bool (x127.Id == 9)) rfl) ?_
        rcases bcases (x127.Id == 9) with hb131 | hb131
        ·replace hF := ifT hF hb131
         refine wl_yes rfl rfl rfl (vb hb131) ?_
         refine wl_rn (rn_field fo29_0 rfl) ?_
         refine wl_yes rfl rfl rfl (vb hb131) ?_
         refine wl_rn (rn_field fo23_0 rfl) ?_
         refine wl_yes rfl rfl rfl (vb hb131) ?_
         refine wl_loadd H102 (i := 1) rfl (Lens.then lTNego_A lTAuto_State) (dInt .i64) ty3 rfl ?_
         refine wl_yes rfl rfl rfl (vb hb131) ?_
         refine wl_rn (rn_pure (.bool (r60.1.A.State == 8)) rfl) ?_
         refine wl_rn (rn_pickT (.bool (r60.1.A.State == 8)) (vb hb131) rfl) ?_
         refine wl_rn (rn_pure (.bool (r60.1.A.State == 8)) rfl) ?_
         rcases bcases (r60.1.A.State == 8) with hb132 | hb132
         ·replace hF := ifT hF hb132
          refine wl_yes rfl rfl rfl (vb hb132) ?_
          refine wl_rn (rn_field fo29_0 rfl) ?_
          refine wl_yes rfl rfl rfl (vb hb132) ?_
          refine wl_rn (rn_field fo23_2 rfl) ?_
          refine wl_yes rfl rfl rfl (vb hb132) ?_
          refine wl_loadd H102 (i := 0) rfl (Lens.then lTNego_A lTAuto_Left) (dInt .i64) ty3 rfl ?_
          refine wl_yes rfl rfl rfl (vb hb132) ?_
          refine wl_rn (rn_pure (.bool (r83.1.A.Left == 2)) rfl) ?_
          refine wl_rn (rn_pickT (.bool (r83.1.A.Left == 2)) (vb hb132) rfl) ?_
          refine wl_rn (rn_pure (.bool (r83.1.A.Left == 2)) rfl) ?_
          rcases bcases (r83.1.A.Left == 2) with hb133 | hb133
          ·replace hF := ifT hF hb133
           refine wl_yes rfl rfl rfl (vb hb133) ?_
           refine wl_load H102 (i := 2) rfl (Lens.id kTNego) ty29 rfl ?_
           intro v134 hv135
           refine wl_yes rfl rfl rfl (vb hb133) ?_
           obtain ⟨r136, hr137, hF⟩ := bindS hF
           refine wl_call (vs := [v134]) en24 rfl (nego_Magic_ok hc hv135 H102 hr137) ?_
           rintro v142 w141 ⟨G138, hG139, rfl, H140⟩
           refine wl_yes rfl rfl rfl (vb hb133) ?_
           refine wl_rn (rn_pure (.bool (r136 == 7)) rfl) ?_
           refine wl_rn (rn_pickT (.bool (r136 == 7)) (vb hb133) rfl) ?_
           refine wl_rn (rn_pure (.bool (r136 == 7)) rfl) ?_
           rcases bcases (r136 == 7) with hb143 | hb143
           ·replace hF := ifT hF hb143
            refine wl_yes rfl rfl rfl (vb hb143) ?_
            refine wl_load H140 (i := 2) rfl (Lens.id kTNego) ty29 rfl ?_
            intro v144 hv145
            refine wl_yes rfl rfl rfl (vb hb143) ?_
            obtain ⟨r146, hr147, hF⟩ := bindS hF
            refine wl_call (vs := [v144]) en25 rfl (nego_Right_ok hc hv145 H140 hr147) ?_
            rintro v152 w151 ⟨G148, hG149, rfl, H150⟩
            refine wl_rn (rn_pickT (.bool r146) (vb hb143) rfl) ?_
            refine wl_rn (rn_pure (.bool r146) rfl) ?_
            rcases bcases r146 with hb153 | hb153
            ·replace hF := ifT hF hb153
             refine wl_yes rfl rfl rfl (vb hb153) ?_
             refine wl_load H150 (i := 3) rfl (Lens.id kTNego) ty29 rfl ?_
             intro v154 hv155
             refine wl_yes rfl rfl rfl (vb hb153) ?_
             refine wl_load H150 (i := 3) rfl (Lens.id kTNego) ty29 rfl ?_
             intro v156 hv157
             refine wl_yes rfl rfl rfl (vb hb153) ?_
             obtain ⟨r158, hr159, hF⟩ := bindS hF
             refine wl_call (vs := [v154, v156]) en26 rfl (nego_Same_ok hc hv155 hv157 H150 hr159) ?_
             rintro v164 w163 ⟨G160, hG161, rfl, H162⟩
             refine wl_rn (rn_pickT (.bool r158) (vb hb153) rfl) ?_
             refine wl_rn (rn_pure (.bool r158) rfl) ?_
             refine wl_nil (then_n ?_)
             refine wp_ret ?_
             have hF := Option.some.inj hF
             subst hF
             exact ret_mk rfl (RV.tmp rfl RV.nil) ⟨_, (((((((hG6.trans hG15).trans hG38).trans hG63).trans hG86).trans hG139).trans hG149).trans hG161), rfl, (St.pk [] 4 H162 rfl (by decide))⟩
            ·replace hF := ifF hF hb153
             iterate 3 refine wl_no rfl rfl rfl (vb hb153) ?_
             refine wl_rn (rn_pickF (.bool false) (vb hb153) rfl) ?_
             refine wl_rn (rn_pure (.bool false) rfl) ?_
             refine wl_nil (then_n ?_)
             refine wp_ret ?_
             have hF := Option.some.inj hF
             subst hF
             exact ret_mk rfl (RV.tmp rfl RV.nil) ⟨_, ((((((hG6.trans hG15).trans hG38).trans hG63).trans hG86).trans hG139).trans hG149), rfl, (St.pk [] 4 H150 rfl (by decide))⟩
           ·replace hF := ifF hF hb143
            iterate 2 refine wl_no rfl rfl rfl (vb hb143) ?_
            refine wl_rn (rn_pickF (.bool false) (vb hb143) rfl) ?_
            refine wl_rn (rn_pure (.bool false) rfl) ?_
            iterate 3 refine wl_no rfl rfl rfl rfl ?_
            refine wl_rn (rn_pickF (.bool false) rfl rfl) ?_
            refine wl_rn (rn_pure (.bool false) rfl) ?_
            refine wl_nil (then_n ?_)
            refine wp_ret ?_
            have hF := Option.some.inj hF
            subst hF
            exact ret_mk rfl (RV.tmp rfl RV.nil) ⟨_, (((((hG6.trans hG15).trans hG38).trans hG63).trans hG86).trans hG139), rfl, (St.pk [] 4 H140 rfl (by decide))⟩
          ·replace hF := ifF hF hb133
           iterate 3 refine wl_no rfl rfl rfl (vb hb133) ?_
           refine wl_rn (rn_pickF (.bool false) (vb hb133) rfl) ?_
           refine wl_rn (rn_pure (.bool false) rfl) ?_
           iterate 2 refine wl_no rfl rfl rfl rfl ?_
           refine wl_rn (rn_pickF (.bool false) rfl rfl) ?_
           refine wl_rn (rn_pure (.bool false) rfl) ?_
           iterate 3 refine wl_no rfl rfl rfl rfl ?_
           refine wl_rn (rn_pickF (.bool false) rfl rfl) ?_
           refine wl_rn (rn_pure (.bool false) rfl) ?_
           refine wl_nil (then_n ?_)
           refine wp_ret ?_
           have hF := Option.some.inj hF
           subst hF
           exact ret_mk rfl (RV.tmp rfl RV.nil) ⟨_, ((((hG6.trans hG15).trans hG38).trans hG63).trans hG86), rfl, (St.pk [] 4 H102 rfl (by decide))⟩
         ·replace hF := ifF hF hb132
          iterate 4 refine wl_no rfl rfl rfl (vb hb132) ?_
          refine wl_rn (rn_pickF (.bool false) (vb hb132) rfl) ?_
          refine wl_rn (rn_pure (.bool false) rfl) ?_
          iterate 3 refine wl_no rfl rfl rfl rfl ?_
          refine wl_rn (rn_pickF (.bool false) rfl rfl) ?_
          refine wl_rn (rn_pure (.bool false) rfl) ?_
          iterate 2 refine wl_no rfl rfl rfl rfl ?_
          refine wl_rn (rn_pickF (.bool false) rfl rfl) ?_
          refine wl_rn (rn_pure (.bool false) rfl) ?_
          iterate 3 refine wl_no rfl rfl rfl rfl ?_
          refine wl_rn (rn_pickF (.bool false) rfl rfl) ?_
          refine wl_rn (rn_pure (.bool false) rfl) ?_
          refine wl_nil (then_n ?_)
          refine wp_ret ?_
          have hF := Option.some.inj hF
          subst hF
          exact ret_mk rfl (RV.tmp rfl RV.nil) ⟨_, ((((hG6.trans hG15).trans hG38).trans hG63).trans hG86), rfl, (St.pk [] 4 H102 rfl (by decide))⟩
        ·replace hF := ifF hF hb131
         iterate 4 refine wl_no rfl rfl rfl (vb hb131) ?_
         refine wl_rn (rn_pickF (.bool false) (vb hb131) rfl) ?_
         refine wl_rn (rn_pure (.bool false) rfl) ?_
         iterate 4 refine wl_no rfl rfl rfl rfl ?_
         refine wl_rn (rn_pickF (.bool false) rfl rfl) ?_
         refine wl_rn (rn_pure (.bool false) rfl) ?_
         iterate 3 refine wl_no rfl rfl rfl rfl ?_
         refine wl_rn (rn_pickF (.bool false) rfl rfl) ?_
         refine wl_rn (rn_pure (.bool false) rfl) ?_
         iterate 2 refine wl_no rfl rfl rfl rfl ?_
         refine wl_rn (rn_pickF (.bool false) rfl rfl) ?_
         refine wl_rn (rn_pure (.bool false) rfl) ?_
         iterate 3 refine wl_no rfl rfl rfl rfl ?_
         refine wl_rn (rn_pickF (.bool false) rfl rfl) ?_
         refine wl_rn (rn_pure (.bool false) rfl) ?_
         refine wl_nil (then_n ?_)
         refine wp_ret ?_
         have hF := Option.some.inj hF
         subst hF
         exact ret_mk rfl (RV.tmp rfl RV.nil) ⟨_, ((((hG6.trans hG15).trans hG38).trans hG63).trans hG86), rfl, (St.pk [] 4 H102 rfl (by decide))⟩
       ·replace hF := ifF hF hb126
        iterate 5 refine wl_no rfl rfl rfl (vb hb126) ?_
        refine wl_rn (rn_pickF (.bool false) (vb hb126) rfl) ?_
        refine wl_rn (rn_pure (.bool false) rfl) ?_
        iterate 4 refine wl_no rfl rfl rfl rfl ?_
        refine wl_rn (rn_pickF (.bool false) rfl rfl) ?_
        refine wl_rn (rn_pure (.bool false) rfl) ?_
        iterate 4 refine wl_no rfl rfl rfl rfl ?_
        refine wl_rn (rn_pickF (.bool false) rfl rfl) ?_
        refine wl_rn (rn_pure (.bool false) rfl) ?_
        iterate 3 refine wl_no rfl rfl rfl rfl ?_
        refine wl_rn (rn_pickF (.bool false) rfl rfl) ?_
        refine wl_rn (rn_pure (.bool false) rfl) ?_
        iterate 2 refine wl_no rfl rfl rfl rfl ?_
        refine wl_rn (rn_pickF (.bool false) rfl rfl) ?_
        refine wl_rn (rn_pure (.bool false) rfl) ?_
        iterate 3 refine wl_no rfl rfl rfl rfl ?_
        refine wl_rn (rn_pickF (.bool false) rfl rfl) ?_
        refine wl_rn (rn_pure (.bool false) rfl) ?_
        refine wl_nil (then_n ?_)
        refine wp_ret ?_
        have hF := Option.some.inj hF
        subst hF
        exact ret_mk rfl (RV.tmp rfl RV.nil) ⟨_, ((((hG6.trans hG15).trans hG38).trans hG63).trans hG86), rfl, (St.pk [] 4 H102 rfl (by decide))⟩
      ·replace hF := ifF hF hb121
       iterate 5 refine wl_no rfl rfl rfl (vb hb121) ?_
       refine wl_rn (rn_pickF (.bool false) (vb hb121) rfl) ?_
       refine wl_rn (rn_pure (.bool false) rfl) ?_
       iterate 5 refine wl_no rfl rfl rfl rfl ?_
       refine wl_rn (rn_pickF (.bool false) rfl rfl) ?_
       refine wl_rn (rn_pure (.bool false) rfl) ?_
       iterate 4 refine wl_no rfl rfl rfl rfl ?_
       refine wl_rn (rn_pickF (.bool false) rfl rfl) ?_
       refine wl_rn (rn_pure (.bool false) rfl) ?_
       iterate 4 refine wl_no rfl rfl rfl rfl ?_
       refine wl_rn (rn_pickF (.bool false) rfl rfl) ?_
       refine wl_rn (rn_pure (.bool false) rfl) ?_
       iterate 3 refine wl_no rfl rfl rfl rfl ?_
       refine wl_rn (rn_pickF (.bool false) rfl rfl) ?_
       refine wl_rn (rn_pure (.bool false) rfl) ?_
       iterate 2 refine wl_no rfl rfl rfl rfl ?_
       refine wl_rn (rn_pickF (.bool false) rfl rfl) ?_
       refine wl_rn (rn_pure (.bool false) rfl) ?_
       iterate 3 refine wl_no rfl rfl rfl rfl ?_
       refine wl_rn (rn_pickF (.bool false) rfl rfl) ?_
       refine wl_rn (rn_pure (.bool false) rfl) ?_
       refine wl_nil (then_n ?_)
       refine wp_ret ?_
       have hF := Option.some.inj hF
       subst hF
       exact ret_mk rfl (RV.tmp rfl RV.nil) ⟨_, ((((hG6.trans hG15).trans hG38).trans hG63).trans hG86), rfl, (St.pk [] 4 H102 rfl (by decide))⟩
     ·replace hF := ifF hF hb120
      iterate 3 refine wl_no rfl rfl rfl (vb hb120) ?_
      refine wl_rn (rn_pickF (.bool false) (vb hb120) rfl) ?_
      refine wl_rn (rn_pure (.bool false) rfl) ?_
      iterate 5 refine wl_no rfl rfl rfl rfl ?_
      refine wl_rn (rn_pickF (.bool false) rfl rfl) ?_
      refine wl_rn (rn_pure (.bool false) rfl) ?_
      iterate 5 refine wl_no rfl rfl rfl rfl ?_
      refine wl_rn (rn_pickF (.bool false) rfl rfl) ?_
      refine wl_rn (rn_pure (.bool false) rfl) ?_
      iterate 4 refine wl_no rfl rfl rfl rfl ?_
      refine wl_rn (rn_pickF (.bool false) rfl rfl) ?_
      refine wl_rn (rn_pure (.bool false) rfl) ?_
      iterate 4 refine wl_no rfl rfl rfl rfl ?_
      refine wl_rn (rn_pickF (.bool false) rfl rfl) ?_
      refine wl_rn (rn_pure (.bool false) rfl) ?_
      iterate 3 refine wl_no rfl rfl rfl rfl ?_
      refine wl_rn (rn_pickF (.bool false) rfl rfl) ?_
      refine wl_rn (rn_pure (.bool false) rfl) ?_
      iterate 2 refine wl_no rfl rfl rfl rfl ?_
      refine wl_rn (rn_pickF (.bool false) rfl rfl) ?_
      refine wl_rn (rn_pure (.bool false) rfl) ?_
      iterate 3 refine wl_no rfl rfl rfl rfl ?_
      refine wl_rn (rn_pickF (.bool false) rfl rfl) ?_
      refine wl_rn (rn_pure (.bool false) rfl) ?_
      refine wl_nil (then_n ?_)
      refine wp_ret ?_
      have hF := Option.some.inj hF
      subst hF
      exact ret_mk rfl (RV.tmp rfl RV.nil) ⟨_, ((((hG6.trans hG15).trans hG38).trans hG63).trans hG86), rfl, (St.pk [] 4 H102 rfl (by decide))⟩
    ·replace hF := ifF hF hb115
     iterate 5 refine wl_no rfl rfl rfl (vb hb115) ?_
     refine wl_rn (rn_pickF (.bool false) (vb hb115) rfl) ?_
     refine wl_rn (rn_pure (.bool false) rfl) ?_
     iterate 3 refine wl_no rfl rfl rfl rfl ?_
     refine wl_rn (rn_pickF (.bool false) rfl rfl) ?_
     refine wl_rn (rn_pure (.bool false) rfl) ?_
     iterate 5 refine wl_no rfl rfl rfl rfl ?_
     refine wl_rn (rn_pickF (.bool false) rfl rfl) ?_
     refine wl_rn (rn_pure (.bool false) rfl) ?_
     iterate 5 refine wl_no rfl rfl rfl rfl ?_
     refine wl_rn (rn_pickF (.bool false) rfl rfl) ?_
     refine wl_rn (rn_pure (.bool false) rfl) ?_
     iterate 4 refine wl_no rfl rfl rfl rfl ?_
     refine wl_rn (rn_pickF (.bool false) rfl rfl) ?_
     refine wl_rn (rn_pure (.bool false) rfl) ?_
     iterate 4 refine wl_no rfl rfl rfl rfl ?_
     refine wl_rn (rn_pickF (.bool false) rfl rfl) ?_
     refine wl_rn (rn_pure (.bool false) rfl) ?_
     iterate 3 refine wl_no rfl rfl rfl rfl ?_
     refine wl_rn (rn_pickF (.bool false) rfl rfl) ?_
     refine wl_rn (rn_pure (.bool false) rfl) ?_
     iterate 2 refine wl_no rfl rfl rfl rfl ?_
     refine wl_rn (rn_pickF (.bool false) rfl rfl) ?_
     refine wl_rn (rn_pure (.bool false) rfl) ?_
     iterate 3 refine wl_no rfl rfl rfl rfl ?_
     refine wl_rn (rn_pickF (.bool false) rfl rfl) ?_
     refine wl_rn (rn_pure (.bool false) rfl) ?_
     refine wl_nil (then_n ?_)
     refine wp_ret ?_
     have hF := Option.some.inj hF
     subst hF
     exact ret_mk rfl (RV.tmp rfl RV.nil) ⟨_, ((((hG6.trans hG15).trans hG38).trans hG63).trans hG86), rfl, (St.pk [] 4 H102 rfl (by decide))⟩
   ·replace hF := ifF hF hb110
    iterate 5 refine wl_no rfl rfl rfl (vb hb110) ?_
    refine wl_rn (rn_pickF (.bool false) (vb hb110) rfl) ?_
    refine wl_rn (rn_pure (.bool false) rfl) ?_
    iterate 5 refine wl_no rfl rfl rfl rfl ?_
    refine wl_rn (rn_pickF (.bool false) rfl rfl) ?_
    refine wl_rn (rn_pure (.bool false) rfl) ?_
    iterate 3 refine wl_no rfl rfl rfl rfl ?_
    refine wl_rn (rn_pickF (.bool false) rfl rfl) ?_
    refine wl_rn (rn_pure (.bool false) rfl) ?_
    iterate 5 refine wl_no rfl rfl rfl rfl ?_
    refine wl_rn (rn_pickF (.bool false) rfl rfl) ?_
    refine wl_rn (rn_pure (.bool false) rfl) ?_
    iterate 5 refine wl_no rfl rfl rfl rfl ?_
    refine wl_rn (rn_pickF (.bool false) rfl rfl) ?_
    refine wl_rn (rn_pure (.bool false) rfl) ?_
    iterate 4 refine wl_no rfl rfl rfl rfl ?_
    refine wl_rn (rn_pickF (.bool false) rfl rfl) ?_
    refine wl_rn (rn_pure (.bool false) rfl) ?_
    iterate 4 refine wl_no rfl rfl rfl rfl ?_
    refine wl_rn (rn_pickF (.bool false) rfl rfl) ?_
    refine wl_rn (rn_pure (.bool false) rfl) ?_
    iterate 3 refine wl_no rfl rfl rfl rfl ?_
    refine wl_rn (rn_pickF (.bool false) rfl rfl) ?_
    refine wl_rn (rn_pure (.bool false) rfl) ?_
    iterate 2 refine wl_no rfl rfl rfl rfl ?_
    refine wl_rn (rn_pickF (.bool false) rfl rfl) ?_
    refine wl_rn (rn_pure (.bool false) rfl) ?_
    iterate 3 refine wl_no rfl rfl rfl rfl ?_
    refine wl_rn (rn_pickF (.bool false) rfl rfl) ?_
    refine wl_rn (rn_pure (.bool false) rfl) ?_
    refine wl_nil (then_n ?_)
    refine wp_ret ?_
    have hF := Option.some.inj hF
    subst hF
    exact ret_mk rfl (RV.tmp rfl RV.nil) ⟨_, ((((hG6.trans hG15).trans hG38).trans hG63).trans hG86), rfl, (St.pk [] 4 H102 rfl (by decide))⟩
  ·replace hF := ifF hF hb109
   iterate 3 refine wl_no rfl rfl rfl (vb hb109) ?_
   refine wl_rn (rn_pickF (.bool false) (vb hb109) rfl) ?_
   refine wl_rn (rn_pure (.bool false) rfl) ?_
   iterate 5 refine wl_no rfl rfl rfl rfl ?_
   refine wl_rn (rn_pickF (.bool false) rfl rfl) ?_
   refine wl_rn (rn_pure (.bool false) rfl) ?_
   iterate 5 refine wl_no rfl rfl rfl rfl ?_
   refine wl_rn (rn_pickF (.bool false) rfl rfl) ?_
   refine wl_rn (rn_pure (.bool false) rfl) ?_
   iterate 3 refine wl_no rfl rfl rfl rfl ?_
   refine wl_rn (rn_pickF (.bool false) rfl rfl) ?_
   refine wl_rn (rn_pure (.bool false) rfl) ?_
   iterate 5 refine wl_no rfl rfl rfl rfl ?_
   refine wl_rn (rn_pickF (.bool false) rfl rfl) ?_
   refine wl_rn (rn_pure (.bool false) rfl) ?_
   iterate 5 refine wl_no rfl rfl rfl rfl ?_
   refine wl_rn (rn_pickF (.bool false) rfl rfl) ?_
   refine wl_rn (rn_pure (.bool false) rfl) ?_
   iterate 4 refine wl_no rfl rfl rfl rfl ?_
   refine wl_rn (rn_pickF (.bool false) rfl rfl) ?_
   refine wl_rn (rn_pure (.bool false) rfl) ?_
   iterate 4 refine wl_no rfl rfl rfl rfl ?_
   refine wl_rn (rn_pickF (.bool false) rfl rfl) ?_
   refine wl_rn (rn_pure (.bool false) rfl) ?_
   iterate 3 refine wl_no rfl rfl rfl rfl ?_
   refine wl_rn (rn_pickF (.bool false) rfl rfl) ?_
   refine wl_rn (rn_pure (.bool false) rfl) ?_
   iterate 2 refine wl_no rfl rfl rfl rfl ?_
   refine wl_rn (rn_pickF (.bool false) rfl rfl) ?_
   refine wl_rn (rn_pure (.bool false) rfl) ?_
   iterate 3 refine wl_no rfl rfl rfl rfl ?_
   refine wl_rn (rn_pickF (.bool false) rfl rfl) ?_
   refine wl_rn (rn_pure (.bool false) rfl) ?_
   refine wl_nil (then_n ?_)
   refine wp_ret ?_
   have hF := Option.some.inj hF
   subst hF
   exact ret_mk rfl (RV.tmp rfl RV.nil) ⟨_, ((((hG6.trans hG15).trans hG38).trans hG63).trans hG86), rfl, (St.pk [] 4 H102 rfl (by decide))⟩
 ·replace hF := ifF hF hb104
  iterate 4 refine wl_no rfl rfl rfl (vb hb104) ?_
  refine wl_rn (rn_pickF (.bool false) (vb hb104) rfl) ?_
  refine wl_rn (rn_pure (.bool false) rfl) ?_
  iterate 3 refine wl_no rfl rfl rfl rfl ?_
  refine wl_rn (rn_pickF (.bool false) rfl rfl) ?_
  refine wl_rn (rn_pure (.bool false) rfl) ?_
  iterate 5 refine wl_no rfl rfl rfl rfl ?_
  refine wl_rn (rn_pickF (.bool false) rfl rfl) ?_
  refine wl_rn (rn_pure (.bool false) rfl) ?_
  iterate 5 refine wl_no rfl rfl rfl rfl ?_
  refine wl_rn (rn_pickF (.bool false) rfl rfl) ?_
  refine wl_rn (rn_pure (.bool false) rfl) ?_
  iterate 3 refine wl_no rfl rfl rfl rfl ?_
  refine wl_rn (rn_pickF (.bool false) rfl rfl) ?_
  refine wl_rn (rn_pure (.bool false) rfl) ?_
  iterate 5 refine wl_no rfl rfl rfl rfl ?_
  refine wl_rn (rn_pickF (.bool false) rfl rfl) ?_
  refine wl_rn (rn_pure (.bool false) rfl) ?_
  iterate 5 refine wl_no rfl rfl rfl rfl ?_
  refine wl_rn (rn_pickF (.bool false) rfl rfl) ?_
  refine wl_rn (rn_pure (.bool false) rfl) ?_
  iterate 4 refine wl_no rfl rfl rfl rfl ?_
  refine wl_rn (rn_pickF (.bool false) rfl rfl) ?_
  refine wl_rn (rn_pure (.bool false) rfl) ?_
  iterate 4 refine wl_no rfl rfl rfl rfl ?_
  refine wl_rn (rn_pickF (.bool false) rfl rfl) ?_
  refine wl_rn (rn_pure (.bool false) rfl) ?_
  iterate 3 refine wl_no rfl rfl rfl rfl ?_
  refine wl_rn (rn_pickF (.bool false) rfl rfl) ?_
  refine wl_rn (rn_pure (.bool false) rfl) ?_
  iterate 2 refine wl_no rfl rfl rfl rfl ?_
  refine wl_rn (rn_pickF (.bool false) rfl rfl) ?_
  refine wl_rn (rn_pure (.bool false) rfl) ?_
  iterate 3 refine wl_no rfl rfl rfl rfl ?_
  refine wl_rn (rn_pickF (.bool false) rfl rfl) ?_
  refine wl_rn (rn_pure (.bool false) rfl) ?_
  refine wl_nil (then_n ?_)
  refine wp_ret ?_
  have hF := Option.some.inj hF
  subst hF
  exact ret_mk rfl (RV.tmp rfl RV.nil) ⟨_, ((((hG6.trans hG15).trans hG38).trans hG63).trans hG86), rfl, (St.pk [] 4 H102 rfl (by decide))⟩

theorem portreeveref10_Few_ok {c : World} (hc : Hc c) {G : Ghost} {w : World} {σ : List Ent} {a0 : (List TOpt)} {A0_ : Option Addr} {c0_ : Nat} (h0_ : SlR kTOpt G A0_ c0_ a0) (H : St c G w (σ)) {r : Bool} (hF : portreeveref10_Few a0 = some r) :
  Calls Tryd.prog 27 ([(.slice A0_ a0.length c0_)] : List Value).toArray w (Ends fun v w' => ∃ (G' : Ghost), GLe G G' ∧ tup [(.bool r)] = v ∧ St c G' w' (σ)) := by
 unfold portreeveref10_Few at hF
 refine calls_mk Tryd.func27 rfl rfl rfl ?_
 refine wp_seq (wc_region ?_)
 refine wl_rn (rn_pure (.bool false) rfl) ?_
 refine wl_nil (then_n ?_)
 refine wp_seq ?_
 refine wp_seq (wc_region ?_)
 refine wl_rn (rn_pure (.int .i64 0) rfl) ?_
 refine wl_nil (then_n ?_)
 refine wp_block ?_
 refine wp_loopX (fun (s : Int) a w => ∃ (T0 : Fr) (G1 : Ghost), a = mk 21 (upds T0 [(0, (.slice A0_ a0.length c0_)), (3, (.int .i64 s))]) ∧ GLe G G1 ∧ St c G1 w (σ)) hF ?_ ?_
 ·exact ⟨_, _, frame_eq _ ⟨rfl, rfl, trivial⟩, GLe.refl _, H⟩
 ·rintro x16 a w y19 ⟨T0, G20, rfl, hG17, H18⟩ hF hy1
  refine wp_seq ?_
  refine wp_seq (wc_region ?_)
  refine wl_rn (rn_pure (.int .i64 x16) rfl) ?_
  refine wl_rn (rn_pure (.slice A0_ a0.length c0_) rfl) ?_
  refine wl_rn (rn_len sl27 rfl) ?_
  refine wl_rn (rn_pure (.bool (decide (x16 < (a0.length : Int)))) rfl) ?_
  refine wl_nil (then_n ?_)
  rcases bcases (decide (x16 < (a0.length : Int))) with hb21 | hb21
  ·replace hF := ifT hF hb21
   refine wc_true (vb hb21) ?_
   refine wp_skip ?_
   refine then_n ?_
   refine wp_seq ?_
   refine wp_block ?_
   refine wp_seq (join (fun a w => ∃ (T0 : Fr) (G1 : Ghost) (x32 : Bool), a = mk 21 (upds T0 [(0, (.slice A0_ a0.length c0_)), (3, (.int .i64 x16)), (20, (.bool x32))]) ∧ GLe G20 G1 ∧ St c G1 w (σ) ∧ portreeveref10_Few_j2 x16 x32 = some y19) ?_ ?_)
   ·rintro a w ⟨T0, G35, x32, rfl, hG33, H34, hF⟩
    rcases bcases x32 with hb36 | hb36
    ·replace hF := ifT hF hb36
     refine wc_true (vb hb36) ?_
     refine wp_seq (wc_region ?_)
     refine wl_rn (rn_pure (.bool false) rfl) ?_
     refine wl_nil (then_n ?_)
     refine wp_ret ?_
     refine blk_r ?_
     iterate 2 refine then_r ?_
     replace hF := exitS hF hy1
     refine blk_r ?_
     refine then_r ?_
     have hF := Option.some.inj hF
     subst hF
     exact ret_mk rfl (RV.tmp rfl RV.nil) ⟨_, (hG17.trans hG33), rfl, H34⟩
    ·replace hF := ifF hF hb36
     refine wc_false (vb hb36) ?_
     refine wp_skip ?_
     refine blk_n ?_
     refine then_n ?_
     refine wc_region ?_
     refine wl_rn (rn_pure (.int .i64 x16) rfl) ?_
     iterate 2 refine wl_rn (rn_pure (.int .i64 (IntKind.i64.wrap (x16 + 1))) rfl) ?_
     refine wl_nil (then_n ?_)
     exact ⟨_, (Option.some.inj hF).symm, _, _, frame_eq _ ⟨rfl, rfl, trivial⟩, (hG17.trans hG33), H34⟩
   ·refine wc_region ?_
    refine wl_rn (rn_pure (.int .i64 x16) rfl) ?_
    iterate 2 refine wl_rn (rn_pure (.bool (decide (x16 ≥ 30))) rfl) ?_
    rcases bcases (decide (x16 ≥ 30)) with hb37 | hb37
    ·replace hF := ifT hF hb37
     iterate 7 refine wl_no rfl rfl rfl (vb hb37) ?_
     refine wl_rn (rn_pickT (.bool true) (vb hb37) rfl) ?_
     refine wl_nil (then_n ?_)
     exact ⟨_, _, true, frame_eq _ ⟨rfl, rfl, rfl, trivial⟩, GLe.refl _, H18, hF⟩
    ·replace hF := ifF hF hb37
     refine wl_yes rfl rfl rfl (vb hb37) ?_
     refine wl_rn (rn_pure (.slice A0_ a0.length c0_) rfl) ?_
     refine wl_yes rfl rfl rfl (vb hb37) ?_
     refine wl_rn (rn_pure (.int .i64 x16) rfl) ?_
     refine wl_yes rfl rfl rfl (vb hb37) ?_
     obtain ⟨x38, hx39, hF⟩ := bindS hF
     refine wl_rnE (rn_index (h0_.mono hG17) sl27 ty60 rfl rfl hx39) ?_
     intro a40 hp41
     refine wl_yes rfl rfl rfl (vb hb37) ?_
     refine wl_rn (rn_fieldp fo60_1 rfl) ?_
     refine wl_yes rfl rfl rfl (vb hb37) ?_
     refine wl_loadp H18 (hp41.lens lTOpt_Data) ty30 rfl ?_
     intro v42 hv43
     obtain ⟨A44, c45, rfl, hs46⟩ := slice_V hv43
     refine wl_yes rfl rfl rfl (vb hb37) ?_
     refine wl_rn (rn_len sl30 rfl) ?_
     refine wl_yes rfl rfl rfl (vb hb37) ?_
     refine wl_rn (rn_pure (.bool (decide ((x38.Data.length : Int) > 253))) rfl) ?_
     refine wl_rn (rn_pickF (.bool (decide ((x38.Data.length : Int) > 253))) (vb hb37) rfl) ?_
     refine wl_nil (then_n ?_)
     exact ⟨_, _, (decide ((x38.Data.length : Int) > 253)), frame_eq _ ⟨rfl, rfl, rfl, trivial⟩, GLe.refl _, H18, hF⟩
  ·replace hF := ifF hF hb21
   refine wc_false (vb hb21) ?_
   refine wp_exit ?_
   iterate 2 refine then_e ?_
   replace hF := exitS hF hy1
   refine blk_e ?_
   refine then_n ?_
   refine wp_seq (wc_region ?_)
   refine wl_rn (rn_pure (.bool true) rfl) ?_
   refine wl_nil (then_n ?_)
   refine wp_ret ?_
   have hF := Option.some.inj hF
   subst hF
   exact ret_mk rfl (RV.tmp rfl RV.nil) ⟨_, hG17, rfl, H18⟩

theorem portreeveref14_Small_ok {c : World} (hc : Hc c) {G : Ghost} {w : World} {σ : List Ent} {a0 : TNego} {v0_ : Value} (h0_ : kTNego.V G v0_ a0) (H : St c G w (σ)) {r : Bool} (hF : portreeveref14_Small a0 = some r) :
  Calls Tryd.prog 9 ([v0_] : List Value).toArray w (Ends fun v w' => ∃ (G' : Ghost), GLe G G' ∧ tup [(.bool r)] = v ∧ St c G' w' (σ)) := by
 unfold portreeveref14_Small at hF
 refine calls_mk Tryd.func9 rfl rfl rfl ?_
 refine wp_seq (wc_region ?_)
 refine wl_box (K := kTNego) (x := a0) H rfl h0_ ?_
 intro b1 w4 H2
 refine wl_rn (rn_pure (.bool false) rfl) ?_
 refine wl_nil (then_n (wp_seq (wc_region ?_)))
 refine wl_rn (rn_field fo29_2 rfl) ?_
 refine wl_load H2 (i := 0) rfl lTNego_Ours ty27 rfl ?_
 intro v5 hv6
 obtain ⟨A7, c8, rfl, hs9⟩ := slice_V hv6
 obtain ⟨r10, hr11, hF⟩ := bindS hF
 refine wl_call (vs := [(.slice A7 a0.Ours.length c8)]) en27 rfl (portreeveref10_Few_ok hc hs9 H2 hr11) ?_
 rintro v16 w15 ⟨G12, hG13, rfl, H14⟩
 refine wl_rn (rn_pure (.bool r10) rfl) ?_
 refine wl_nil (then_n (wp_seq (wc_region ?_)))
 refine wl_rn (rn_field fo29_4 rfl) ?_
 refine wl_load H14 (i := 0) rfl lTNego_Peer ty27 rfl ?_
 intro v17 hv18
 obtain ⟨A19, c20, rfl, hs21⟩ := slice_V hv18
 obtain ⟨r22, hr23, hF⟩ := bindS hF
 refine wl_call (vs := [(.slice A19 a0.Peer.length c20)]) en27 rfl (portreeveref10_Few_ok hc hs21 H14 hr23) ?_
 rintro v28 w27 ⟨G24, hG25, rfl, H26⟩
 refine wl_rn (rn_pure (.bool r22) rfl) ?_
 refine wl_nil (then_n (wp_seq (wc_region ?_)))
 iterate 2 refine wl_rn (rn_pure (.bool r10) rfl) ?_
 rcases bcases r10 with hb29 | hb29
 ·replace hF := ifT hF hb29
  refine wl_yes rfl rfl rfl (vb hb29) ?_
  refine wl_rn (rn_pure (.bool r22) rfl) ?_
  refine wl_rn (rn_pickT (.bool r22) (vb hb29) rfl) ?_
  refine wl_rn (rn_pure (.bool r22) rfl) ?_
  refine wl_nil (then_n ?_)
  refine wp_ret ?_
  have hF := Option.some.inj hF
  subst hF
  exact ret_mk rfl (RV.tmp rfl RV.nil) ⟨_, (hG13.trans hG25), rfl, (St.pk [] 1 H26 rfl (by decide))⟩
 ·replace hF := ifF hF hb29
  refine wl_no rfl rfl rfl (vb hb29) ?_
  refine wl_rn (rn_pickF (.bool false) (vb hb29) rfl) ?_
  refine wl_rn (rn_pure (.bool false) rfl) ?_
  refine wl_nil (then_n ?_)
  refine wp_ret ?_
  have hF := Option.some.inj hF
  subst hF
  exact ret_mk rfl (RV.tmp rfl RV.nil) ⟨_, (hG13.trans hG25), rfl, (St.pk [] 1 H26 rfl (by decide))⟩

theorem portreeveref11_Timed_ok {c : World} (hc : Hc c) {G : Ghost} {w : World} {σ : List Ent} {a0 : Int}  (H : St c G w (σ)) {r : Bool} (hF : portreeveref11_Timed a0 = some r) :
  Calls Tryd.prog 46 ([(.int .i64 a0)] : List Value).toArray w (Ends fun v w' => ∃ (G' : Ghost), GLe G G' ∧ tup [(.bool r)] = v ∧ St c G' w' (σ)) := by
 unfold portreeveref11_Timed at hF
 refine calls_mk Tryd.func46 rfl rfl rfl ?_
 refine wp_seq (wc_region ?_)
 refine wl_rn (rn_pure (.bool false) rfl) ?_
 refine wl_nil (then_n (wp_seq (wc_region ?_)))
 refine wl_rn (rn_pure (.int .i64 a0) rfl) ?_
 iterate 2 refine wl_rn (rn_pure (.bool (decide (a0 ≥ 4))) rfl) ?_
 rcases bcases (decide (a0 ≥ 4)) with hb1 | hb1
 ·replace hF := ifT hF hb1
  refine wl_yes rfl rfl rfl (vb hb1) ?_
  refine wl_rn (rn_pure (.int .i64 a0) rfl) ?_
  refine wl_yes rfl rfl rfl (vb hb1) ?_
  refine wl_rn (rn_pure (.bool (decide (a0 ≤ 8))) rfl) ?_
  refine wl_rn (rn_pickT (.bool (decide (a0 ≤ 8))) (vb hb1) rfl) ?_
  refine wl_rn (rn_pure (.bool (decide (a0 ≤ 8))) rfl) ?_
  refine wl_nil (then_n ?_)
  refine wp_ret ?_
  have hF := Option.some.inj hF
  subst hF
  exact ret_mk rfl (RV.tmp rfl RV.nil) ⟨_, GLe.refl _, rfl, H⟩
 ·replace hF := ifF hF hb1
  iterate 2 refine wl_no rfl rfl rfl (vb hb1) ?_
  refine wl_rn (rn_pickF (.bool false) (vb hb1) rfl) ?_
  refine wl_rn (rn_pure (.bool false) rfl) ?_
  refine wl_nil (then_n ?_)
  refine wp_ret ?_
  have hF := Option.some.inj hF
  subst hF
  exact ret_mk rfl (RV.tmp rfl RV.nil) ⟨_, GLe.refl _, rfl, H⟩
end Go.Proofs.YtadlndnagfnlgaaDoor.W
