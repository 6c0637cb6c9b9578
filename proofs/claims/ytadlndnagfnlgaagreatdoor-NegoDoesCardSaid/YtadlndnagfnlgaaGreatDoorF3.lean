/- Calls come to what the plain functions say: written by a program (gen.py). -/
import Derived.Test.YtadlndnagfnlgaaGreatDoorG
import Derived.Test.YtadlndnagfnlgaaGreatDoorF0
import Derived.Test.YtadlndnagfnlgaaGreatDoorF1
import Derived.Test.YtadlndnagfnlgaaGreatDoorF2
set_option linter.unusedVariables false
set_option maxRecDepth 20000
namespace Go.Proofs.YtadlndnagfnlgaaGreatDoor.W
open Go
set_option maxHeartbeats 4000000
attribute [local irreducible] wpList wpAny Code.wp wpListIn wpAnyIn Code.wpIn
theorem nego_work_echo_ok {c : World} (k : Hc c) {G : qk} {w : World} {σ : List Ent} {b0 : Nat} {x2 : TNego} {x3 : (List TPkt)} {x8 : (List Int)} {x13 : TPkt} {g4 : Option Nat} {A5 : Option Addr} {c6 : Nat} {g9 : Option Nat} {A10 : Option Addr} {c11 : Nat}  (H : St c G w ((.box b0 136 (qA.at_ (Tnego_workV.mk x2 (.slice A5 x3.length c6) (.slice A10 x8.length c11) x13))) :: (.row qC g4 A5 c6 46 x3) :: (.row kI g9 A10 c11 3 x8) :: σ)) {r : (TNego × (List TPkt) × (List Int) × TPkt)} (b : nego_work_echo x2 x3 x8 x13 = some r) :
  Calls Tryz.prog 146 ([(pt b0)] : List Value).toArray w (zu fun v w' => ∃ (G' : qk) (g1' : Option Nat) (A2' : Option Addr) (c3' : Nat) (g4' : Option Nat) (A5' : Option Addr) (c6' : Nat), GLe G G' ∧ tup [] = v ∧ St c G' w' ((.box b0 136 (qA.at_ (Tnego_workV.mk r.1 (.slice A2' r.2.1.length c3') (.slice A5' r.2.2.1.length c6') r.2.2.2))) :: (.row qC g1' A2' c3' 46 r.2.1) :: (.row kI g4' A5' c6' 3 r.2.2.1) :: σ)) := by
 unfold nego_work_echo at b
 refine qG Tryz.func146 rfl rfl rfl (wp_seq (qc (qb (qa (pt b0) rfl) (qb (qM rfl) (qb (qh fo136_3 rfl) (qb (qh xG rfl) ?_))))))
 refine ql H (i := 0) rfl (Lens.then zi zm) jy rfl ?_
 intro v14 hv15
 obtain ⟨A16, c17, rfl, hs18⟩ := qN hv15
 refine qb (zb zJ rfl) (qb (qa (.bool (decide ((x13.Data.length : Int) ≥ 4))) rfl) (qd (qe ?_)))
 rcases qm (decide ((x13.Data.length : Int) ≥ 4)) with hb19 | hb19
 ·replace b := ifT b hb19
  refine qs (vb hb19) ?_
  refine jP (f := 17) H mixed ?_
  intro w20 H21
  refine xW (by repeat (first | exact PF.base | apply PF.then_ | apply PF.blk)) ?_
  intro B E
  obtain ⟨r24, hr25, b⟩ := qu b
  obtain ⟨r31, hr32, b⟩ := qu b
  obtain ⟨r47, hr48, b⟩ := qu b
  obtain ⟨r51, hr52, b⟩ := qu b
  obtain ⟨r62, hr63, b⟩ := qu b
  obtain ⟨r77, hr78, b⟩ := qu b
  refine qF (fuel := 3) (m := 16383) (fun a w => ∃ T0 G1 g157 A158 c159 A160 c161, a = mk 26 (qQ T0 [(9, (pt b0)), (10, (pt b0)), (16, (.slice A158 r31.length c159)), (22, (.slice A160 r47.length c161))]) ∧ GLe G G1 ∧ St c G1 w ((.box b0 136 (qA.at_ (Tnego_workV.mk x2 (.slice A5 x3.length c6) (.slice A10 x8.length c11) x13))) :: (.row qC g4 A5 c6 46 x3) :: (.row kI g9 A10 c11 3 x8) :: (.row kB g157 A158 c159 5 r31) :: σ) ∧ SlR kB G1 A160 c161 r47) ?_ ?_
  ·rintro a w ⟨T0, G156, g157, A158, c159, A160, c161, rfl, hG154, H155, hs162⟩
   refine qi [14] ⟨qg (m' := 32767) fun I j => ?_, yp⟩
   refine zB H155 zJ el5 (i := 3) rfl rfl rfl (hs162.src H155.ag) hr52 ?_
   intro g199 A200 c201 w202 H203
   refine qd (j _ _ ?_)
   refine qi [15] ⟨qg (m' := 65535) fun I j => ?_, yp⟩
   obtain ⟨G204, hG205, H206, hs207⟩ := H203.stay (i := 3) rfl (H203.capA (i := 3) rfl)
   refine qo (vs := [(pt b0), (.int .u8 10), (.slice A200 r51.length c201)]) en189 rfl (nego_work_reply_ok k hs207 H206 hr63) ?_
   rintro v212 w211 ⟨G208, v213, g215, A216, c217, g218, A219, c220, hG209, rfl, H210, hv214⟩
   refine qd (j _ _ ?_)
   refine qi [16] ⟨qg (m' := 131071) fun I j => ?_, yp⟩
   refine qo (vs := [(pt b0), (.int .i64 15), v213]) en74 rfl (jg k hv214 H210 hr78) ?_
   rintro v225 w224 ⟨G221, A226, c227, g229, A230, c231, g232, A233, c234, hG222, rfl, H223, hs228⟩
   refine qd (j _ _ (zA ?_))
   have b := yq b
   subst b
   exact end_mk rfl RV.nil ⟨_, g229, A230, c231, g232, A233, c234, (((hG154.trans hG205).trans hG209).trans hG222), rfl, H223⟩
  intro hM153
  refine qF (fuel := 4) (m := 16255) (fun a w => ∃ T0 G1 A150 c151, a = mk 26 (qQ T0 [(9, (pt b0)), (10, (pt b0)), (15, (.int .u32 r24)), (22, (.slice A150 r47.length c151))]) ∧ GLe G G1 ∧ St c G1 w ((.box b0 136 (qA.at_ (Tnego_workV.mk x2 (.slice A5 x3.length c6) (.slice A10 x8.length c11) x13))) :: (.row qC g4 A5 c6 46 x3) :: (.row kI g9 A10 c11 3 x8) :: σ) ∧ SlR kB G1 A150 c151 r47) ?_ ?_
  ·rintro a w ⟨T0, G149, A150, c151, rfl, hG147, H148, hs152⟩
   refine qi [7] ⟨qg (m' := 16383) fun I j => ?_, yp⟩
   refine qo (vs := [(.int .u32 r24)]) en194 rfl (opts_Four_ok k H148 hr32) ?_
   rintro v239 w238 ⟨G235, g240, A241, c242, hG236, rfl, H237⟩
   refine qd (j _ _ ?_)
   exact hM153 _ _ ⟨_, _, g240, A241, c242, A150, c151, qf _ ⟨rfl, rfl, rfl, rfl, yp⟩, (hG147.trans hG236), (St.pk [1, 2, 3, 0] 4 H237 rfl (by decide)), (hs152.mono hG236)⟩
  intro hM146
  refine qF (fuel := 5) (m := 16191) (fun a w => ∃ T0 G1 v139 A141 c142, a = mk 26 (qQ T0 [(9, (pt b0)), (10, (pt b0)), (14, v139), (22, (.slice A141 r47.length c142))]) ∧ GLe G G1 ∧ St c G1 w ((.box b0 136 (qA.at_ (Tnego_workV.mk x2 (.slice A5 x3.length c6) (.slice A10 x8.length c11) x13))) :: (.row qC g4 A5 c6 46 x3) :: (.row kI g9 A10 c11 3 x8) :: σ) ∧ qv.V G1 v139 x2 ∧ SlR kB G1 A141 c142 r47) ?_ ?_
  ·rintro a w ⟨T0, G138, v139, A141, c142, rfl, hG136, H137, hv140, hs143⟩
   refine qi [6] ⟨qg (m' := 16255) fun I j => ?_, yp⟩
   refine qo (vs := [v139]) en68 rfl (nego_Magic_ok k hv140 H137 hr25) ?_
   rintro v248 w247 ⟨G244, hG245, rfl, H246⟩
   refine qd (j _ _ ?_)
   exact hM146 _ _ ⟨_, _, A141, c142, qf _ ⟨rfl, rfl, rfl, rfl, yp⟩, (hG136.trans hG245), H246, (hs143.mono hG245)⟩
  intro hM135
  refine qq (i := 0) (m' := 1) rfl (qa (pt b0) rfl) B E ?_
  refine qq (i := 1) (m' := 3) rfl (qa (pt b0) rfl) B E ?_
  refine qq (i := 2) (m' := 7) rfl (qa (pt b0) rfl) B E ?_
  refine qq (i := 3) (m' := 15) rfl (qM rfl) B E ?_
  refine qq (i := 4) (m' := 31) rfl (qh jH rfl) B E ?_
  refine qq (i := 8) (m' := 287) rfl (qa (pt b0) rfl) B E ?_
  refine qq (i := 9) (m' := 799) rfl (qM rfl) B E ?_
  refine qq (i := 10) (m' := 1823) rfl (qh fo136_3 rfl) B E ?_
  refine qq (i := 11) (m' := 3871) rfl (qh xG rfl) B E ?_
  refine qi [5, 12] ⟨?_, ?_, yp⟩
  ·refine qg (m' := 3903) fun I j => ?_
   refine ql H21 (i := 0) rfl qH zG rfl ?_
   intro v249 hv250
   refine qd (j _ _ ?_)
   refine qi [6, 12] ⟨?_, ?_, yp⟩
   ·refine qg (m' := 3967) fun I j => ?_
    refine qo (vs := [v249]) en68 rfl (nego_Magic_ok k hv250 H21 hr25) ?_
    rintro v255 w254 ⟨G251, hG252, rfl, H253⟩
    refine qd (j _ _ ?_)
    refine qi [7, 12] ⟨?_, ?_, yp⟩
    ·refine qg (m' := 4095) fun I j => ?_
     refine qo (vs := [(.int .u32 r24)]) en194 rfl (opts_Four_ok k H253 hr32) ?_
     rintro v260 w259 ⟨G256, g261, A262, c263, hG257, rfl, H258⟩
     refine qd (j _ _ ?_)
     refine qi [12] ⟨qg (m' := 8191) fun I j => ?_, yp⟩
     refine ql H258 (i := 1) rfl (Lens.then zi zm) jy rfl ?_
     intro v265 hv266
     obtain ⟨A267, c268, rfl, hs269⟩ := qN hv266
     refine qd (j _ _ ?_)
     refine jD (i := 13) (m' := 16383) rfl (rn_cut (lo := (some 4)) (hi := none) hs269 zJ ty5 rfl ⟨_, rfl⟩ yp hr48) B E ?_
     intro z270 hs271
     exact hM153 _ _ ⟨_, _, g261, A262, c263, z270.1, z270.2, qf _ ⟨rfl, rfl, rfl, rfl, yp⟩, (hG252.trans hG257), (St.pk [1, 2, 3, 0] 4 H258 rfl (by decide)), hs271⟩
    refine qg (m' := 8063) fun I j => ?_
    refine ql H253 (i := 0) rfl (Lens.then zi zm) jy rfl ?_
    intro v272 hv273
    obtain ⟨A274, c275, rfl, hs276⟩ := qN hv273
    refine qd (j _ _ ?_)
    refine jD (i := 13) (m' := 16255) rfl (rn_cut (lo := (some 4)) (hi := none) hs276 zJ ty5 rfl ⟨_, rfl⟩ yp hr48) B E ?_
    intro z277 hs278
    exact hM146 _ _ ⟨_, _, z277.1, z277.2, qf _ ⟨rfl, rfl, rfl, rfl, yp⟩, hG252, H253, hs278⟩
   refine qg (m' := 7999) fun I j => ?_
   refine ql H21 (i := 0) rfl (Lens.then zi zm) jy rfl ?_
   intro v279 hv280
   obtain ⟨A281, c282, rfl, hs283⟩ := qN hv280
   refine qd (j _ _ ?_)
   refine jD (i := 13) (m' := 16191) rfl (rn_cut (lo := (some 4)) (hi := none) hs283 zJ ty5 rfl ⟨_, rfl⟩ yp hr48) B E ?_
   intro z284 hs285
   exact hM135 _ _ ⟨_, _, v249, z284.1, z284.2, qf _ ⟨rfl, rfl, rfl, rfl, yp⟩, GLe.refl _, H21, hv250, hs285⟩
  refine qg (m' := 7967) fun I j => ?_
  refine ql H21 (i := 0) rfl (Lens.then zi zm) jy rfl ?_
  intro v286 hv287
  obtain ⟨A288, c289, rfl, hs290⟩ := qN hv287
  refine qd (j _ _ ?_)
  refine jD (i := 13) (m' := 16159) rfl (rn_cut (lo := (some 4)) (hi := none) hs290 zJ ty5 rfl ⟨_, rfl⟩ yp hr48) B E ?_
  intro z291 hs292
  refine qi [5] ⟨qg (m' := 16191) fun I j => ?_, yp⟩
  refine ql H21 (i := 0) rfl qH zG rfl ?_
  intro v293 hv294
  refine qd (j _ _ ?_)
  exact hM135 _ _ ⟨_, _, v293, z291.1, z291.2, qf _ ⟨rfl, rfl, rfl, rfl, yp⟩, GLe.refl _, H21, hv294, hs292⟩
 replace b := ifF b hb19
 refine qn (vb hb19) (wp_skip ?_)
 have b := yq b
 subst b
 exact end_mk rfl RV.nil ⟨_, g4, A5, c6, g9, A10, c11, GLe.refl _, rfl, H⟩

theorem nego_work_nothing_ok {c : World} (k : Hc c) {G : qk} {w : World} {σ : List Ent} {b0 : Nat} {x2 : TNego} {x3 : (List TPkt)} {x8 : (List Int)} {x13 : TPkt} {g4 : Option Nat} {A5 : Option Addr} {c6 : Nat} {g9 : Option Nat} {A10 : Option Addr} {c11 : Nat}  (H : St c G w ((.box b0 136 (qA.at_ (Tnego_workV.mk x2 (.slice A5 x3.length c6) (.slice A10 x8.length c11) x13))) :: (.row qC g4 A5 c6 46 x3) :: (.row kI g9 A10 c11 3 x8) :: σ)) {r : (TNego × (List TPkt) × (List Int) × TPkt)} (b : nego_work_nothing x2 x3 x8 x13 = some r) :
  Calls Tryz.prog 147 ([(pt b0)] : List Value).toArray w (zu fun v w' => ∃ (G' : qk) (g1' : Option Nat) (A2' : Option Addr) (c3' : Nat) (g4' : Option Nat) (A5' : Option Addr) (c6' : Nat), GLe G G' ∧ tup [] = v ∧ St c G' w' ((.box b0 136 (qA.at_ (Tnego_workV.mk r.1 (.slice A2' r.2.1.length c3') (.slice A5' r.2.2.1.length c6') r.2.2.2))) :: (.row qC g1' A2' c3' 46 r.2.1) :: (.row kI g4' A5' c6' 3 r.2.2.1) :: σ)) := by
 unfold nego_work_nothing at b
 refine qG Tryz.func147 rfl rfl rfl (wp_skip ?_)
 have b := yq b
 subst b
 exact end_mk rfl RV.nil ⟨_, g4, A5, c6, g9, A10, c11, GLe.refl _, rfl, H⟩

theorem nego_Take_ok {c : World} (k : Hc c) {G : qk} {w : World} {σ : List Ent} {a0 : TNego} {v0_ : Value} {a1 : TPkt} {v1_ : Value} (h0_ : qv.V G v0_ a0) (h1_ : qC.V G v1_ a1) (H : St c G w (σ)) {r : (TNego × (List TPkt) × (List Int))} (b : nego_Take a0 a1 = some r) :
  Calls Tryz.prog 29 ([v0_, v1_] : List Value).toArray w (zu fun v w' => ∃ (G' : qk) (v1' : Value) (A2' : Option Addr) (c3' : Nat) (A4' : Option Addr) (c5' : Nat), GLe G G' ∧ tup [v1', (.slice A2' r.2.1.length c3'), (.slice A4' r.2.2.length c5')] = v ∧ St c G' w' (σ) ∧ qv.V G' v1' r.1 ∧ SlR qC G' A2' c3' r.2.1 ∧ SlR kI G' A4' c5' r.2.2) := by
 unfold nego_Take at b
 refine qG Tryz.func29 rfl rfl rfl (wp_seq (qc ?_))
 refine zp (K := qv) (x := a0) H rfl h0_ ?_
 intro b1 w4 H2
 refine zp (K := qC) (x := a1) H2 rfl h1_ ?_
 intro b5 w8 H6
 refine qP H6 zr32 ?_
 intro b9 w12 H10
 iterate 2 refine qb (qa (.slice none 0 0) rfl) ?_
 refine qd (qe (wp_seq (qc ?_)))
 refine ql H10 (i := 2) rfl (Lens.id qv) zG rfl ?_
 intro v13 hv14
 refine ql H10 (i := 1) rfl (Lens.id qC) ty46 rfl ?_
 intro v15 hv16
 refine qR (qT (G := G) zr136V rfl bs136 rfl (Parts.cons jH qH hv14 (Parts.cons fo136_3 zi hv16 (Parts.nil _)))) ?_
 intro v17 hv18
 refine zp (K := qA) (x := (Tnego_workV.mk a0 (.slice none 0 0) (.slice none 0 0) a1)) H10 rfl hv18 ?_
 intro b19 w22 H20
 refine qb (qa (pt b19) rfl) (qd (qe (wp_seq (qc (qb (qa (.int .u16 49185) rfl) (qd (qe ?_)))))))
 refine wp_seq (join (fun a w => ∃ (T0 G1 : _) (x24 : Int) (x25 : TNego) (x26 : (List TPkt)) (x31 : (List Int)) (x36 : TPkt) (g27 A28 c29 g32 A33 c34 : _), a = mk 45 (qQ T0 [(2, (pt b1)), (3, (pt b5)), (4, (pt b9)), (7, (pt b19)), (8, (.int .u16 x24))]) ∧ GLe G G1 ∧ St c G1 w ((.box b19 136 (qA.at_ (Tnego_workV.mk x25 (.slice A28 x26.length c29) (.slice A33 x31.length c34) x36))) :: (.row qC g27 A28 c29 46 x26) :: (.row kI g32 A33 c34 3 x31) :: (.box b9 32 (qv.at_ xT)) :: (.box b5 46 (qC.at_ a1)) :: (.box b1 32 (qv.at_ a0)) :: σ) ∧ nego_Take_j1 a0 a1 x24 x25 x26 x31 x36 = some r) ?_ ?_)
 ·rintro a w ⟨T0, G39, x24, x25, x26, x31, x36, g27, A28, c29, g32, A33, c34, rfl, hG37, H38, b⟩
  refine wp_seq (join (fun a w => ∃ (T0 G1 : _) (x239 : TNego) (x240 : (List TPkt)) (x245 : (List Int)) (x250 : TPkt) (g241 A242 c243 g246 A247 c248 : _), a = mk 45 (qQ T0 [(4, (pt b9)), (7, (pt b19))]) ∧ GLe G39 G1 ∧ St c G1 w ((.box b19 136 (qA.at_ (Tnego_workV.mk x239 (.slice A242 x240.length c243) (.slice A247 x245.length c248) x250))) :: (.row qC g241 A242 c243 46 x240) :: (.row kI g246 A247 c248 3 x245) :: (.box b9 32 (qv.at_ xT)) :: σ) ∧ zr x239 x240 x245 x250 = some r) ?_ ?_)
  ·rintro a w ⟨T0, G253, x239, x240, x245, x250, g241, A242, c243, g246, A247, c248, rfl, hG251, H252, b⟩
   refine wp_seq (qc (qb (qa (pt b19) rfl) ?_))
   obtain ⟨r254, hr255, b⟩ := qu b
   refine qo (vs := [(pt b19)]) en75 rfl (nego_work_told_ok k H252 hr255) ?_
   rintro v260 w259 ⟨G256, v261, A263, c264, A266, c267, hG257, rfl, H258, hv262, hs265, hs268⟩
   refine qb (qa v261 rfl) (qb (qa (.slice A263 r254.2.1.length c264) rfl) (qb (qa (.slice A266 r254.2.2.length c267) rfl) ?_))
   refine qy (z := r254.1) H258 (i := 0) rfl (Lens.id qv) zG rfl rfl hv262 ?_
   intro w270 H269
   refine qb (qa (.slice A263 r254.2.1.length c264) rfl) (qb (qa (.slice A266 r254.2.2.length c267) rfl) (qd (qe (wp_ret ?_))))
   obtain ⟨v271, hv272, hl273⟩ := H269.loadv (i := 0) rfl zG
   have b := yq b
   subst b
   exact qt rfl (RV.cell rfl hl273 (RV.tmp rfl (RV.tmp rfl RV.nil))) ⟨_, v271, A263, c264, A266, c267, ((hG37.trans hG251).trans hG257), rfl, (St.pk [] 1 H269 rfl (by decide)), hv272, hs265, hs268⟩
  refine wp_block (wp_seq (qc (qb (qh xe rfl) (qb (qh fo26_0 rfl) (qp H38 (i := 5) rfl (Lens.then zq zZ) (qz .i64) ty3 rfl ?_)))))
  iterate 2 refine qb (qa (.bool (decide (a0.A.State ≤ 1))) rfl) ?_
  refine qd (qe ?_)
  rcases qm (decide (a0.A.State ≤ 1)) with hb274 | hb274
  ·replace b := ifT b hb274
   refine qs (vb hb274) (wp_skip (zn (qe ?_)))
   exact ⟨_, _, x25, x26, x31, x36, g27, A28, c29, g32, A33, c34, qf _ ⟨rfl, rfl, yp⟩, GLe.refl _, (St.pk [0, 1, 2, 3] 6 H38 rfl (by decide)), b⟩
  replace b := ifF b hb274
  refine qn (vb hb274) (wp_seq (qc (qb (qa (.int .u16 x24) rfl) (qb (qh jO rfl) (qp H38 (i := 4) rfl qW (qz .u8) ty5 rfl ?_)))))
  obtain ⟨r275, hr276, b⟩ := qu b
  refine qo (vs := [(.int .u16 x24), (.int .u8 a1.Code)]) en78 rfl (pack_Known_ok k H38 hr276) ?_
  rintro v281 w280 ⟨G277, hG278, rfl, H279⟩
  iterate 2 refine qb (qa (.bool (!r275)) rfl) ?_
  refine qd (qe ?_)
  rcases qm (!r275) with hb282 | hb282
  ·replace b := ifT b hb282
   refine qs (vb hb282) (qc (qb (qa (pt b19) rfl) ?_))
   refine ql H279 (i := 4) rfl (Lens.id qC) ty46 rfl ?_
   intro v283 hv284
   refine qb (qh xe rfl) (qb (qh fo26_3 rfl) (qp H279 (i := 5) rfl (Lens.then zq zT) (qz .u8) ty5 rfl ?_))
   obtain ⟨r285, hr286, b⟩ := qu b
   refine qo (vs := [v283, (.int .u8 a0.A.Id)]) en79 rfl (pack_Reject_ok k hv284 H279 hr286) ?_
   rintro v291 w290 ⟨G287, v292, hG288, rfl, H289, hv293⟩
   obtain ⟨r294, hr295, b⟩ := qu b
   refine qo (vs := [(pt b19), (.int .i64 12), v292]) en74 rfl (jg k hv293 H289 hr295) ?_
   rintro v300 w299 ⟨G296, A301, c302, g304, A305, c306, g307, A308, c309, hG297, rfl, H298, hs303⟩
   refine qd (zn (qe ?_))
   exact ⟨_, _, r294.2.1, r294.2.2.1, r294.2.2.2.1, r294.2.2.2.2, g304, A305, c306, g307, A308, c309, qf _ ⟨rfl, rfl, yp⟩, ((hG278.trans hG288).trans hG297), (St.pk [0, 1, 2, 3] 6 H298 rfl (by decide)), b⟩
  replace b := ifF b hb282
  refine qn (vb hb282) ?_
  refine jP (f := 6) H279 mixed ?_
  intro w310 H311
  refine xW (by repeat (first | exact PF.base | apply PF.then_ | apply PF.blk)) ?_
  intro B E
  obtain ⟨r312, hr313, b⟩ := qu b
  rcases qm (a1.Code == 1) with hb321 | hb321
  ·replace b := ifT b hb321
   obtain ⟨r322, hr323, b⟩ := qu b
   refine qF (fuel := 2) (m := 23) (fun a w => ∃ (T0 G1 : _) (r346 : Nat), a = mk 45 (qQ T0 [(4, (pt b9)), (7, (pt b19)), (16, (.map (some r346))), (18, (.int .u8 a1.Code)), (20, (pt b19))]) ∧ GLe G277 G1 ∧ St c G1 w ((.box b9 32 (qv.at_ xT)) :: (.box b19 136 (qA.at_ (Tnego_workV.mk x25 (.slice A28 x26.length c29) (.slice A33 x31.length c34) x36))) :: (.row qC g27 A28 c29 46 x26) :: (.row kI g32 A33 c34 3 x31) :: (.mp r346 [⟨.int .u8 1, (.func (.func 139) #[] #[]), 0⟩, ⟨.int .u8 2, (.func (.func 140) #[] #[]), 1⟩, ⟨.int .u8 3, (.func (.func 141) #[] #[]), 2⟩, ⟨.int .u8 4, (.func (.func 141) #[] #[]), 3⟩, ⟨.int .u8 5, (.func (.func 142) #[] #[]), 4⟩, ⟨.int .u8 6, (.func (.func 143) #[] #[]), 5⟩, ⟨.int .u8 7, (.func (.func 144) #[] #[]), 6⟩, ⟨.int .u8 8, (.func (.func 145) #[] #[]), 7⟩, ⟨.int .u8 9, (.func (.func 146) #[] #[]), 8⟩, ⟨.int .u8 10, (.func (.func 147) #[] #[]), 9⟩, ⟨.int .u8 11, (.func (.func 147) #[] #[]), 10⟩] 11) :: σ)) ?_ ?_
   ·rintro a w ⟨T0, G345, r346, rfl, hG343, H344⟩
    refine qi [3] ⟨qg (m' := 31) fun I j => ?_, yp⟩
    refine jA (key := (.int .u8 a1.Code)) (val := (.func (.func 139) #[] #[])) (ok := true) H344 (i := 4) rfl mt145 un5 rfl rfl (by simp [Go.MapKept.IsKey]) ⟨_, (fnd_yes hb321), .inl ⟨_, rfl, rfl⟩⟩ ?_
    refine qd (j _ _ ?_)
    refine qi [5] ⟨qg (m' := 63) fun I j => ?_, yp⟩
    refine jT (first := []) (captured := []) (vs := [(pt b19)]) en139 rfl rfl (nego_work_request_ok k (St.pk [1, 2, 3, 0, 4] 5 H344 rfl (by decide)) hr323) ?_
    rintro v362 w361 ⟨G358, g363, A364, c365, g366, A367, c368, hG359, rfl, H360⟩
    refine qd (j _ _ (zA (zn (qe ?_))))
    exact ⟨_, _, r322.1, r322.2.1, r322.2.2.1, r322.2.2.2, g363, A364, c365, g366, A367, c368, qf _ ⟨rfl, rfl, yp⟩, ((hG278.trans hG343).trans hG359), (St.pk [0, 1, 2, 3] 5 H360 rfl (by decide)), b⟩
   intro hM342
   refine qq (i := 1) (m' := 2) rfl (qh jO rfl) B E ?_
   refine qq (i := 4) (m' := 18) rfl (qa (pt b19) rfl) B E ?_
   refine qi [0, 2] ⟨?_, ?_, yp⟩
   ·refine qg (m' := 19) fun I j => ?_
    refine qo (vs := []) en80 rfl (zC k H311 hr313) ?_
    rintro v373 w372 ⟨G369, r374, hG370, rfl, H371⟩
    refine qd (j _ _ ?_)
    refine qi [2] ⟨qg (m' := 23) fun I j => ?_, yp⟩
    refine qp H371 (i := 5) rfl qW (qz .u8) ty5 rfl (qd (j _ _ ?_))
    exact hM342 _ _ ⟨_, _, r374, qf _ ⟨rfl, rfl, rfl, rfl, rfl, yp⟩, hG370, (St.pk [4, 1, 2, 3, 0] 7 H371 rfl (by decide))⟩
   refine qg (m' := 22) fun I j => ?_
   refine qp H311 (i := 4) rfl qW (qz .u8) ty5 rfl (qd (j _ _ ?_))
   refine qi [0] ⟨qg (m' := 23) fun I j => ?_, yp⟩
   refine qo (vs := []) en80 rfl (zC k H311 hr313) ?_
   rintro v380 w379 ⟨G376, r381, hG377, rfl, H378⟩
   refine qd (j _ _ ?_)
   exact hM342 _ _ ⟨_, _, r381, qf _ ⟨rfl, rfl, rfl, rfl, rfl, yp⟩, hG377, (St.pk [4, 1, 2, 3, 0] 7 H378 rfl (by decide))⟩
  replace b := ifF b hb321
  rcases qm (a1.Code == 2) with hb383 | hb383
  ·replace b := ifT b hb383
   obtain ⟨r384, hr385, b⟩ := qu b
   refine qF (fuel := 2) (m := 23) (fun a w => ∃ (T0 G1 : _) (r408 : Nat), a = mk 45 (qQ T0 [(4, (pt b9)), (7, (pt b19)), (16, (.map (some r408))), (18, (.int .u8 a1.Code)), (20, (pt b19))]) ∧ GLe G277 G1 ∧ St c G1 w ((.box b9 32 (qv.at_ xT)) :: (.box b19 136 (qA.at_ (Tnego_workV.mk x25 (.slice A28 x26.length c29) (.slice A33 x31.length c34) x36))) :: (.row qC g27 A28 c29 46 x26) :: (.row kI g32 A33 c34 3 x31) :: (.mp r408 [⟨.int .u8 1, (.func (.func 139) #[] #[]), 0⟩, ⟨.int .u8 2, (.func (.func 140) #[] #[]), 1⟩, ⟨.int .u8 3, (.func (.func 141) #[] #[]), 2⟩, ⟨.int .u8 4, (.func (.func 141) #[] #[]), 3⟩, ⟨.int .u8 5, (.func (.func 142) #[] #[]), 4⟩, ⟨.int .u8 6, (.func (.func 143) #[] #[]), 5⟩, ⟨.int .u8 7, (.func (.func 144) #[] #[]), 6⟩, ⟨.int .u8 8, (.func (.func 145) #[] #[]), 7⟩, ⟨.int .u8 9, (.func (.func 146) #[] #[]), 8⟩, ⟨.int .u8 10, (.func (.func 147) #[] #[]), 9⟩, ⟨.int .u8 11, (.func (.func 147) #[] #[]), 10⟩] 11) :: σ)) ?_ ?_
   ·rintro a w ⟨T0, G407, r408, rfl, hG405, H406⟩
    refine qi [3] ⟨qg (m' := 31) fun I j => ?_, yp⟩
    refine jA (key := (.int .u8 a1.Code)) (val := (.func (.func 140) #[] #[])) (ok := true) H406 (i := 4) rfl mt145 un5 rfl rfl (by simp [Go.MapKept.IsKey]) ⟨_, (zx hb321 (fnd_yes hb383)), .inl ⟨_, rfl, rfl⟩⟩ ?_
    refine qd (j _ _ ?_)
    refine qi [5] ⟨qg (m' := 63) fun I j => ?_, yp⟩
    refine jT (first := []) (captured := []) (vs := [(pt b19)]) en140 rfl rfl (nego_work_ack_ok k (St.pk [1, 2, 3, 0, 4] 5 H406 rfl (by decide)) hr385) ?_
    rintro v424 w423 ⟨G420, g425, A426, c427, g428, A429, c430, hG421, rfl, H422⟩
    refine qd (j _ _ (zA (zn (qe ?_))))
    exact ⟨_, _, r384.1, r384.2.1, r384.2.2.1, r384.2.2.2, g425, A426, c427, g428, A429, c430, qf _ ⟨rfl, rfl, yp⟩, ((hG278.trans hG405).trans hG421), (St.pk [0, 1, 2, 3] 5 H422 rfl (by decide)), b⟩
   intro hM404
   refine qq (i := 1) (m' := 2) rfl (qh jO rfl) B E ?_
   refine qq (i := 4) (m' := 18) rfl (qa (pt b19) rfl) B E ?_
   refine qi [0, 2] ⟨?_, ?_, yp⟩
   ·refine qg (m' := 19) fun I j => ?_
    refine qo (vs := []) en80 rfl (zC k H311 hr313) ?_
    rintro v435 w434 ⟨G431, r436, hG432, rfl, H433⟩
    refine qd (j _ _ ?_)
    refine qi [2] ⟨qg (m' := 23) fun I j => ?_, yp⟩
    refine qp H433 (i := 5) rfl qW (qz .u8) ty5 rfl (qd (j _ _ ?_))
    exact hM404 _ _ ⟨_, _, r436, qf _ ⟨rfl, rfl, rfl, rfl, rfl, yp⟩, hG432, (St.pk [4, 1, 2, 3, 0] 7 H433 rfl (by decide))⟩
   refine qg (m' := 22) fun I j => ?_
   refine qp H311 (i := 4) rfl qW (qz .u8) ty5 rfl (qd (j _ _ ?_))
   refine qi [0] ⟨qg (m' := 23) fun I j => ?_, yp⟩
   refine qo (vs := []) en80 rfl (zC k H311 hr313) ?_
   rintro v442 w441 ⟨G438, r443, hG439, rfl, H440⟩
   refine qd (j _ _ ?_)
   exact hM404 _ _ ⟨_, _, r443, qf _ ⟨rfl, rfl, rfl, rfl, rfl, yp⟩, hG439, (St.pk [4, 1, 2, 3, 0] 7 H440 rfl (by decide))⟩
  replace b := ifF b hb383
  rcases qm (a1.Code == 3) with hb445 | hb445
  ·replace b := ifT b hb445
   obtain ⟨r446, hr447, b⟩ := qu b
   refine qF (fuel := 2) (m := 23) (fun a w => ∃ (T0 G1 : _) (r470 : Nat), a = mk 45 (qQ T0 [(4, (pt b9)), (7, (pt b19)), (16, (.map (some r470))), (18, (.int .u8 a1.Code)), (20, (pt b19))]) ∧ GLe G277 G1 ∧ St c G1 w ((.box b9 32 (qv.at_ xT)) :: (.box b19 136 (qA.at_ (Tnego_workV.mk x25 (.slice A28 x26.length c29) (.slice A33 x31.length c34) x36))) :: (.row qC g27 A28 c29 46 x26) :: (.row kI g32 A33 c34 3 x31) :: (.mp r470 [⟨.int .u8 1, (.func (.func 139) #[] #[]), 0⟩, ⟨.int .u8 2, (.func (.func 140) #[] #[]), 1⟩, ⟨.int .u8 3, (.func (.func 141) #[] #[]), 2⟩, ⟨.int .u8 4, (.func (.func 141) #[] #[]), 3⟩, ⟨.int .u8 5, (.func (.func 142) #[] #[]), 4⟩, ⟨.int .u8 6, (.func (.func 143) #[] #[]), 5⟩, ⟨.int .u8 7, (.func (.func 144) #[] #[]), 6⟩, ⟨.int .u8 8, (.func (.func 145) #[] #[]), 7⟩, ⟨.int .u8 9, (.func (.func 146) #[] #[]), 8⟩, ⟨.int .u8 10, (.func (.func 147) #[] #[]), 9⟩, ⟨.int .u8 11, (.func (.func 147) #[] #[]), 10⟩] 11) :: σ)) ?_ ?_
   ·rintro a w ⟨T0, G469, r470, rfl, hG467, H468⟩
    refine qi [3] ⟨qg (m' := 31) fun I j => ?_, yp⟩
    refine jA (key := (.int .u8 a1.Code)) (val := (.func (.func 141) #[] #[])) (ok := true) H468 (i := 4) rfl mt145 un5 rfl rfl (by simp [Go.MapKept.IsKey]) ⟨_, (zx hb321 (zx hb383 (fnd_yes hb445))), .inl ⟨_, rfl, rfl⟩⟩ ?_
    refine qd (j _ _ ?_)
    refine qi [5] ⟨qg (m' := 63) fun I j => ?_, yp⟩
    refine jT (first := []) (captured := []) (vs := [(pt b19)]) en141 rfl rfl (nego_work_nak_ok k (St.pk [1, 2, 3, 0, 4] 5 H468 rfl (by decide)) hr447) ?_
    rintro v486 w485 ⟨G482, g487, A488, c489, g490, A491, c492, hG483, rfl, H484⟩
    refine qd (j _ _ (zA (zn (qe ?_))))
    exact ⟨_, _, r446.1, r446.2.1, r446.2.2.1, r446.2.2.2, g487, A488, c489, g490, A491, c492, qf _ ⟨rfl, rfl, yp⟩, ((hG278.trans hG467).trans hG483), (St.pk [0, 1, 2, 3] 5 H484 rfl (by decide)), b⟩
   intro hM466
   refine qq (i := 1) (m' := 2) rfl (qh jO rfl) B E ?_
   refine qq (i := 4) (m' := 18) rfl (qa (pt b19) rfl) B E ?_
   refine qi [0, 2] ⟨?_, ?_, yp⟩
   ·refine qg (m' := 19) fun I j => ?_
    refine qo (vs := []) en80 rfl (zC k H311 hr313) ?_
    rintro v497 w496 ⟨G493, r498, hG494, rfl, H495⟩
    refine qd (j _ _ ?_)
    refine qi [2] ⟨qg (m' := 23) fun I j => ?_, yp⟩
    refine qp H495 (i := 5) rfl qW (qz .u8) ty5 rfl (qd (j _ _ ?_))
    exact hM466 _ _ ⟨_, _, r498, qf _ ⟨rfl, rfl, rfl, rfl, rfl, yp⟩, hG494, (St.pk [4, 1, 2, 3, 0] 7 H495 rfl (by decide))⟩
   refine qg (m' := 22) fun I j => ?_
   refine qp H311 (i := 4) rfl qW (qz .u8) ty5 rfl (qd (j _ _ ?_))
   refine qi [0] ⟨qg (m' := 23) fun I j => ?_, yp⟩
   refine qo (vs := []) en80 rfl (zC k H311 hr313) ?_
   rintro v504 w503 ⟨G500, r505, hG501, rfl, H502⟩
   refine qd (j _ _ ?_)
   exact hM466 _ _ ⟨_, _, r505, qf _ ⟨rfl, rfl, rfl, rfl, rfl, yp⟩, hG501, (St.pk [4, 1, 2, 3, 0] 7 H502 rfl (by decide))⟩
  replace b := ifF b hb445
  rcases qm (a1.Code == 4) with hb507 | hb507
  ·replace b := ifT b hb507
   obtain ⟨r508, hr509, b⟩ := qu b
   refine qF (fuel := 2) (m := 23) (fun a w => ∃ (T0 G1 : _) (r532 : Nat), a = mk 45 (qQ T0 [(4, (pt b9)), (7, (pt b19)), (16, (.map (some r532))), (18, (.int .u8 a1.Code)), (20, (pt b19))]) ∧ GLe G277 G1 ∧ St c G1 w ((.box b9 32 (qv.at_ xT)) :: (.box b19 136 (qA.at_ (Tnego_workV.mk x25 (.slice A28 x26.length c29) (.slice A33 x31.length c34) x36))) :: (.row qC g27 A28 c29 46 x26) :: (.row kI g32 A33 c34 3 x31) :: (.mp r532 [⟨.int .u8 1, (.func (.func 139) #[] #[]), 0⟩, ⟨.int .u8 2, (.func (.func 140) #[] #[]), 1⟩, ⟨.int .u8 3, (.func (.func 141) #[] #[]), 2⟩, ⟨.int .u8 4, (.func (.func 141) #[] #[]), 3⟩, ⟨.int .u8 5, (.func (.func 142) #[] #[]), 4⟩, ⟨.int .u8 6, (.func (.func 143) #[] #[]), 5⟩, ⟨.int .u8 7, (.func (.func 144) #[] #[]), 6⟩, ⟨.int .u8 8, (.func (.func 145) #[] #[]), 7⟩, ⟨.int .u8 9, (.func (.func 146) #[] #[]), 8⟩, ⟨.int .u8 10, (.func (.func 147) #[] #[]), 9⟩, ⟨.int .u8 11, (.func (.func 147) #[] #[]), 10⟩] 11) :: σ)) ?_ ?_
   ·rintro a w ⟨T0, G531, r532, rfl, hG529, H530⟩
    refine qi [3] ⟨qg (m' := 31) fun I j => ?_, yp⟩
    refine jA (key := (.int .u8 a1.Code)) (val := (.func (.func 141) #[] #[])) (ok := true) H530 (i := 4) rfl mt145 un5 rfl rfl (by simp [Go.MapKept.IsKey]) ⟨_, (zx hb321 (zx hb383 (zx hb445 (fnd_yes hb507)))), .inl ⟨_, rfl, rfl⟩⟩ ?_
    refine qd (j _ _ ?_)
    refine qi [5] ⟨qg (m' := 63) fun I j => ?_, yp⟩
    refine jT (first := []) (captured := []) (vs := [(pt b19)]) en141 rfl rfl (nego_work_nak_ok k (St.pk [1, 2, 3, 0, 4] 5 H530 rfl (by decide)) hr509) ?_
    rintro v548 w547 ⟨G544, g549, A550, c551, g552, A553, c554, hG545, rfl, H546⟩
    refine qd (j _ _ (zA (zn (qe ?_))))
    exact ⟨_, _, r508.1, r508.2.1, r508.2.2.1, r508.2.2.2, g549, A550, c551, g552, A553, c554, qf _ ⟨rfl, rfl, yp⟩, ((hG278.trans hG529).trans hG545), (St.pk [0, 1, 2, 3] 5 H546 rfl (by decide)), b⟩
   intro hM528
   refine qq (i := 1) (m' := 2) rfl (qh jO rfl) B E ?_
   refine qq (i := 4) (m' := 18) rfl (qa (pt b19) rfl) B E ?_
   refine qi [0, 2] ⟨?_, ?_, yp⟩
   ·refine qg (m' := 19) fun I j => ?_
    refine qo (vs := []) en80 rfl (zC k H311 hr313) ?_
    rintro v559 w558 ⟨G555, r560, hG556, rfl, H557⟩
    refine qd (j _ _ ?_)
    refine qi [2] ⟨qg (m' := 23) fun I j => ?_, yp⟩
    refine qp H557 (i := 5) rfl qW (qz .u8) ty5 rfl (qd (j _ _ ?_))
    exact hM528 _ _ ⟨_, _, r560, qf _ ⟨rfl, rfl, rfl, rfl, rfl, yp⟩, hG556, (St.pk [4, 1, 2, 3, 0] 7 H557 rfl (by decide))⟩
   refine qg (m' := 22) fun I j => ?_
   refine qp H311 (i := 4) rfl qW (qz .u8) ty5 rfl (qd (j _ _ ?_))
   refine qi [0] ⟨qg (m' := 23) fun I j => ?_, yp⟩
   refine qo (vs := []) en80 rfl (zC k H311 hr313) ?_
   rintro v566 w565 ⟨G562, r567, hG563, rfl, H564⟩
   refine qd (j _ _ ?_)
   exact hM528 _ _ ⟨_, _, r567, qf _ ⟨rfl, rfl, rfl, rfl, rfl, yp⟩, hG563, (St.pk [4, 1, 2, 3, 0] 7 H564 rfl (by decide))⟩
  replace b := ifF b hb507
  rcases qm (a1.Code == 5) with hb569 | hb569
  ·replace b := ifT b hb569
   obtain ⟨r570, hr571, b⟩ := qu b
   refine qF (fuel := 2) (m := 23) (fun a w => ∃ (T0 G1 : _) (r594 : Nat), a = mk 45 (qQ T0 [(4, (pt b9)), (7, (pt b19)), (16, (.map (some r594))), (18, (.int .u8 a1.Code)), (20, (pt b19))]) ∧ GLe G277 G1 ∧ St c G1 w ((.box b9 32 (qv.at_ xT)) :: (.box b19 136 (qA.at_ (Tnego_workV.mk x25 (.slice A28 x26.length c29) (.slice A33 x31.length c34) x36))) :: (.row qC g27 A28 c29 46 x26) :: (.row kI g32 A33 c34 3 x31) :: (.mp r594 [⟨.int .u8 1, (.func (.func 139) #[] #[]), 0⟩, ⟨.int .u8 2, (.func (.func 140) #[] #[]), 1⟩, ⟨.int .u8 3, (.func (.func 141) #[] #[]), 2⟩, ⟨.int .u8 4, (.func (.func 141) #[] #[]), 3⟩, ⟨.int .u8 5, (.func (.func 142) #[] #[]), 4⟩, ⟨.int .u8 6, (.func (.func 143) #[] #[]), 5⟩, ⟨.int .u8 7, (.func (.func 144) #[] #[]), 6⟩, ⟨.int .u8 8, (.func (.func 145) #[] #[]), 7⟩, ⟨.int .u8 9, (.func (.func 146) #[] #[]), 8⟩, ⟨.int .u8 10, (.func (.func 147) #[] #[]), 9⟩, ⟨.int .u8 11, (.func (.func 147) #[] #[]), 10⟩] 11) :: σ)) ?_ ?_
   ·rintro a w ⟨T0, G593, r594, rfl, hG591, H592⟩
    refine qi [3] ⟨qg (m' := 31) fun I j => ?_, yp⟩
    refine jA (key := (.int .u8 a1.Code)) (val := (.func (.func 142) #[] #[])) (ok := true) H592 (i := 4) rfl mt145 un5 rfl rfl (by simp [Go.MapKept.IsKey]) ⟨_, (zx hb321 (zx hb383 (zx hb445 (zx hb507 (fnd_yes hb569))))), .inl ⟨_, rfl, rfl⟩⟩ ?_
    refine qd (j _ _ ?_)
    refine qi [5] ⟨qg (m' := 63) fun I j => ?_, yp⟩
    refine jT (first := []) (captured := []) (vs := [(pt b19)]) en142 rfl rfl (nego_work_term_ok k (St.pk [1, 2, 3, 0, 4] 5 H592 rfl (by decide)) hr571) ?_
    rintro v610 w609 ⟨G606, g611, A612, c613, g614, A615, c616, hG607, rfl, H608⟩
    refine qd (j _ _ (zA (zn (qe ?_))))
    exact ⟨_, _, r570.1, r570.2.1, r570.2.2.1, r570.2.2.2, g611, A612, c613, g614, A615, c616, qf _ ⟨rfl, rfl, yp⟩, ((hG278.trans hG591).trans hG607), (St.pk [0, 1, 2, 3] 5 H608 rfl (by decide)), b⟩
   intro hM590
   refine qq (i := 1) (m' := 2) rfl (qh jO rfl) B E ?_
   refine qq (i := 4) (m' := 18) rfl (qa (pt b19) rfl) B E ?_
   refine qi [0, 2] ⟨?_, ?_, yp⟩
   ·refine qg (m' := 19) fun I j => ?_
    refine qo (vs := []) en80 rfl (zC k H311 hr313) ?_
    rintro v621 w620 ⟨G617, r622, hG618, rfl, H619⟩
    refine qd (j _ _ ?_)
    refine qi [2] ⟨qg (m' := 23) fun I j => ?_, yp⟩
    refine qp H619 (i := 5) rfl qW (qz .u8) ty5 rfl (qd (j _ _ ?_))
    exact hM590 _ _ ⟨_, _, r622, qf _ ⟨rfl, rfl, rfl, rfl, rfl, yp⟩, hG618, (St.pk [4, 1, 2, 3, 0] 7 H619 rfl (by decide))⟩
   refine qg (m' := 22) fun I j => ?_
   refine qp H311 (i := 4) rfl qW (qz .u8) ty5 rfl (qd (j _ _ ?_))
   refine qi [0] ⟨qg (m' := 23) fun I j => ?_, yp⟩
   refine qo (vs := []) en80 rfl (zC k H311 hr313) ?_
   rintro v628 w627 ⟨G624, r629, hG625, rfl, H626⟩
   refine qd (j _ _ ?_)
   exact hM590 _ _ ⟨_, _, r629, qf _ ⟨rfl, rfl, rfl, rfl, rfl, yp⟩, hG625, (St.pk [4, 1, 2, 3, 0] 7 H626 rfl (by decide))⟩
  replace b := ifF b hb569
  rcases qm (a1.Code == 6) with hb631 | hb631
  ·replace b := ifT b hb631
   obtain ⟨r632, hr633, b⟩ := qu b
   refine qF (fuel := 2) (m := 23) (fun a w => ∃ (T0 G1 : _) (r656 : Nat), a = mk 45 (qQ T0 [(4, (pt b9)), (7, (pt b19)), (16, (.map (some r656))), (18, (.int .u8 a1.Code)), (20, (pt b19))]) ∧ GLe G277 G1 ∧ St c G1 w ((.box b9 32 (qv.at_ xT)) :: (.box b19 136 (qA.at_ (Tnego_workV.mk x25 (.slice A28 x26.length c29) (.slice A33 x31.length c34) x36))) :: (.row qC g27 A28 c29 46 x26) :: (.row kI g32 A33 c34 3 x31) :: (.mp r656 [⟨.int .u8 1, (.func (.func 139) #[] #[]), 0⟩, ⟨.int .u8 2, (.func (.func 140) #[] #[]), 1⟩, ⟨.int .u8 3, (.func (.func 141) #[] #[]), 2⟩, ⟨.int .u8 4, (.func (.func 141) #[] #[]), 3⟩, ⟨.int .u8 5, (.func (.func 142) #[] #[]), 4⟩, ⟨.int .u8 6, (.func (.func 143) #[] #[]), 5⟩, ⟨.int .u8 7, (.func (.func 144) #[] #[]), 6⟩, ⟨.int .u8 8, (.func (.func 145) #[] #[]), 7⟩, ⟨.int .u8 9, (.func (.func 146) #[] #[]), 8⟩, ⟨.int .u8 10, (.func (.func 147) #[] #[]), 9⟩, ⟨.int .u8 11, (.func (.func 147) #[] #[]), 10⟩] 11) :: σ)) ?_ ?_
   ·rintro a w ⟨T0, G655, r656, rfl, hG653, H654⟩
    refine qi [3] ⟨qg (m' := 31) fun I j => ?_, yp⟩
    refine jA (key := (.int .u8 a1.Code)) (val := (.func (.func 143) #[] #[])) (ok := true) H654 (i := 4) rfl mt145 un5 rfl rfl (by simp [Go.MapKept.IsKey]) ⟨_, (zx hb321 (zx hb383 (zx hb445 (zx hb507 (zx hb569 (fnd_yes hb631)))))), .inl ⟨_, rfl, rfl⟩⟩ ?_
    refine qd (j _ _ ?_)
    refine qi [5] ⟨qg (m' := 63) fun I j => ?_, yp⟩
    refine jT (first := []) (captured := []) (vs := [(pt b19)]) en143 rfl rfl (nego_work_termed_ok k (St.pk [1, 2, 3, 0, 4] 5 H654 rfl (by decide)) hr633) ?_
    rintro v672 w671 ⟨G668, g673, A674, c675, g676, A677, c678, hG669, rfl, H670⟩
    refine qd (j _ _ (zA (zn (qe ?_))))
    exact ⟨_, _, r632.1, r632.2.1, r632.2.2.1, r632.2.2.2, g673, A674, c675, g676, A677, c678, qf _ ⟨rfl, rfl, yp⟩, ((hG278.trans hG653).trans hG669), (St.pk [0, 1, 2, 3] 5 H670 rfl (by decide)), b⟩
   intro hM652
   refine qq (i := 1) (m' := 2) rfl (qh jO rfl) B E ?_
   refine qq (i := 4) (m' := 18) rfl (qa (pt b19) rfl) B E ?_
   refine qi [0, 2] ⟨?_, ?_, yp⟩
   ·refine qg (m' := 19) fun I j => ?_
    refine qo (vs := []) en80 rfl (zC k H311 hr313) ?_
    rintro v683 w682 ⟨G679, r684, hG680, rfl, H681⟩
    refine qd (j _ _ ?_)
    refine qi [2] ⟨qg (m' := 23) fun I j => ?_, yp⟩
    refine qp H681 (i := 5) rfl qW (qz .u8) ty5 rfl (qd (j _ _ ?_))
    exact hM652 _ _ ⟨_, _, r684, qf _ ⟨rfl, rfl, rfl, rfl, rfl, yp⟩, hG680, (St.pk [4, 1, 2, 3, 0] 7 H681 rfl (by decide))⟩
   refine qg (m' := 22) fun I j => ?_
   refine qp H311 (i := 4) rfl qW (qz .u8) ty5 rfl (qd (j _ _ ?_))
   refine qi [0] ⟨qg (m' := 23) fun I j => ?_, yp⟩
   refine qo (vs := []) en80 rfl (zC k H311 hr313) ?_
   rintro v690 w689 ⟨G686, r691, hG687, rfl, H688⟩
   refine qd (j _ _ ?_)
   exact hM652 _ _ ⟨_, _, r691, qf _ ⟨rfl, rfl, rfl, rfl, rfl, yp⟩, hG687, (St.pk [4, 1, 2, 3, 0] 7 H688 rfl (by decide))⟩
  replace b := ifF b hb631
  rcases qm (a1.Code == 7) with hb693 | hb693
  ·replace b := ifT b hb693
   obtain ⟨r694, hr695, b⟩ := qu b
   refine qF (fuel := 2) (m := 23) (fun a w => ∃ (T0 G1 : _) (r718 : Nat), a = mk 45 (qQ T0 [(4, (pt b9)), (7, (pt b19)), (16, (.map (some r718))), (18, (.int .u8 a1.Code)), (20, (pt b19))]) ∧ GLe G277 G1 ∧ St c G1 w ((.box b9 32 (qv.at_ xT)) :: (.box b19 136 (qA.at_ (Tnego_workV.mk x25 (.slice A28 x26.length c29) (.slice A33 x31.length c34) x36))) :: (.row qC g27 A28 c29 46 x26) :: (.row kI g32 A33 c34 3 x31) :: (.mp r718 [⟨.int .u8 1, (.func (.func 139) #[] #[]), 0⟩, ⟨.int .u8 2, (.func (.func 140) #[] #[]), 1⟩, ⟨.int .u8 3, (.func (.func 141) #[] #[]), 2⟩, ⟨.int .u8 4, (.func (.func 141) #[] #[]), 3⟩, ⟨.int .u8 5, (.func (.func 142) #[] #[]), 4⟩, ⟨.int .u8 6, (.func (.func 143) #[] #[]), 5⟩, ⟨.int .u8 7, (.func (.func 144) #[] #[]), 6⟩, ⟨.int .u8 8, (.func (.func 145) #[] #[]), 7⟩, ⟨.int .u8 9, (.func (.func 146) #[] #[]), 8⟩, ⟨.int .u8 10, (.func (.func 147) #[] #[]), 9⟩, ⟨.int .u8 11, (.func (.func 147) #[] #[]), 10⟩] 11) :: σ)) ?_ ?_
   ·rintro a w ⟨T0, G717, r718, rfl, hG715, H716⟩
    refine qi [3] ⟨qg (m' := 31) fun I j => ?_, yp⟩
    refine jA (key := (.int .u8 a1.Code)) (val := (.func (.func 144) #[] #[])) (ok := true) H716 (i := 4) rfl mt145 un5 rfl rfl (by simp [Go.MapKept.IsKey]) ⟨_, (zx hb321 (zx hb383 (zx hb445 (zx hb507 (zx hb569 (zx hb631 (fnd_yes hb693))))))), .inl ⟨_, rfl, rfl⟩⟩ ?_
    refine qd (j _ _ ?_)
    refine qi [5] ⟨qg (m' := 63) fun I j => ?_, yp⟩
    refine jT (first := []) (captured := []) (vs := [(pt b19)]) en144 rfl rfl (nego_work_code_ok k (St.pk [1, 2, 3, 0, 4] 5 H716 rfl (by decide)) hr695) ?_
    rintro v734 w733 ⟨G730, g735, A736, c737, g738, A739, c740, hG731, rfl, H732⟩
    refine qd (j _ _ (zA (zn (qe ?_))))
    exact ⟨_, _, r694.1, r694.2.1, r694.2.2.1, r694.2.2.2, g735, A736, c737, g738, A739, c740, qf _ ⟨rfl, rfl, yp⟩, ((hG278.trans hG715).trans hG731), (St.pk [0, 1, 2, 3] 5 H732 rfl (by decide)), b⟩
   intro hM714
   refine qq (i := 1) (m' := 2) rfl (qh jO rfl) B E ?_
   refine qq (i := 4) (m' := 18) rfl (qa (pt b19) rfl) B E ?_
   refine qi [0, 2] ⟨?_, ?_, yp⟩
   ·refine qg (m' := 19) fun I j => ?_
    refine qo (vs := []) en80 rfl (zC k H311 hr313) ?_
    rintro v745 w744 ⟨G741, r746, hG742, rfl, H743⟩
    refine qd (j _ _ ?_)
    refine qi [2] ⟨qg (m' := 23) fun I j => ?_, yp⟩
    refine qp H743 (i := 5) rfl qW (qz .u8) ty5 rfl (qd (j _ _ ?_))
    exact hM714 _ _ ⟨_, _, r746, qf _ ⟨rfl, rfl, rfl, rfl, rfl, yp⟩, hG742, (St.pk [4, 1, 2, 3, 0] 7 H743 rfl (by decide))⟩
   refine qg (m' := 22) fun I j => ?_
   refine qp H311 (i := 4) rfl qW (qz .u8) ty5 rfl (qd (j _ _ ?_))
   refine qi [0] ⟨qg (m' := 23) fun I j => ?_, yp⟩
   refine qo (vs := []) en80 rfl (zC k H311 hr313) ?_
   rintro v752 w751 ⟨G748, r753, hG749, rfl, H750⟩
   refine qd (j _ _ ?_)
   exact hM714 _ _ ⟨_, _, r753, qf _ ⟨rfl, rfl, rfl, rfl, rfl, yp⟩, hG749, (St.pk [4, 1, 2, 3, 0] 7 H750 rfl (by decide))⟩
  replace b := ifF b hb693
  rcases qm (a1.Code == 8) with hb755 | hb755
  ·replace b := ifT b hb755
   obtain ⟨r756, hr757, b⟩ := qu b
   refine qF (fuel := 2) (m := 23) (fun a w => ∃ (T0 G1 : _) (r780 : Nat), a = mk 45 (qQ T0 [(4, (pt b9)), (7, (pt b19)), (16, (.map (some r780))), (18, (.int .u8 a1.Code)), (20, (pt b19))]) ∧ GLe G277 G1 ∧ St c G1 w ((.box b9 32 (qv.at_ xT)) :: (.box b19 136 (qA.at_ (Tnego_workV.mk x25 (.slice A28 x26.length c29) (.slice A33 x31.length c34) x36))) :: (.row qC g27 A28 c29 46 x26) :: (.row kI g32 A33 c34 3 x31) :: (.mp r780 [⟨.int .u8 1, (.func (.func 139) #[] #[]), 0⟩, ⟨.int .u8 2, (.func (.func 140) #[] #[]), 1⟩, ⟨.int .u8 3, (.func (.func 141) #[] #[]), 2⟩, ⟨.int .u8 4, (.func (.func 141) #[] #[]), 3⟩, ⟨.int .u8 5, (.func (.func 142) #[] #[]), 4⟩, ⟨.int .u8 6, (.func (.func 143) #[] #[]), 5⟩, ⟨.int .u8 7, (.func (.func 144) #[] #[]), 6⟩, ⟨.int .u8 8, (.func (.func 145) #[] #[]), 7⟩, ⟨.int .u8 9, (.func (.func 146) #[] #[]), 8⟩, ⟨.int .u8 10, (.func (.func 147) #[] #[]), 9⟩, ⟨.int .u8 11, (.func (.func 147) #[] #[]), 10⟩] 11) :: σ)) ?_ ?_
   ·rintro a w ⟨T0, G779, r780, rfl, hG777, H778⟩
    refine qi [3] ⟨qg (m' := 31) fun I j => ?_, yp⟩
    refine jA (key := (.int .u8 a1.Code)) (val := (.func (.func 145) #[] #[])) (ok := true) H778 (i := 4) rfl mt145 un5 rfl rfl (by simp [Go.MapKept.IsKey]) ⟨_, (zx hb321 (zx hb383 (zx hb445 (zx hb507 (zx hb569 (zx hb631 (zx hb693 (fnd_yes hb755)))))))), .inl ⟨_, rfl, rfl⟩⟩ ?_
    refine qd (j _ _ ?_)
    refine qi [5] ⟨qg (m' := 63) fun I j => ?_, yp⟩
    refine jT (first := []) (captured := []) (vs := [(pt b19)]) en145 rfl rfl (nego_work_proto_ok k (St.pk [1, 2, 3, 0, 4] 5 H778 rfl (by decide)) hr757) ?_
    rintro v796 w795 ⟨G792, g797, A798, c799, g800, A801, c802, hG793, rfl, H794⟩
    refine qd (j _ _ (zA (zn (qe ?_))))
    exact ⟨_, _, r756.1, r756.2.1, r756.2.2.1, r756.2.2.2, g797, A798, c799, g800, A801, c802, qf _ ⟨rfl, rfl, yp⟩, ((hG278.trans hG777).trans hG793), (St.pk [0, 1, 2, 3] 5 H794 rfl (by decide)), b⟩
   intro hM776
   refine qq (i := 1) (m' := 2) rfl (qh jO rfl) B E ?_
   refine qq (i := 4) (m' := 18) rfl (qa (pt b19) rfl) B E ?_
   refine qi [0, 2] ⟨?_, ?_, yp⟩
   ·refine qg (m' := 19) fun I j => ?_
    refine qo (vs := []) en80 rfl (zC k H311 hr313) ?_
    rintro v807 w806 ⟨G803, r808, hG804, rfl, H805⟩
    refine qd (j _ _ ?_)
    refine qi [2] ⟨qg (m' := 23) fun I j => ?_, yp⟩
    refine qp H805 (i := 5) rfl qW (qz .u8) ty5 rfl (qd (j _ _ ?_))
    exact hM776 _ _ ⟨_, _, r808, qf _ ⟨rfl, rfl, rfl, rfl, rfl, yp⟩, hG804, (St.pk [4, 1, 2, 3, 0] 7 H805 rfl (by decide))⟩
   refine qg (m' := 22) fun I j => ?_
   refine qp H311 (i := 4) rfl qW (qz .u8) ty5 rfl (qd (j _ _ ?_))
   refine qi [0] ⟨qg (m' := 23) fun I j => ?_, yp⟩
   refine qo (vs := []) en80 rfl (zC k H311 hr313) ?_
   rintro v814 w813 ⟨G810, r815, hG811, rfl, H812⟩
   refine qd (j _ _ ?_)
   exact hM776 _ _ ⟨_, _, r815, qf _ ⟨rfl, rfl, rfl, rfl, rfl, yp⟩, hG811, (St.pk [4, 1, 2, 3, 0] 7 H812 rfl (by decide))⟩
  replace b := ifF b hb755
  rcases qm (a1.Code == 9) with hb817 | hb817
  ·replace b := ifT b hb817
   obtain ⟨r818, hr819, b⟩ := qu b
   refine qF (fuel := 2) (m := 23) (fun a w => ∃ (T0 G1 : _) (r842 : Nat), a = mk 45 (qQ T0 [(4, (pt b9)), (7, (pt b19)), (16, (.map (some r842))), (18, (.int .u8 a1.Code)), (20, (pt b19))]) ∧ GLe G277 G1 ∧ St c G1 w ((.box b9 32 (qv.at_ xT)) :: (.box b19 136 (qA.at_ (Tnego_workV.mk x25 (.slice A28 x26.length c29) (.slice A33 x31.length c34) x36))) :: (.row qC g27 A28 c29 46 x26) :: (.row kI g32 A33 c34 3 x31) :: (.mp r842 [⟨.int .u8 1, (.func (.func 139) #[] #[]), 0⟩, ⟨.int .u8 2, (.func (.func 140) #[] #[]), 1⟩, ⟨.int .u8 3, (.func (.func 141) #[] #[]), 2⟩, ⟨.int .u8 4, (.func (.func 141) #[] #[]), 3⟩, ⟨.int .u8 5, (.func (.func 142) #[] #[]), 4⟩, ⟨.int .u8 6, (.func (.func 143) #[] #[]), 5⟩, ⟨.int .u8 7, (.func (.func 144) #[] #[]), 6⟩, ⟨.int .u8 8, (.func (.func 145) #[] #[]), 7⟩, ⟨.int .u8 9, (.func (.func 146) #[] #[]), 8⟩, ⟨.int .u8 10, (.func (.func 147) #[] #[]), 9⟩, ⟨.int .u8 11, (.func (.func 147) #[] #[]), 10⟩] 11) :: σ)) ?_ ?_
   ·rintro a w ⟨T0, G841, r842, rfl, hG839, H840⟩
    refine qi [3] ⟨qg (m' := 31) fun I j => ?_, yp⟩
    refine jA (key := (.int .u8 a1.Code)) (val := (.func (.func 146) #[] #[])) (ok := true) H840 (i := 4) rfl mt145 un5 rfl rfl (by simp [Go.MapKept.IsKey]) ⟨_, (zx hb321 (zx hb383 (zx hb445 (zx hb507 (zx hb569 (zx hb631 (zx hb693 (zx hb755 (fnd_yes hb817))))))))), .inl ⟨_, rfl, rfl⟩⟩ ?_
    refine qd (j _ _ ?_)
    refine qi [5] ⟨qg (m' := 63) fun I j => ?_, yp⟩
    refine jT (first := []) (captured := []) (vs := [(pt b19)]) en146 rfl rfl (nego_work_echo_ok k (St.pk [1, 2, 3, 0, 4] 5 H840 rfl (by decide)) hr819) ?_
    rintro v858 w857 ⟨G854, g859, A860, c861, g862, A863, c864, hG855, rfl, H856⟩
    refine qd (j _ _ (zA (zn (qe ?_))))
    exact ⟨_, _, r818.1, r818.2.1, r818.2.2.1, r818.2.2.2, g859, A860, c861, g862, A863, c864, qf _ ⟨rfl, rfl, yp⟩, ((hG278.trans hG839).trans hG855), (St.pk [0, 1, 2, 3] 5 H856 rfl (by decide)), b⟩
   intro hM838
   refine qq (i := 1) (m' := 2) rfl (qh jO rfl) B E ?_
   refine qq (i := 4) (m' := 18) rfl (qa (pt b19) rfl) B E ?_
   refine qi [0, 2] ⟨?_, ?_, yp⟩
   ·refine qg (m' := 19) fun I j => ?_
    refine qo (vs := []) en80 rfl (zC k H311 hr313) ?_
    rintro v869 w868 ⟨G865, r870, hG866, rfl, H867⟩
    refine qd (j _ _ ?_)
    refine qi [2] ⟨qg (m' := 23) fun I j => ?_, yp⟩
    refine qp H867 (i := 5) rfl qW (qz .u8) ty5 rfl (qd (j _ _ ?_))
    exact hM838 _ _ ⟨_, _, r870, qf _ ⟨rfl, rfl, rfl, rfl, rfl, yp⟩, hG866, (St.pk [4, 1, 2, 3, 0] 7 H867 rfl (by decide))⟩
   refine qg (m' := 22) fun I j => ?_
   refine qp H311 (i := 4) rfl qW (qz .u8) ty5 rfl (qd (j _ _ ?_))
   refine qi [0] ⟨qg (m' := 23) fun I j => ?_, yp⟩
   refine qo (vs := []) en80 rfl (zC k H311 hr313) ?_
   rintro v876 w875 ⟨G872, r877, hG873, rfl, H874⟩
   refine qd (j _ _ ?_)
   exact hM838 _ _ ⟨_, _, r877, qf _ ⟨rfl, rfl, rfl, rfl, rfl, yp⟩, hG873, (St.pk [4, 1, 2, 3, 0] 7 H874 rfl (by decide))⟩
  replace b := ifF b hb817
  rcases qm (a1.Code == 10) with hb879 | hb879
  ·replace b := ifT b hb879
   obtain ⟨r880, hr881, b⟩ := qu b
   refine qF (fuel := 2) (m := 23) (fun a w => ∃ (T0 G1 : _) (r904 : Nat), a = mk 45 (qQ T0 [(4, (pt b9)), (7, (pt b19)), (16, (.map (some r904))), (18, (.int .u8 a1.Code)), (20, (pt b19))]) ∧ GLe G277 G1 ∧ St c G1 w ((.box b9 32 (qv.at_ xT)) :: (.box b19 136 (qA.at_ (Tnego_workV.mk x25 (.slice A28 x26.length c29) (.slice A33 x31.length c34) x36))) :: (.row qC g27 A28 c29 46 x26) :: (.row kI g32 A33 c34 3 x31) :: (.mp r904 [⟨.int .u8 1, (.func (.func 139) #[] #[]), 0⟩, ⟨.int .u8 2, (.func (.func 140) #[] #[]), 1⟩, ⟨.int .u8 3, (.func (.func 141) #[] #[]), 2⟩, ⟨.int .u8 4, (.func (.func 141) #[] #[]), 3⟩, ⟨.int .u8 5, (.func (.func 142) #[] #[]), 4⟩, ⟨.int .u8 6, (.func (.func 143) #[] #[]), 5⟩, ⟨.int .u8 7, (.func (.func 144) #[] #[]), 6⟩, ⟨.int .u8 8, (.func (.func 145) #[] #[]), 7⟩, ⟨.int .u8 9, (.func (.func 146) #[] #[]), 8⟩, ⟨.int .u8 10, (.func (.func 147) #[] #[]), 9⟩, ⟨.int .u8 11, (.func (.func 147) #[] #[]), 10⟩] 11) :: σ)) ?_ ?_
   ·rintro a w ⟨T0, G903, r904, rfl, hG901, H902⟩
    refine qi [3] ⟨qg (m' := 31) fun I j => ?_, yp⟩
    refine jA (key := (.int .u8 a1.Code)) (val := (.func (.func 147) #[] #[])) (ok := true) H902 (i := 4) rfl mt145 un5 rfl rfl (by simp [Go.MapKept.IsKey]) ⟨_, (zx hb321 (zx hb383 (zx hb445 (zx hb507 (zx hb569 (zx hb631 (zx hb693 (zx hb755 (zx hb817 (fnd_yes hb879)))))))))), .inl ⟨_, rfl, rfl⟩⟩ ?_
    refine qd (j _ _ ?_)
    refine qi [5] ⟨qg (m' := 63) fun I j => ?_, yp⟩
    refine jT (first := []) (captured := []) (vs := [(pt b19)]) en147 rfl rfl (nego_work_nothing_ok k (St.pk [1, 2, 3, 0, 4] 5 H902 rfl (by decide)) hr881) ?_
    rintro v920 w919 ⟨G916, g921, A922, c923, g924, A925, c926, hG917, rfl, H918⟩
    refine qd (j _ _ (zA (zn (qe ?_))))
    exact ⟨_, _, r880.1, r880.2.1, r880.2.2.1, r880.2.2.2, g921, A922, c923, g924, A925, c926, qf _ ⟨rfl, rfl, yp⟩, ((hG278.trans hG901).trans hG917), (St.pk [0, 1, 2, 3] 5 H918 rfl (by decide)), b⟩
   intro hM900
   refine qq (i := 1) (m' := 2) rfl (qh jO rfl) B E ?_
   refine qq (i := 4) (m' := 18) rfl (qa (pt b19) rfl) B E ?_
   refine qi [0, 2] ⟨?_, ?_, yp⟩
   ·refine qg (m' := 19) fun I j => ?_
    refine qo (vs := []) en80 rfl (zC k H311 hr313) ?_
    rintro v931 w930 ⟨G927, r932, hG928, rfl, H929⟩
    refine qd (j _ _ ?_)
    refine qi [2] ⟨qg (m' := 23) fun I j => ?_, yp⟩
    refine qp H929 (i := 5) rfl qW (qz .u8) ty5 rfl (qd (j _ _ ?_))
    exact hM900 _ _ ⟨_, _, r932, qf _ ⟨rfl, rfl, rfl, rfl, rfl, yp⟩, hG928, (St.pk [4, 1, 2, 3, 0] 7 H929 rfl (by decide))⟩
   refine qg (m' := 22) fun I j => ?_
   refine qp H311 (i := 4) rfl qW (qz .u8) ty5 rfl (qd (j _ _ ?_))
   refine qi [0] ⟨qg (m' := 23) fun I j => ?_, yp⟩
   refine qo (vs := []) en80 rfl (zC k H311 hr313) ?_
   rintro v938 w937 ⟨G934, r939, hG935, rfl, H936⟩
   refine qd (j _ _ ?_)
   exact hM900 _ _ ⟨_, _, r939, qf _ ⟨rfl, rfl, rfl, rfl, rfl, yp⟩, hG935, (St.pk [4, 1, 2, 3, 0] 7 H936 rfl (by decide))⟩
  replace b := ifF b hb879
  rcases qm (a1.Code == 11) with hb941 | hb941
  ·replace b := ifT b hb941
   obtain ⟨r942, hr943, b⟩ := qu b
   refine qF (fuel := 2) (m := 23) (fun a w => ∃ (T0 G1 : _) (r966 : Nat), a = mk 45 (qQ T0 [(4, (pt b9)), (7, (pt b19)), (16, (.map (some r966))), (18, (.int .u8 a1.Code)), (20, (pt b19))]) ∧ GLe G277 G1 ∧ St c G1 w ((.box b9 32 (qv.at_ xT)) :: (.box b19 136 (qA.at_ (Tnego_workV.mk x25 (.slice A28 x26.length c29) (.slice A33 x31.length c34) x36))) :: (.row qC g27 A28 c29 46 x26) :: (.row kI g32 A33 c34 3 x31) :: (.mp r966 [⟨.int .u8 1, (.func (.func 139) #[] #[]), 0⟩, ⟨.int .u8 2, (.func (.func 140) #[] #[]), 1⟩, ⟨.int .u8 3, (.func (.func 141) #[] #[]), 2⟩, ⟨.int .u8 4, (.func (.func 141) #[] #[]), 3⟩, ⟨.int .u8 5, (.func (.func 142) #[] #[]), 4⟩, ⟨.int .u8 6, (.func (.func 143) #[] #[]), 5⟩, ⟨.int .u8 7, (.func (.func 144) #[] #[]), 6⟩, ⟨.int .u8 8, (.func (.func 145) #[] #[]), 7⟩, ⟨.int .u8 9, (.func (.func 146) #[] #[]), 8⟩, ⟨.int .u8 10, (.func (.func 147) #[] #[]), 9⟩, ⟨.int .u8 11, (.func (.func 147) #[] #[]), 10⟩] 11) :: σ)) ?_ ?_
   ·rintro a w ⟨T0, G965, r966, rfl, hG963, H964⟩
    refine qi [3] ⟨qg (m' := 31) fun I j => ?_, yp⟩
    refine jA (key := (.int .u8 a1.Code)) (val := (.func (.func 147) #[] #[])) (ok := true) H964 (i := 4) rfl mt145 un5 rfl rfl (by simp [Go.MapKept.IsKey]) ⟨_, (zx hb321 (zx hb383 (zx hb445 (zx hb507 (zx hb569 (zx hb631 (zx hb693 (zx hb755 (zx hb817 (zx hb879 (fnd_yes hb941))))))))))), .inl ⟨_, rfl, rfl⟩⟩ ?_
    refine qd (j _ _ ?_)
    refine qi [5] ⟨qg (m' := 63) fun I j => ?_, yp⟩
    refine jT (first := []) (captured := []) (vs := [(pt b19)]) en147 rfl rfl (nego_work_nothing_ok k (St.pk [1, 2, 3, 0, 4] 5 H964 rfl (by decide)) hr943) ?_
    rintro v982 w981 ⟨G978, g983, A984, c985, g986, A987, c988, hG979, rfl, H980⟩
    refine qd (j _ _ (zA (zn (qe ?_))))
    exact ⟨_, _, r942.1, r942.2.1, r942.2.2.1, r942.2.2.2, g983, A984, c985, g986, A987, c988, qf _ ⟨rfl, rfl, yp⟩, ((hG278.trans hG963).trans hG979), (St.pk [0, 1, 2, 3] 5 H980 rfl (by decide)), b⟩
   intro hM962
   refine qq (i := 1) (m' := 2) rfl (qh jO rfl) B E ?_
   refine qq (i := 4) (m' := 18) rfl (qa (pt b19) rfl) B E ?_
   refine qi [0, 2] ⟨?_, ?_, yp⟩
   ·refine qg (m' := 19) fun I j => ?_
    refine qo (vs := []) en80 rfl (zC k H311 hr313) ?_
    rintro v993 w992 ⟨G989, r994, hG990, rfl, H991⟩
    refine qd (j _ _ ?_)
    refine qi [2] ⟨qg (m' := 23) fun I j => ?_, yp⟩
    refine qp H991 (i := 5) rfl qW (qz .u8) ty5 rfl (qd (j _ _ ?_))
    exact hM962 _ _ ⟨_, _, r994, qf _ ⟨rfl, rfl, rfl, rfl, rfl, yp⟩, hG990, (St.pk [4, 1, 2, 3, 0] 7 H991 rfl (by decide))⟩
   refine qg (m' := 22) fun I j => ?_
   refine qp H311 (i := 4) rfl qW (qz .u8) ty5 rfl (qd (j _ _ ?_))
   refine qi [0] ⟨qg (m' := 23) fun I j => ?_, yp⟩
   refine qo (vs := []) en80 rfl (zC k H311 hr313) ?_
   rintro v1000 w999 ⟨G996, r1001, hG997, rfl, H998⟩
   refine qd (j _ _ ?_)
   exact hM962 _ _ ⟨_, _, r1001, qf _ ⟨rfl, rfl, rfl, rfl, rfl, yp⟩, hG997, (St.pk [4, 1, 2, 3, 0] 7 H998 rfl (by decide))⟩
  replace b := ifF b hb941
  exact noneF b
 refine wp_seq (qc (qb (qh fo32_1 rfl) (qb (qh fo29_0 rfl) (qp H20 (i := 3) rfl (Lens.then ym xO) dBool ty4 rfl (qd (qe ?_))))))
 rcases qm a0.R.Ip with hb1003 | hb1003
 ·replace b := ifT b hb1003
  refine qs (vb hb1003) (qc (qb (qa (.int .u16 32801) rfl) (qd ?_)))
  have H1004 := H20.nilrow qC none 46
  have H1006 := H1004.nilrow kI none 3
  refine qe ?_
  exact ⟨_, _, 32801, a0, ([] : (List TPkt)), ([] : (List Int)), a1, none, none, 0, none, none, 0, qf _ ⟨rfl, rfl, rfl, rfl, rfl, yp⟩, GLe.refl _, (St.pk [2, 1, 0, 3, 4, 5] 6 H1006 rfl (by decide)), b⟩
 replace b := ifF b hb1003
 refine qn (vb hb1003) (wp_skip ?_)
 have H1008 := H20.nilrow qC none 46
 have H1010 := H1008.nilrow kI none 3
 refine qe ?_
 exact ⟨_, _, 49185, a0, ([] : (List TPkt)), ([] : (List Int)), a1, none, none, 0, none, none, 0, qf _ ⟨rfl, rfl, rfl, rfl, rfl, yp⟩, GLe.refl _, (St.pk [2, 1, 0, 3, 4, 5] 6 H1010 rfl (by decide)), b⟩

theorem auto_Tick_ok {c : World} (k : Hc c) {G : qk} {w : World} {σ : List Ent} {a0 : TAuto} {v0_ : Value} (h0_ : za.V G v0_ a0) (H : St c G w (σ)) {r : (TAuto × (List Int))} (b : auto_Tick a0 = some r) :
  Calls Tryz.prog 76 ([v0_] : List Value).toArray w (zu fun v w' => ∃ (G' : qk) (v1' : Value) (A2' : Option Addr) (c3' : Nat), GLe G G' ∧ tup [v1', (.slice A2' r.2.length c3')] = v ∧ St c G' w' (σ) ∧ za.V G' v1' r.1 ∧ SlR kI G' A2' c3' r.2) := by
 unfold auto_Tick at b
 refine qG Tryz.func76 rfl rfl rfl (wp_seq (qc ?_))
 refine zp (K := za) (x := a0) H rfl h0_ ?_
 intro b1 w4 H2
 refine qP H2 zr26 ?_
 intro b5 w8 H6
 refine qb (qa (.slice none 0 0) rfl) (qd (qe (wp_seq (wp_seq (qc (qb (qh fo26_2 rfl) (qp H6 (i := 1) rfl zM (qz .i64) ty3 rfl (qb (qa (.bool (a0.Left == 0)) rfl) (qd (qe ?_))))))))))
 rcases qm (a0.Left == 0) with hb9 | hb9
 ·replace b := ifT b hb9
  refine qs (vb hb9) (wp_seq (qc ?_))
  refine ql H6 (i := 1) rfl (Lens.id za) xA rfl ?_
  intro v10 hv11
  refine qy (z := a0) H6 (i := 0) rfl (Lens.id za) xA rfl rfl hv11 ?_
  intro w13 H12
  refine qb (qa (.slice none 0 0) rfl) (qd (qe (wp_ret (qI ?_))))
  obtain ⟨v14, hv15, hl16⟩ := H12.loadv (i := 0) rfl xA
  have b := yq b
  subst b
  exact qt rfl (RV.cell rfl hl16 (RV.tmp rfl RV.nil)) ⟨_, v14, none, 0, GLe.refl _, rfl, (St.pk [] 2 H12 rfl (by decide)), hv15, (SlR.nil _ _)⟩
 replace b := ifF b hb9
 refine qn (vb hb9) (wp_skip (qe (wp_seq (qc (qb (qh fo26_2 rfl) (qp H6 (i := 1) rfl zM (qz .i64) ty3 rfl (qb (qa (.int .i64 (IntKind.i64.wrap (a0.Left - 1))) rfl) (qb (qh fo26_2 rfl) ?_))))))))
 refine qy (z := (IntKind.i64.wrap (a0.Left - 1))) H6 (i := 1) rfl zM ty3 rfl rfl ((qz .i64).toV _ _) ?_
 intro w18 H17
 refine qd (qe (wp_seq (wp_seq (qc (qb (qh fo26_2 rfl) (qp H17 (i := 1) rfl zM (qz .i64) ty3 rfl (qb (qa (.bool (decide ((IntKind.i64.wrap (a0.Left - 1)) > 0))) rfl) (qd (qe ?_)))))))))
 rcases qm (decide ((IntKind.i64.wrap (a0.Left - 1)) > 0)) with hb19 | hb19
 ·replace b := ifT b hb19
  refine qs (vb hb19) (wp_seq (qc ?_))
  refine ql H17 (i := 1) rfl (Lens.id za) xA rfl ?_
  intro v20 hv21
  refine qy (z := (TAuto.mk a0.State a0.Count (IntKind.i64.wrap (a0.Left - 1)) a0.Id)) H17 (i := 0) rfl (Lens.id za) xA rfl rfl hv21 ?_
  intro w23 H22
  refine qb (qa (.slice none 0 0) rfl) (qd (qe (wp_ret (qI ?_))))
  obtain ⟨v24, hv25, hl26⟩ := H22.loadv (i := 0) rfl xA
  have b := yq b
  subst b
  exact qt rfl (RV.cell rfl hl26 (RV.tmp rfl RV.nil)) ⟨_, v24, none, 0, GLe.refl _, rfl, (St.pk [] 2 H22 rfl (by decide)), hv25, (SlR.nil _ _)⟩
 replace b := ifF b hb19
 refine qn (vb hb19) (wp_skip (qe (wp_seq (qc (qb (qa (.int .i64 5) rfl) (qd (qe ?_)))))))
 refine wp_seq (join (fun a w => ∃ (T0 G1 : _) (x28 : Int), a = mk 32 (qQ T0 [(1, (pt b1)), (2, (pt b5)), (4, (.int .i64 x28))]) ∧ GLe G G1 ∧ St c G1 w ((.box b5 26 (za.at_ zTAuto)) :: (.box b1 26 (za.at_ (TAuto.mk a0.State a0.Count (IntKind.i64.wrap (a0.Left - 1)) a0.Id))) :: σ) ∧ auto_Tick_j1 a0 x28 = some r) ?_ ?_)
 ·rintro a w ⟨T0, G31, x28, rfl, hG29, H30, b⟩
  refine wp_seq (qc ?_)
  refine ql H30 (i := 1) rfl (Lens.id za) xA rfl ?_
  intro v32 hv33
  refine qb (qa (.int .i64 x28) rfl) ?_
  obtain ⟨r34, hr35, b⟩ := qu b
  refine qo (vs := [v32, (.int .i64 x28)]) en135 rfl (auto_Do_ok k hv33 H30 hr35) ?_
  rintro v40 w39 ⟨G36, v41, A43, c44, hG37, rfl, H38, hv42, hs45⟩
  refine qb (qa (.tuple #[v41, (.slice A43 r34.2.1.length c44), (.int .i64 r34.2.2)]) rfl) (qb (qa v41 rfl) (qb (qa (.slice A43 r34.2.1.length c44) rfl) (qb (qa (.int .i64 r34.2.2) rfl) ?_)))
  refine qP H38 zr26 ?_
  intro b46 w49 H47
  refine qy (z := r34.1) H47 (i := 0) rfl (Lens.id za) xA rfl rfl hv42 ?_
  intro w51 H50
  refine qb (qa (.slice A43 r34.2.1.length c44) rfl) (qb (qa (.int .i64 r34.2.2) rfl) (qd (qe (wp_seq (qc ?_)))))
  refine ql H50 (i := 0) rfl (Lens.id za) xA rfl ?_
  intro v52 hv53
  refine qb (qa (.slice A43 r34.2.1.length c44) rfl) ?_
  refine qy (z := r34.1) H50 (i := 1) rfl (Lens.id za) xA rfl rfl hv53 ?_
  intro w55 H54
  refine qb (qa (.slice A43 r34.2.1.length c44) rfl) (qd (qe (wp_ret ?_)))
  obtain ⟨v56, hv57, hl58⟩ := H54.loadv (i := 1) rfl xA
  have b := yq b
  subst b
  exact qt rfl (RV.cell rfl hl58 (RV.tmp rfl RV.nil)) ⟨_, v56, A43, c44, (hG29.trans hG37), rfl, (St.pk [] 3 H54 rfl (by decide)), hv57, hs45⟩
 refine wp_seq (qc (qb (qh fo26_1 rfl) (qp H17 (i := 1) rfl jF (qz .i64) ty3 rfl (qb (qa (.bool (decide (a0.Count > 0))) rfl) (qd (qe ?_))))))
 rcases qm (decide (a0.Count > 0)) with hb59 | hb59
 ·replace b := ifT b hb59
  refine qs (vb hb59) (qc (qb (qa (.int .i64 4) rfl) (qd (qe ?_))))
  exact ⟨_, _, 4, qf _ ⟨rfl, rfl, rfl, yp⟩, GLe.refl _, H17, b⟩
 replace b := ifF b hb59
 refine qn (vb hb59) (wp_skip (qe ?_))
 exact ⟨_, _, 5, qf _ ⟨rfl, rfl, rfl, yp⟩, GLe.refl _, H17, b⟩

theorem nego_Tick_ok {c : World} (k : Hc c) {G : qk} {w : World} {σ : List Ent} {a0 : TNego} {v0_ : Value} (h0_ : qv.V G v0_ a0) (H : St c G w (σ)) {r : (TNego × (List TPkt) × (List Int))} (b : nego_Tick a0 = some r) :
  Calls Tryz.prog 28 ([v0_] : List Value).toArray w (zu fun v w' => ∃ (G' : qk) (v1' : Value) (A2' : Option Addr) (c3' : Nat) (A4' : Option Addr) (c5' : Nat), GLe G G' ∧ tup [v1', (.slice A2' r.2.1.length c3'), (.slice A4' r.2.2.length c5')] = v ∧ St c G' w' (σ) ∧ qv.V G' v1' r.1 ∧ SlR qC G' A2' c3' r.2.1 ∧ SlR kI G' A4' c5' r.2.2) := by
 unfold nego_Tick at b
 refine qG Tryz.func28 rfl rfl rfl (wp_seq (qc ?_))
 refine zp (K := qv) (x := a0) H rfl h0_ ?_
 intro b1 w4 H2
 refine qP H2 zr32 ?_
 intro b5 w8 H6
 iterate 2 refine qb (qa (.slice none 0 0) rfl) ?_
 refine qd (qe (wp_seq (qc ?_)))
 refine ql H6 (i := 1) rfl (Lens.id qv) zG rfl ?_
 intro v9 hv10
 refine qR (qT (G := G) zr136V rfl bs136 rfl (Parts.cons jH qH hv10 (Parts.nil _))) ?_
 intro v11 hv12
 refine zp (K := qA) (x := (Tnego_workV.mk a0 (.slice none 0 0) (.slice none 0 0) zj)) H6 rfl hv12 ?_
 intro b13 w16 H14
 refine qb (qa (pt b13) rfl) (qd (qe (wp_seq (qc (qb (qh xe rfl) ?_)))))
 refine ql H14 (i := 2) rfl zq xA rfl ?_
 intro v17 hv18
 obtain ⟨r19, hr20, b⟩ := qu b
 refine qo (vs := [v17]) en76 rfl (auto_Tick_ok k hv18 H14 hr20) ?_
 rintro v25 w24 ⟨G21, v26, A28, c29, hG22, rfl, H23, hv27, hs30⟩
 refine qb (qa (.tuple #[v26, (.slice A28 r19.2.length c29)]) rfl) (qb (qa v26 rfl) (qb (qa (.slice A28 r19.2.length c29) rfl) ?_))
 refine qP H23 zr26 ?_
 intro b31 w34 H32
 refine qy (z := r19.1) H32 (i := 0) rfl (Lens.id za) xA rfl rfl hv27 ?_
 intro w36 H35
 refine qb (qa (.slice A28 r19.2.length c29) rfl) (qd (qe (wp_seq (qc (qb (qa (pt b13) rfl) ?_)))))
 refine ql H35 (i := 0) rfl (Lens.id za) xA rfl ?_
 intro v37 hv38
 refine qb (qM rfl) (qb (qh jH rfl) (qb (qh xe rfl) ?_))
 refine qy (z := r19.1) H35 (i := 1) rfl (Lens.then qH zq) xA rfl rfl hv38 ?_
 intro w40 H39
 refine qd (qe (wp_seq (qc (qb (qa (pt b13) rfl) (qb (qh xe rfl) (qb (qh fo26_0 rfl) (qp H39 (i := 3) rfl (Lens.then zq zZ) (qz .i64) ty3 rfl (qb (qa (.slice A28 r19.2.length c29) rfl) ?_))))))))
 refine qR (qT (G := G21) zr46 rfl bs46 rfl (Parts.nil _)) ?_
 intro v41 hv42
 have H43 := H39.nilrow qC none 46
 have H45 := H43.nilrow kI none 3
 obtain ⟨r47, hr48, b⟩ := qu b
 refine qo (vs := [(pt b13), (.int .i64 a0.A.State), (.slice A28 r19.2.length c29), v41]) en77 rfl (nego_work_acts_ok k hs30 hv42 (St.pk [3, 1, 0, 2, 4, 5] 6 H45 rfl (by decide)) hr48) ?_
 rintro v53 w52 ⟨G49, g54, A55, c56, g57, A58, c59, hG50, rfl, H51⟩
 refine qd (qe (wp_seq (qc (qb (qa (pt b13) rfl) ?_))))
 obtain ⟨r60, hr61, b⟩ := qu b
 refine qo (vs := [(pt b13)]) en75 rfl (nego_work_told_ok k H51 hr61) ?_
 rintro v66 w65 ⟨G62, v67, A69, c70, A72, c73, hG63, rfl, H64, hv68, hs71, hs74⟩
 refine qb (qa v67 rfl) (qb (qa (.slice A69 r60.2.1.length c70) rfl) (qb (qa (.slice A72 r60.2.2.length c73) rfl) ?_))
 refine qy (z := r60.1) H64 (i := 1) rfl (Lens.id qv) zG rfl rfl hv68 ?_
 intro w76 H75
 refine qb (qa (.slice A69 r60.2.1.length c70) rfl) (qb (qa (.slice A72 r60.2.2.length c73) rfl) (qd (qe (wp_ret ?_))))
 obtain ⟨v77, hv78, hl79⟩ := H75.loadv (i := 1) rfl zG
 have b := yq b
 subst b
 exact qt rfl (RV.cell rfl hl79 (RV.tmp rfl (RV.tmp rfl RV.nil))) ⟨_, v77, A69, c70, A72, c73, ((hG22.trans hG50).trans hG63), rfl, (St.pk [] 3 H75 rfl (by decide)), hv78, hs71, hs74⟩

theorem auto_Right_ok {c : World} (k : Hc c) {G : qk} {w : World} {σ : List Ent} {a0 : TAuto} {v0_ : Value} (h0_ : za.V G v0_ a0) (H : St c G w (σ)) {r : Bool} (b : auto_Right a0 = some r) :
  Calls Tryz.prog 131 ([v0_] : List Value).toArray w (zu fun v w' => ∃ (G' : qk), GLe G G' ∧ tup [(.bool r)] = v ∧ St c G' w' (σ)) := by
 unfold auto_Right at b
 refine qG Tryz.func131 rfl rfl rfl (wp_seq (qc ?_))
 refine zp (K := za) (x := a0) H rfl h0_ ?_
 intro b1 w4 H2
 refine qb (qa (.bool false) rfl) (qd (qe (wp_seq ?_)))
 refine wp_seq (join (fun a w => ∃ (T0 G1 : _) (x8 : Bool), a = mk 35 (qQ T0 [(1, (pt b1)), (20, (.bool x8))]) ∧ GLe G G1 ∧ St c G1 w ((.box b1 26 (za.at_ a0)) :: σ) ∧ auto_Right_j1 a0 x8 = some r) ?_ ?_)
 ·rintro a w ⟨T0, G11, x8, rfl, hG9, H10, b⟩
  rcases qm x8 with hb12 | hb12
  ·replace b := ifT b hb12
   refine qs (vb hb12) (wp_seq (qc (qb (qa (.bool false) rfl) (qd (qe (wp_ret (qI ?_)))))))
   have b := yq b
   subst b
   exact qt rfl (RV.tmp rfl RV.nil) ⟨_, hG9, rfl, (St.pk [] 1 H10 rfl (by decide))⟩
  replace b := ifF b hb12
  refine qn (vb hb12) (wp_skip (qe (wp_seq (wp_seq (qc (qb (qh fo26_0 rfl) (qp H10 (i := 0) rfl zZ (qz .i64) ty3 rfl ?_)))))))
  obtain ⟨r13, hr14, b⟩ := qu b
  refine qo (vs := [(.int .i64 a0.State)]) en180 rfl (fsm_Timed_ok k H10 hr14) ?_
  rintro v19 w18 ⟨G15, hG16, rfl, H17⟩
  refine qd (qe ?_)
  rcases qm r13 with hb20 | hb20
  ·replace b := ifT b hb20
   refine qs (vb hb20) (wp_seq (qc (qb (qh fo26_2 rfl) (qp H17 (i := 0) rfl zM (qz .i64) ty3 rfl ?_))))
   iterate 2 refine qb (qa (.bool (decide (a0.Left ≥ 1))) rfl) ?_
   rcases qm (decide (a0.Left ≥ 1)) with hb21 | hb21
   ·replace b := ifT b hb21
    refine qj rfl rfl rfl (vb hb21) (qb (qh fo26_2 rfl) (qj rfl rfl rfl (vb hb21) (qp H17 (i := 0) rfl zM (qz .i64) ty3 rfl (qj rfl rfl rfl (vb hb21) (qb (qa (.bool (decide (a0.Left ≤ 3))) rfl) (qb (qB (.bool (decide (a0.Left ≤ 3))) (vb hb21) rfl) (qb (qa (.bool (decide (a0.Left ≤ 3))) rfl) (qd (qe (wp_ret ?_))))))))))
    refine qI ?_
    have b := yq b
    subst b
    exact qt rfl (RV.tmp rfl RV.nil) ⟨_, (hG9.trans hG16), rfl, (St.pk [] 1 H17 rfl (by decide))⟩
   replace b := ifF b hb21
   iterate 3 refine qJ rfl rfl rfl (vb hb21) ?_
   refine qb (qr (.bool false) (vb hb21) rfl) (qb (qa (.bool false) rfl) (qd (qe (wp_ret (qI ?_)))))
   have b := yq b
   subst b
   exact qt rfl (RV.tmp rfl RV.nil) ⟨_, (hG9.trans hG16), rfl, (St.pk [] 1 H17 rfl (by decide))⟩
  replace b := ifF b hb20
  refine qn (vb hb20) (wp_skip (qe (wp_seq (qc (qb (qh fo26_2 rfl) (qp H17 (i := 0) rfl zM (qz .i64) ty3 rfl ?_))))))
  iterate 2 refine qb (qa (.bool (a0.Left == 0)) rfl) ?_
  refine qd (qe (wp_ret ?_))
  have b := yq b
  subst b
  exact qt rfl (RV.tmp rfl RV.nil) ⟨_, (hG9.trans hG16), rfl, (St.pk [] 1 H17 rfl (by decide))⟩
 refine qc (qb (qh fo26_0 rfl) (qp H2 (i := 0) rfl zZ (qz .i64) ty3 rfl ?_))
 iterate 2 refine qb (qa (.bool (decide (a0.State < 0))) rfl) ?_
 rcases qm (decide (a0.State < 0)) with hb22 | hb22
 ·replace b := ifT b hb22
  iterate 3 refine qJ rfl rfl rfl (vb hb22) ?_
  refine qb (qB (.bool true) (vb hb22) rfl) (qb (qa (.bool true) rfl) ?_)
  iterate 3 refine qJ rfl rfl rfl rfl ?_
  refine qb (qB (.bool true) rfl rfl) (qb (qa (.bool true) rfl) ?_)
  iterate 3 refine qJ rfl rfl rfl rfl ?_
  refine qb (qB (.bool true) rfl rfl) (qd (qe ?_))
  exact ⟨_, _, true, qf _ ⟨rfl, rfl, yp⟩, GLe.refl _, H2, b⟩
 replace b := ifF b hb22
 refine qj rfl rfl rfl (vb hb22) (qb (qh fo26_0 rfl) (qj rfl rfl rfl (vb hb22) (qp H2 (i := 0) rfl zZ (qz .i64) ty3 rfl (qj rfl rfl rfl (vb hb22) (qb (qa (.bool (decide (a0.State ≥ 10))) rfl) (qb (qr (.bool (decide (a0.State ≥ 10))) (vb hb22) rfl) (qb (qa (.bool (decide (a0.State ≥ 10))) rfl) ?_)))))))
 rcases qm (decide (a0.State ≥ 10)) with hb23 | hb23
 ·replace b := ifT b hb23
  iterate 3 refine qJ rfl rfl rfl (vb hb23) ?_
  refine qb (qB (.bool true) (vb hb23) rfl) (qb (qa (.bool true) rfl) ?_)
  iterate 3 refine qJ rfl rfl rfl rfl ?_
  refine qb (qB (.bool true) rfl rfl) (qd (qe ?_))
  exact ⟨_, _, true, qf _ ⟨rfl, rfl, yp⟩, GLe.refl _, H2, b⟩
 replace b := ifF b hb23
 refine qj rfl rfl rfl (vb hb23) (qb (qh fo26_1 rfl) (qj rfl rfl rfl (vb hb23) (qp H2 (i := 0) rfl jF (qz .i64) ty3 rfl (qj rfl rfl rfl (vb hb23) (qb (qa (.bool (decide (a0.Count < 0))) rfl) (qb (qr (.bool (decide (a0.Count < 0))) (vb hb23) rfl) (qb (qa (.bool (decide (a0.Count < 0))) rfl) ?_)))))))
 rcases qm (decide (a0.Count < 0)) with hb24 | hb24
 ·replace b := ifT b hb24
  iterate 3 refine qJ rfl rfl rfl (vb hb24) ?_
  refine qb (qB (.bool true) (vb hb24) rfl) (qd (qe ?_))
  exact ⟨_, _, true, qf _ ⟨rfl, rfl, yp⟩, GLe.refl _, H2, b⟩
 replace b := ifF b hb24
 refine qj rfl rfl rfl (vb hb24) (qb (qh fo26_1 rfl) (qj rfl rfl rfl (vb hb24) (qp H2 (i := 0) rfl jF (qz .i64) ty3 rfl (qj rfl rfl rfl (vb hb24) (qb (qa (.bool (decide (a0.Count > 5))) rfl) (qb (qr (.bool (decide (a0.Count > 5))) (vb hb24) rfl) (qd (qe ?_))))))))
 exact ⟨_, _, (decide (a0.Count > 5)), qf _ ⟨rfl, rfl, yp⟩, GLe.refl _, H2, b⟩

theorem nego_Right_1_ok {c : World} (k : Hc c) {G : qk} {w : World} {σ : List Ent} {a0 : TOpt} {v0_ : Value} (h0_ : qx.V G v0_ a0) (H : St c G w (σ)) {r : Bool} (b : nego_Right_1 a0 = some r) :
  Calls Tryz.prog 130 ([v0_] : List Value).toArray w (zu fun v w' => ∃ (G' : qk), GLe G G' ∧ tup [(.bool r)] = v ∧ St c G' w' (σ)) := by
 unfold nego_Right_1 at b
 refine qG Tryz.func130 rfl rfl rfl (wp_seq (qc ?_))
 refine zp (K := qx) (x := a0) H rfl h0_ ?_
 intro b1 w4 H2
 refine qb (qa (.bool false) rfl) (qd (qe (wp_seq (qc (qb (qh jc rfl) (qp H2 (i := 0) rfl qX (qz .u8) ty5 rfl ?_))))))
 iterate 2 refine qb (qa (.bool (a0.Typ == 5)) rfl) ?_
 rcases qm (a0.Typ == 5) with hb5 | hb5
 ·replace b := ifT b hb5
  refine qj rfl rfl rfl (vb hb5) (qb (qh jp rfl) (qj rfl rfl rfl (vb hb5) ?_))
  refine ql H2 (i := 0) rfl qZ jy rfl ?_
  intro v6 hv7
  obtain ⟨A8, c9, rfl, hs10⟩ := qN hv7
  refine qj rfl rfl rfl (vb hb5) (qb (zb zJ rfl) (qj rfl rfl rfl (vb hb5) (qb (qa (.bool ((a0.Data.length : Int) != 4)) rfl) (qb (qB (.bool ((a0.Data.length : Int) != 4)) (vb hb5) rfl) (qb (qa (.bool ((a0.Data.length : Int) != 4)) rfl) (qd (qe (wp_ret ?_))))))))
  have b := yq b
  subst b
  exact qt rfl (RV.tmp rfl RV.nil) ⟨_, GLe.refl _, rfl, (St.pk [] 1 H2 rfl (by decide))⟩
 replace b := ifF b hb5
 iterate 4 refine qJ rfl rfl rfl (vb hb5) ?_
 refine qb (qr (.bool false) (vb hb5) rfl) (qb (qa (.bool false) rfl) (qd (qe (wp_ret ?_))))
 have b := yq b
 subst b
 exact qt rfl (RV.tmp rfl RV.nil) ⟨_, GLe.refl _, rfl, (St.pk [] 1 H2 rfl (by decide))⟩

theorem slices_IndexFunc_Opt_nego_Right_1_ok {c : World} (k : Hc c) {G : qk} {w : World} {σ : List Ent} {a0 : (List TOpt)} {A0_ : Option Addr} {c0_ : Nat} (h0_ : SlR qx G A0_ c0_ a0) (H : St c G w (σ)) {r : Int} (b : slices_IndexFunc_Opt_nego_Right_1 a0 = some r) :
  Calls Tryz.prog 169 ([(.slice A0_ a0.length c0_), (.func (.func 130) #[] #[])] : List Value).toArray w (zu fun v w' => ∃ (G' : qk), GLe G G' ∧ tup [(.int .i64 r)] = v ∧ St c G' w' (σ)) := by
 unfold slices_IndexFunc_Opt_nego_Right_1 at b
 refine qG Tryz.func169 rfl rfl rfl (wp_seq (qc (qb (qa (.int .i64 0) rfl) (qd (qe (wp_seq (wp_seq (qc (qb (qa (.slice A0_ a0.length c0_) rfl) (qb (zb zQ rfl) (qb (qa (.int .i64 0) rfl) (qd (qe ?_)))))))))))))
 refine wp_block ?_
 refine ja (fun (s : Int) a w => ∃ (T0 : Fr) (G1 : qk), a = mk 19 (qQ T0 [(0, (.slice A0_ a0.length c0_)), (1, (.func (.func 130) #[] #[])), (7, (.int .i64 (a0.length : Int))), (8, (.int .i64 s))]) ∧ GLe G G1 ∧ St c G1 w (σ)) b ?_ ?_
 ·exact ⟨_, _, qf _ ⟨rfl, rfl, rfl, rfl, yp⟩, GLe.refl _, H⟩
 rintro x18 a w y21 ⟨T0, G22, rfl, hG19, H20⟩ b hy1
 refine wp_seq (qc (qb (qa (.bool (decide (x18 < (a0.length : Int)))) rfl) (qd (qe (wp_seq ?_)))))
 rcases qm (decide (x18 < (a0.length : Int))) with hb23 | hb23
 ·replace b := ifT b hb23
  refine qs (vb hb23) (wp_skip (qe (wp_seq (wp_block (wp_seq (qc ?_))))))
  iterate 2 refine qb (qa (.int .i64 x18) rfl) ?_
  refine qd (qe (wp_seq (qc (qb (qa (.func (.func 130) #[] #[]) rfl) (qb (qa (.slice A0_ a0.length c0_) rfl) (qb (qa (.int .i64 x18) rfl) ?_))))))
  obtain ⟨x24, hx25, b⟩ := qu b
  refine qR (qY (h0_.mono hG19) zQ zc rfl rfl hx25) ?_
  intro a26 hp27
  refine zH H20 hp27 zc rfl ?_
  intro v28 hv29
  obtain ⟨r30, hr31, b⟩ := qu b
  refine jT (first := []) (captured := []) (vs := [v28]) en130 rfl rfl (nego_Right_1_ok k hv29 H20 hr31) ?_
  rintro v36 w35 ⟨G32, hG33, rfl, H34⟩
  refine qd (qe ?_)
  rcases qm r30 with hb37 | hb37
  ·replace b := ifT b hb37
   refine qs (vb hb37) (wp_seq (qc ?_))
   iterate 2 refine qb (qa (.int .i64 x18) rfl) ?_
   refine qd (qe (wp_ret (zg ?_)))
   iterate 2 refine qI ?_
   replace b := jJ b hy1
   refine zg (qI ?_)
   have b := yq b
   subst b
   exact qt rfl (RV.tmp rfl RV.nil) ⟨_, (hG19.trans hG33), rfl, H34⟩
  replace b := ifF b hb37
  refine qn (vb hb37) (wp_skip (zn (qe (qc ?_))))
  iterate 2 refine qb (qa (.int .i64 (IntKind.i64.wrap (x18 + 1))) rfl) ?_
  refine qd (qe ?_)
  exact ⟨_, (yq b).symm, _, _, qf _ ⟨rfl, rfl, rfl, rfl, yp⟩, (hG19.trans hG33), H34⟩
 replace b := ifF b hb23
 refine qn (vb hb23) ?_
 refine wp_exit ?_
 iterate 2 refine xB ?_
 replace b := jJ b hy1
 refine blk_e ?_
 refine qe (wp_seq (qc (qb (qa (.int .i64 (-1)) rfl) (qd (qe (wp_ret ?_))))))
 have b := yq b
 subst b
 exact qt rfl (RV.tmp rfl RV.nil) ⟨_, hG19, rfl, H20⟩

theorem slices_ContainsFunc_Opt_nego_Right_1_ok {c : World} (k : Hc c) {G : qk} {w : World} {σ : List Ent} {a0 : (List TOpt)} {A0_ : Option Addr} {c0_ : Nat} (h0_ : SlR qx G A0_ c0_ a0) (H : St c G w (σ)) {r : Bool} (b : slices_ContainsFunc_Opt_nego_Right_1 a0 = some r) :
  Calls Tryz.prog 132 ([(.slice A0_ a0.length c0_), (.func (.func 130) #[] #[])] : List Value).toArray w (zu fun v w' => ∃ (G' : qk), GLe G G' ∧ tup [(.bool r)] = v ∧ St c G' w' (σ)) := by
 unfold slices_ContainsFunc_Opt_nego_Right_1 at b
 refine qG Tryz.func132 rfl rfl rfl (wp_seq (qc (qb (qa (.bool false) rfl) (qd (qe (wp_seq (qc (qb (qa (.slice A0_ a0.length c0_) rfl) (qb (qa (.func (.func 130) #[] #[]) rfl) ?_)))))))))
 obtain ⟨r1, hr2, b⟩ := qu b
 refine qo (vs := [(.slice A0_ a0.length c0_), (.func (.func 130) #[] #[])]) en169 rfl (slices_IndexFunc_Opt_nego_Right_1_ok k h0_ H hr2) ?_
 rintro v7 w6 ⟨G3, hG4, rfl, H5⟩
 iterate 2 refine qb (qa (.bool (decide (r1 ≥ 0))) rfl) ?_
 refine qd (qe (wp_ret ?_))
 have b := yq b
 subst b
 exact qt rfl (RV.tmp rfl RV.nil) ⟨_, hG4, rfl, H5⟩

theorem nego_Right_ok {c : World} (k : Hc c) {G : qk} {w : World} {σ : List Ent} {a0 : TNego} {v0_ : Value} (h0_ : qv.V G v0_ a0) (H : St c G w (σ)) {r : Bool} (b : nego_Right a0 = some r) :
  Calls Tryz.prog 69 ([v0_] : List Value).toArray w (zu fun v w' => ∃ (G' : qk), GLe G G' ∧ tup [(.bool r)] = v ∧ St c G' w' (σ)) := by
 unfold nego_Right at b
 refine qG Tryz.func69 rfl rfl rfl (wp_seq (qc ?_))
 refine zp (K := qv) (x := a0) H rfl h0_ ?_
 intro b1 w4 H2
 refine qb (qa (.bool false) rfl) (qd (qe (wp_seq (qc (qb (qh fo32_2 rfl) ?_)))))
 refine ql H2 (i := 0) rfl zD ty30 rfl ?_
 intro v5 hv6
 obtain ⟨A7, c8, rfl, hs9⟩ := qN hv6
 obtain ⟨r10, hr11, b⟩ := qu b
 refine qo (vs := [(.slice A7 a0.Ours.length c8)]) en129 rfl (opts_Bytes_ok k hs9 H2 hr11) ?_
 rintro v16 w15 ⟨G12, A17, c18, hG13, rfl, H14, hs19⟩
 refine qb (qa (.tuple #[(.slice A17 r10.1.length c18), (.int .i64 r10.2)]) rfl) (qb (qa (.slice A17 r10.1.length c18) rfl) (qb (qa (.int .i64 r10.2) rfl) (qb (qa (.slice A17 r10.1.length c18) rfl) (qb (qa (.int .i64 r10.2) rfl) (qd (qe (wp_seq (qc (qb (qa (.func (.func 130) #[] #[]) rfl) (qd (qe (wp_seq (qc (qb (qh xe rfl) ?_))))))))))))))
 refine ql H14 (i := 0) rfl zq xA rfl ?_
 intro v20 hv21
 obtain ⟨r22, hr23, b⟩ := qu b
 refine qo (vs := [v20]) en131 rfl (auto_Right_ok k hv21 H14 hr23) ?_
 rintro v28 w27 ⟨G24, hG25, rfl, H26⟩
 refine qb (qa (.bool r22) rfl) ?_
 rcases qm r22 with hb29 | hb29
 ·replace b := ifT b hb29
  refine qj rfl rfl rfl (vb hb29) (qb (qh fo32_3 rfl) (qj rfl rfl rfl (vb hb29) (qp H26 (i := 0) rfl jb (qz .i64) ty3 rfl (qj rfl rfl rfl (vb hb29) (qb (qa (.bool (decide (a0.Naks ≥ 0))) rfl) (qb (qB (.bool (decide (a0.Naks ≥ 0))) (vb hb29) rfl) (qb (qa (.bool (decide (a0.Naks ≥ 0))) rfl) ?_)))))))
  rcases qm (decide (a0.Naks ≥ 0)) with hb30 | hb30
  ·replace b := ifT b hb30
   refine qj rfl rfl rfl (vb hb30) (qb (qh fo32_3 rfl) (qj rfl rfl rfl (vb hb30) (qp H26 (i := 0) rfl jb (qz .i64) ty3 rfl (qj rfl rfl rfl (vb hb30) (qb (qa (.bool (decide (a0.Naks ≤ 3))) rfl) (qb (qB (.bool (decide (a0.Naks ≤ 3))) (vb hb30) rfl) (qb (qa (.bool (decide (a0.Naks ≤ 3))) rfl) ?_)))))))
   rcases qm (decide (a0.Naks ≤ 3)) with hb31 | hb31
   ·replace b := ifT b hb31
    refine qj rfl rfl rfl (vb hb31) (qb (qa (.int .i64 r10.2) rfl) (qj rfl rfl rfl (vb hb31) (qb (qa (.bool (r10.2 == 0)) rfl) (qb (qB (.bool (r10.2 == 0)) (vb hb31) rfl) (qb (qa (.bool (r10.2 == 0)) rfl) ?_)))))
    rcases qm (r10.2 == 0) with hb32 | hb32
    ·replace b := ifT b hb32
     refine qj rfl rfl rfl (vb hb32) (qb (qh fo32_2 rfl) (qj rfl rfl rfl (vb hb32) ?_))
     refine ql H26 (i := 0) rfl zD ty30 rfl ?_
     intro v33 hv34
     obtain ⟨A35, c36, rfl, hs37⟩ := qN hv34
     refine qj rfl rfl rfl (vb hb32) (qb (qa (.func (.func 130) #[] #[]) rfl) (qj rfl rfl rfl (vb hb32) ?_))
     obtain ⟨r38, hr39, b⟩ := qu b
     refine qo (vs := [(.slice A35 a0.Ours.length c36), (.func (.func 130) #[] #[])]) en132 rfl (slices_ContainsFunc_Opt_nego_Right_1_ok k hs37 H26 hr39) ?_
     rintro v44 w43 ⟨G40, hG41, rfl, H42⟩
     refine qj rfl rfl rfl (vb hb32) (qb (qa (.bool (!r38)) rfl) (qb (qB (.bool (!r38)) (vb hb32) rfl) (qb (qa (.bool (!r38)) rfl) (qd (qe (wp_ret ?_))))))
     have b := yq b
     subst b
     exact qt rfl (RV.tmp rfl RV.nil) ⟨_, ((hG13.trans hG25).trans hG41), rfl, (St.pk [] 1 H42 rfl (by decide))⟩
    replace b := ifF b hb32
    iterate 5 refine qJ rfl rfl rfl (vb hb32) ?_
    refine qb (qr (.bool false) (vb hb32) rfl) (qb (qa (.bool false) rfl) (qd (qe (wp_ret ?_))))
    have b := yq b
    subst b
    exact qt rfl (RV.tmp rfl RV.nil) ⟨_, (hG13.trans hG25), rfl, (St.pk [] 1 H26 rfl (by decide))⟩
   replace b := ifF b hb31
   iterate 2 refine qJ rfl rfl rfl (vb hb31) ?_
   refine qb (qr (.bool false) (vb hb31) rfl) (qb (qa (.bool false) rfl) ?_)
   iterate 5 refine qJ rfl rfl rfl rfl ?_
   refine qb (qr (.bool false) rfl rfl) (qb (qa (.bool false) rfl) (qd (qe (wp_ret ?_))))
   have b := yq b
   subst b
   exact qt rfl (RV.tmp rfl RV.nil) ⟨_, (hG13.trans hG25), rfl, (St.pk [] 1 H26 rfl (by decide))⟩
  replace b := ifF b hb30
  iterate 3 refine qJ rfl rfl rfl (vb hb30) ?_
  refine qb (qr (.bool false) (vb hb30) rfl) (qb (qa (.bool false) rfl) ?_)
  iterate 2 refine qJ rfl rfl rfl rfl ?_
  refine qb (qr (.bool false) rfl rfl) (qb (qa (.bool false) rfl) ?_)
  iterate 5 refine qJ rfl rfl rfl rfl ?_
  refine qb (qr (.bool false) rfl rfl) (qb (qa (.bool false) rfl) (qd (qe (wp_ret ?_))))
  have b := yq b
  subst b
  exact qt rfl (RV.tmp rfl RV.nil) ⟨_, (hG13.trans hG25), rfl, (St.pk [] 1 H26 rfl (by decide))⟩
 replace b := ifF b hb29
 iterate 3 refine qJ rfl rfl rfl (vb hb29) ?_
 refine qb (qr (.bool false) (vb hb29) rfl) (qb (qa (.bool false) rfl) ?_)
 iterate 3 refine qJ rfl rfl rfl rfl ?_
 refine qb (qr (.bool false) rfl rfl) (qb (qa (.bool false) rfl) ?_)
 iterate 2 refine qJ rfl rfl rfl rfl ?_
 refine qb (qr (.bool false) rfl rfl) (qb (qa (.bool false) rfl) ?_)
 iterate 5 refine qJ rfl rfl rfl rfl ?_
 refine qb (qr (.bool false) rfl rfl) (qb (qa (.bool false) rfl) (qd (qe (wp_ret ?_))))
 have b := yq b
 subst b
 exact qt rfl (RV.tmp rfl RV.nil) ⟨_, (hG13.trans hG25), rfl, (St.pk [] 1 H26 rfl (by decide))⟩

theorem opts_Same_1_ok {c : World} (k : Hc c) {G : qk} {w : World} {σ : List Ent} {a0 : TOpt} {v0_ : Value} {a1 : TOpt} {v1_ : Value} (h0_ : qx.V G v0_ a0) (h1_ : qx.V G v1_ a1) (H : St c G w (σ)) {r : Bool} (b : opts_Same_1 a0 a1 = some r) :
  Calls Tryz.prog 182 ([v0_, v1_] : List Value).toArray w (zu fun v w' => ∃ (G' : qk), GLe G G' ∧ tup [(.bool r)] = v ∧ St c G' w' (σ)) := by
 unfold opts_Same_1 at b
 refine qG Tryz.func182 rfl rfl rfl (wp_seq (qc ?_))
 refine zp (K := qx) (x := a0) H rfl h0_ ?_
 intro b1 w4 H2
 refine zp (K := qx) (x := a1) H2 rfl h1_ ?_
 intro b5 w8 H6
 refine qb (qa (.bool false) rfl) (qd (qe (wp_seq (qc (qb (qh jc rfl) (qp H6 (i := 1) rfl qX (qz .u8) ty5 rfl (qb (qh jc rfl) (qp H6 (i := 0) rfl qX (qz .u8) ty5 rfl ?_))))))))
 iterate 2 refine qb (qa (.bool (a0.Typ == a1.Typ)) rfl) ?_
 rcases qm (a0.Typ == a1.Typ) with hb9 | hb9
 ·replace b := ifT b hb9
  refine qj rfl rfl rfl (vb hb9) (qb (qh jp rfl) (qj rfl rfl rfl (vb hb9) ?_))
  refine ql H6 (i := 1) rfl qZ jy rfl ?_
  intro v10 hv11
  obtain ⟨A12, c13, rfl, hs14⟩ := qN hv11
  refine qj rfl rfl rfl (vb hb9) (qb (qh jp rfl) (qj rfl rfl rfl (vb hb9) ?_))
  refine ql H6 (i := 0) rfl qZ jy rfl ?_
  intro v15 hv16
  obtain ⟨A17, c18, rfl, hs19⟩ := qN hv16
  refine qj rfl rfl rfl (vb hb9) ?_
  obtain ⟨r20, hr21, b⟩ := qu b
  refine qo (vs := [(.slice A12 a0.Data.length c13), (.slice A17 a1.Data.length c18)]) en165 rfl (bytes_Equal_ok k hs14 hs19 H6 hr21) ?_
  rintro v26 w25 ⟨G22, hG23, rfl, H24⟩
  refine qb (qB (.bool r20) (vb hb9) rfl) (qb (qa (.bool r20) rfl) (qd (qe (wp_ret ?_))))
  have b := yq b
  subst b
  exact qt rfl (RV.tmp rfl RV.nil) ⟨_, hG23, rfl, (St.pk [] 2 H24 rfl (by decide))⟩
 replace b := ifF b hb9
 iterate 5 refine qJ rfl rfl rfl (vb hb9) ?_
 refine qb (qr (.bool false) (vb hb9) rfl) (qb (qa (.bool false) rfl) (qd (qe (wp_ret ?_))))
 have b := yq b
 subst b
 exact qt rfl (RV.tmp rfl RV.nil) ⟨_, GLe.refl _, rfl, (St.pk [] 2 H6 rfl (by decide))⟩

theorem slices_EqualFunc_Opt_opts_Same_1_ok {c : World} (k : Hc c) {G : qk} {w : World} {σ : List Ent} {a0 : (List TOpt)} {A0_ : Option Addr} {c0_ : Nat} {a1 : (List TOpt)} {A1_ : Option Addr} {c1_ : Nat} (h0_ : SlR qx G A0_ c0_ a0) (h1_ : SlR qx G A1_ c1_ a1) (H : St c G w (σ)) {r : Bool} (b : slices_EqualFunc_Opt_opts_Same_1 a0 a1 = some r) :
  Calls Tryz.prog 181 ([(.slice A0_ a0.length c0_), (.slice A1_ a1.length c1_), (.func (.func 182) #[] #[])] : List Value).toArray w (zu fun v w' => ∃ (G' : qk), GLe G G' ∧ tup [(.bool r)] = v ∧ St c G' w' (σ)) := by
 unfold slices_EqualFunc_Opt_opts_Same_1 at b
 refine qG Tryz.func181 rfl rfl rfl (wp_seq (qc (qb (qa (.bool false) rfl) (qd (qe (wp_seq (wp_seq (qc (qb (qa (.slice A0_ a0.length c0_) rfl) (qb (zb zQ rfl) (qb (qa (.slice A1_ a1.length c1_) rfl) (qb (zb zQ rfl) ?_))))))))))))
 refine qb (qa (.bool ((a0.length : Int) != (a1.length : Int))) rfl) (qd (qe ?_))
 rcases qm ((a0.length : Int) != (a1.length : Int)) with hb1 | hb1
 ·replace b := ifT b hb1
  refine qs (vb hb1) (wp_seq (qc (qb (qa (.bool false) rfl) (qd (qe (wp_ret (qI ?_)))))))
  have b := yq b
  subst b
  exact qt rfl (RV.tmp rfl RV.nil) ⟨_, GLe.refl _, rfl, H⟩
 replace b := ifF b hb1
 refine qn (vb hb1) (wp_skip (qe (wp_seq (wp_seq (qc (qb (qa (.slice A0_ a0.length c0_) rfl) (qb (zb zQ rfl) (qb (qa (.int .i64 0) rfl) (qd (qe (wp_block ?_)))))))))))
 refine ja (fun (s : Int) a w => ∃ (T0 : Fr) (G1 : qk), a = mk 32 (qQ T0 [(1, (.slice A1_ a1.length c1_)), (2, (.func (.func 182) #[] #[])), (15, (.slice A0_ a0.length c0_)), (16, (.int .i64 (a0.length : Int))), (17, (.int .i64 s))]) ∧ GLe G G1 ∧ St c G1 w (σ)) b ?_ ?_
 ·exact ⟨_, _, qf _ ⟨rfl, rfl, rfl, rfl, rfl, yp⟩, GLe.refl _, H⟩
 rintro x41 a w y44 ⟨T0, G45, rfl, hG42, H43⟩ b hy2
 refine wp_seq (qc (qb (qa (.bool (decide (x41 < (a0.length : Int)))) rfl) (qd (qe (wp_seq ?_)))))
 rcases qm (decide (x41 < (a0.length : Int))) with hb46 | hb46
 ·replace b := ifT b hb46
  refine qs (vb hb46) (wp_skip (qe (wp_seq (wp_block (wp_seq (qc (qb (qa (.int .i64 x41) rfl) ?_)))))))
  obtain ⟨x47, hx48, b⟩ := qu b
  refine qR (qY (h0_.mono hG42) zQ zc rfl rfl hx48) ?_
  intro a49 hp50
  refine zH H43 hp50 zc rfl ?_
  intro v51 hv52
  refine qP H43 xv ?_
  intro b53 w56 H54
  refine qb (qa (.int .i64 x41) rfl) ?_
  refine qy (z := x47) H54 (i := 0) rfl (Lens.id qx) zc rfl rfl hv52 ?_
  intro w58 H57
  refine qd (qe (wp_seq (qc (qb (qa (.slice A1_ a1.length c1_) rfl) (qb (qa (.int .i64 x41) rfl) ?_)))))
  obtain ⟨x59, hx60, b⟩ := qu b
  refine qR (qY (h1_.mono hG42) zQ zc rfl rfl hx60) ?_
  intro a61 hp62
  refine zH H57 hp62 zc rfl ?_
  intro v63 hv64
  refine qP H57 xv ?_
  intro b65 w68 H66
  refine qy (z := x59) H66 (i := 0) rfl (Lens.id qx) zc rfl rfl hv64 ?_
  intro w70 H69
  refine qd (qe (wp_seq (qc (qb (qa (.func (.func 182) #[] #[]) rfl) ?_))))
  refine ql H69 (i := 1) rfl (Lens.id qx) zc rfl ?_
  intro v71 hv72
  refine ql H69 (i := 0) rfl (Lens.id qx) zc rfl ?_
  intro v73 hv74
  obtain ⟨r75, hr76, b⟩ := qu b
  refine jT (first := []) (captured := []) (vs := [v71, v73]) en182 rfl rfl (opts_Same_1_ok k hv72 hv74 H69 hr76) ?_
  rintro v81 w80 ⟨G77, hG78, rfl, H79⟩
  refine qb (qa (.bool (!r75)) rfl) (qd (qe ?_))
  rcases qm (!r75) with hb82 | hb82
  ·replace b := ifT b hb82
   refine qs (vb hb82) (wp_seq (qc (qb (qa (.bool false) rfl) (qd (qe (wp_ret (zg ?_)))))))
   iterate 2 refine qI ?_
   replace b := jJ b hy2
   refine zg (qI ?_)
   have b := yq b
   subst b
   exact qt rfl (RV.tmp rfl RV.nil) ⟨_, (hG42.trans hG78), rfl, (St.pk [] 2 H79 rfl (by decide))⟩
  replace b := ifF b hb82
  refine qn (vb hb82) (wp_skip (zn (qe (qc ?_))))
  iterate 2 refine qb (qa (.int .i64 (IntKind.i64.wrap (x41 + 1))) rfl) ?_
  refine qd (qe ?_)
  exact ⟨_, (yq b).symm, _, _, qf _ ⟨rfl, rfl, rfl, rfl, rfl, yp⟩, (hG42.trans hG78), (St.pk [] 2 H79 rfl (by decide))⟩
 replace b := ifF b hb46
 refine qn (vb hb46) ?_
 refine wp_exit ?_
 iterate 2 refine xB ?_
 replace b := jJ b hy2
 refine blk_e ?_
 refine qe (wp_seq (qc (qb (qa (.bool true) rfl) (qd (qe (wp_ret ?_))))))
 have b := yq b
 subst b
 exact qt rfl (RV.tmp rfl RV.nil) ⟨_, hG42, rfl, H43⟩

theorem opts_Same_ok {c : World} (k : Hc c) {G : qk} {w : World} {σ : List Ent} {a0 : (List TOpt)} {A0_ : Option Addr} {c0_ : Nat} {a1 : (List TOpt)} {A1_ : Option Addr} {c1_ : Nat} (h0_ : SlR qx G A0_ c0_ a0) (h1_ : SlR qx G A1_ c1_ a1) (H : St c G w (σ)) {r : Bool} (b : opts_Same a0 a1 = some r) :
  Calls Tryz.prog 133 ([(.slice A0_ a0.length c0_), (.slice A1_ a1.length c1_)] : List Value).toArray w (zu fun v w' => ∃ (G' : qk), GLe G G' ∧ tup [(.bool r)] = v ∧ St c G' w' (σ)) := by
 unfold opts_Same at b
 refine qG Tryz.func133 rfl rfl rfl (wp_seq (qc (qb (qa (.bool false) rfl) (qd (qe (wp_seq (qc (qb (qa (.slice A0_ a0.length c0_) rfl) (qb (qa (.slice A1_ a1.length c1_) rfl) ?_)))))))))
 obtain ⟨r1, hr2, b⟩ := qu b
 refine qo (vs := [(.slice A0_ a0.length c0_), (.slice A1_ a1.length c1_), (.func (.func 182) #[] #[])]) en181 rfl (slices_EqualFunc_Opt_opts_Same_1_ok k h0_ h1_ H hr2) ?_
 rintro v7 w6 ⟨G3, hG4, rfl, H5⟩
 refine qb (qa (.bool r1) rfl) (qd (qe (wp_ret ?_)))
 have b := yq b
 subst b
 exact qt rfl (RV.tmp rfl RV.nil) ⟨_, hG4, rfl, H5⟩

theorem nego_Same_ok {c : World} (k : Hc c) {G : qk} {w : World} {σ : List Ent} {a0 : TNego} {v0_ : Value} {a1 : TNego} {v1_ : Value} (h0_ : qv.V G v0_ a0) (h1_ : qv.V G v1_ a1) (H : St c G w (σ)) {r : Bool} (b : nego_Same a0 a1 = some r) :
  Calls Tryz.prog 70 ([v0_, v1_] : List Value).toArray w (zu fun v w' => ∃ (G' : qk), GLe G G' ∧ tup [(.bool r)] = v ∧ St c G' w' (σ)) := by
 unfold nego_Same at b
 refine qG Tryz.func70 rfl rfl rfl (wp_seq (qc ?_))
 refine zp (K := qv) (x := a0) H rfl h0_ ?_
 intro b1 w4 H2
 refine zp (K := qv) (x := a1) H2 rfl h1_ ?_
 intro b5 w8 H6
 refine qb (qa (.bool false) rfl) (qd (qe (wp_seq (qc (qb (qh xe rfl) ?_)))))
 refine ql H6 (i := 1) rfl zq xA rfl ?_
 intro v9 hv10
 refine qb (qh xe rfl) ?_
 refine ql H6 (i := 0) rfl zq xA rfl ?_
 intro v11 hv12
 refine qb (rn_eql eqTAuto rfl eg26 rfl rfl rfl hv10 hv12) (qb (qa (.bool (eTAuto a0.A a1.A)) rfl) ?_)
 rcases qm (eTAuto a0.A a1.A) with hb13 | hb13
 ·replace b := ifT b hb13
  refine qj rfl rfl rfl (vb hb13) (qb (qh fo32_1 rfl) (qj rfl rfl rfl (vb hb13) ?_))
  refine ql H6 (i := 1) rfl ym ty29 rfl ?_
  intro v14 hv15
  refine qj rfl rfl rfl (vb hb13) (qb (qh fo32_1 rfl) (qj rfl rfl rfl (vb hb13) ?_))
  refine ql H6 (i := 0) rfl ym ty29 rfl ?_
  intro v16 hv17
  refine qj rfl rfl rfl (vb hb13) (qb (rn_eql eqTRule rfl eg29 rfl rfl rfl hv15 hv17) (qb (qB (.bool (eTRule a0.R a1.R)) (vb hb13) rfl) (qb (qa (.bool (eTRule a0.R a1.R)) rfl) ?_)))
  rcases qm (eTRule a0.R a1.R) with hb18 | hb18
  ·replace b := ifT b hb18
   refine qj rfl rfl rfl (vb hb18) (qb (qh fo32_3 rfl) (qj rfl rfl rfl (vb hb18) (qp H6 (i := 1) rfl jb (qz .i64) ty3 rfl (qj rfl rfl rfl (vb hb18) (qb (qh fo32_3 rfl) (qj rfl rfl rfl (vb hb18) (qp H6 (i := 0) rfl jb (qz .i64) ty3 rfl (qj rfl rfl rfl (vb hb18) (qb (qa (.bool (a0.Naks == a1.Naks)) rfl) ?_)))))))))
   refine qb (qB (.bool (a0.Naks == a1.Naks)) (vb hb18) rfl) (qb (qa (.bool (a0.Naks == a1.Naks)) rfl) ?_)
   rcases qm (a0.Naks == a1.Naks) with hb19 | hb19
   ·replace b := ifT b hb19
    refine qj rfl rfl rfl (vb hb19) (qb (qh fo32_2 rfl) (qj rfl rfl rfl (vb hb19) ?_))
    refine ql H6 (i := 1) rfl zD ty30 rfl ?_
    intro v20 hv21
    obtain ⟨A22, c23, rfl, hs24⟩ := qN hv21
    refine qj rfl rfl rfl (vb hb19) (qb (qh fo32_2 rfl) (qj rfl rfl rfl (vb hb19) ?_))
    refine ql H6 (i := 0) rfl zD ty30 rfl ?_
    intro v25 hv26
    obtain ⟨A27, c28, rfl, hs29⟩ := qN hv26
    refine qj rfl rfl rfl (vb hb19) ?_
    obtain ⟨r30, hr31, b⟩ := qu b
    refine qo (vs := [(.slice A22 a0.Ours.length c23), (.slice A27 a1.Ours.length c28)]) en133 rfl (opts_Same_ok k hs24 hs29 H6 hr31) ?_
    rintro v36 w35 ⟨G32, hG33, rfl, H34⟩
    refine qb (qB (.bool r30) (vb hb19) rfl) (qb (qa (.bool r30) rfl) ?_)
    rcases qm r30 with hb37 | hb37
    ·replace b := ifT b hb37
     refine qj rfl rfl rfl (vb hb37) (qb (qh fo32_4 rfl) (qj rfl rfl rfl (vb hb37) ?_))
     refine ql H34 (i := 1) rfl lTNego_Peer ty30 rfl ?_
     intro v38 hv39
     obtain ⟨A40, c41, rfl, hs42⟩ := qN hv39
     refine qj rfl rfl rfl (vb hb37) (qb (qh fo32_4 rfl) (qj rfl rfl rfl (vb hb37) ?_))
     refine ql H34 (i := 0) rfl lTNego_Peer ty30 rfl ?_
     intro v43 hv44
     obtain ⟨A45, c46, rfl, hs47⟩ := qN hv44
     refine qj rfl rfl rfl (vb hb37) ?_
     obtain ⟨r48, hr49, b⟩ := qu b
     refine qo (vs := [(.slice A40 a0.Peer.length c41), (.slice A45 a1.Peer.length c46)]) en133 rfl (opts_Same_ok k hs42 hs47 H34 hr49) ?_
     rintro v54 w53 ⟨G50, hG51, rfl, H52⟩
     refine qb (qB (.bool r48) (vb hb37) rfl) (qb (qa (.bool r48) rfl) (qd (qe (wp_ret ?_))))
     have b := yq b
     subst b
     exact qt rfl (RV.tmp rfl RV.nil) ⟨_, (hG33.trans hG51), rfl, (St.pk [] 2 H52 rfl (by decide))⟩
    replace b := ifF b hb37
    iterate 5 refine qJ rfl rfl rfl (vb hb37) ?_
    refine qb (qr (.bool false) (vb hb37) rfl) (qb (qa (.bool false) rfl) (qd (qe (wp_ret ?_))))
    have b := yq b
    subst b
    exact qt rfl (RV.tmp rfl RV.nil) ⟨_, hG33, rfl, (St.pk [] 2 H34 rfl (by decide))⟩
   replace b := ifF b hb19
   iterate 5 refine qJ rfl rfl rfl (vb hb19) ?_
   refine qb (qr (.bool false) (vb hb19) rfl) (qb (qa (.bool false) rfl) ?_)
   iterate 5 refine qJ rfl rfl rfl rfl ?_
   refine qb (qr (.bool false) rfl rfl) (qb (qa (.bool false) rfl) (qd (qe (wp_ret ?_))))
   have b := yq b
   subst b
   exact qt rfl (RV.tmp rfl RV.nil) ⟨_, GLe.refl _, rfl, (St.pk [] 2 H6 rfl (by decide))⟩
  replace b := ifF b hb18
  iterate 5 refine qJ rfl rfl rfl (vb hb18) ?_
  refine qb (qr (.bool false) (vb hb18) rfl) (qb (qa (.bool false) rfl) ?_)
  iterate 5 refine qJ rfl rfl rfl rfl ?_
  refine qb (qr (.bool false) rfl rfl) (qb (qa (.bool false) rfl) ?_)
  iterate 5 refine qJ rfl rfl rfl rfl ?_
  refine qb (qr (.bool false) rfl rfl) (qb (qa (.bool false) rfl) (qd (qe (wp_ret ?_))))
  have b := yq b
  subst b
  exact qt rfl (RV.tmp rfl RV.nil) ⟨_, GLe.refl _, rfl, (St.pk [] 2 H6 rfl (by decide))⟩
 replace b := ifF b hb13
 iterate 5 refine qJ rfl rfl rfl (vb hb13) ?_
 refine qb (qr (.bool false) (vb hb13) rfl) (qb (qa (.bool false) rfl) ?_)
 iterate 5 refine qJ rfl rfl rfl rfl ?_
 refine qb (qr (.bool false) rfl rfl) (qb (qa (.bool false) rfl) ?_)
 iterate 5 refine qJ rfl rfl rfl rfl ?_
 refine qb (qr (.bool false) rfl rfl) (qb (qa (.bool false) rfl) ?_)
 iterate 5 refine qJ rfl rfl rfl rfl ?_
 refine qb (qr (.bool false) rfl rfl) (qb (qa (.bool false) rfl) (qd (qe (wp_ret ?_))))
 have b := yq b
 subst b
 exact qt rfl (RV.tmp rfl RV.nil) ⟨_, GLe.refl _, rfl, (St.pk [] 2 H6 rfl (by decide))⟩

theorem pl14_shown_ok {c : World} (k : Hc c) {G : qk} {w : World} {σ : List Ent}   (H : St c G w (σ)) {r : Bool} (b : pl14_shown = some r) :
  Calls Tryz.prog 24 ([] : List Value).toArray w (zu fun v w' => ∃ (G' : qk), GLe G G' ∧ tup [(.bool r)] = v ∧ St c G' w' (σ)) := by
 unfold pl14_shown at b
 refine qG Tryz.func24 rfl rfl rfl (wp_seq (qc (qb (qa (.bool false) rfl) (qd (qe (wp_seq (qc ?_)))))))
 refine qR (qT (G := G) zr29 rfl bs29 rfl (Parts.cons fo29_1 lTRule_Magic ((qz .u32).toV _ _) (Parts.nil _))) ?_
 intro v1 hv2
 obtain ⟨r3, hr4, b⟩ := qu b
 refine qo (vs := [v1]) en56 rfl (nego_New_ok k hv2 H hr4) ?_
 rintro v9 w8 ⟨G5, v10, hG6, rfl, H7, hv11⟩
 obtain ⟨r12, hr13, b⟩ := qu b
 refine qo (vs := [v10, (.int .i64 2)]) en27 rfl (nego_Do_ok k hv11 H7 hr13) ?_
 rintro v18 w17 ⟨G14, v19, A21, c22, A24, c25, hG15, rfl, H16, hv20, hs23, hs26⟩
 refine qb (qa (.tuple #[v19, (.slice A21 r12.2.1.length c22), (.slice A24 r12.2.2.length c25)]) rfl) (qb (qa v19 rfl) (qb (qa (.slice A21 r12.2.1.length c22) rfl) (qb (qa (.slice A24 r12.2.2.length c25) rfl) ?_)))
 refine qP H16 zr32 ?_
 intro b27 w30 H28
 refine qy (z := r12.1) H28 (i := 0) rfl (Lens.id qv) zG rfl rfl hv20 ?_
 intro w32 H31
 refine qb (qa (.slice A21 r12.2.1.length c22) rfl) (qb (qa (.slice A24 r12.2.2.length c25) rfl) (qd (qe (wp_seq (qc ?_)))))
 refine ql H31 (i := 0) rfl (Lens.id qv) zG rfl ?_
 intro v33 hv34
 obtain ⟨r35, hr36, b⟩ := qu b
 refine qo (vs := [v33, (.int .i64 0)]) en27 rfl (nego_Do_ok k hv34 H31 hr36) ?_
 rintro v41 w40 ⟨G37, v42, A44, c45, A47, c48, hG38, rfl, H39, hv43, hs46, hs49⟩
 refine qb (qa (.tuple #[v42, (.slice A44 r35.2.1.length c45), (.slice A47 r35.2.2.length c48)]) rfl) (qb (qa v42 rfl) (qb (qa (.slice A44 r35.2.1.length c45) rfl) (qb (qa (.slice A47 r35.2.2.length c48) rfl) ?_)))
 refine qP H39 zr32 ?_
 intro b50 w53 H51
 refine qy (z := r35.1) H51 (i := 0) rfl (Lens.id qv) zG rfl rfl hv43 ?_
 intro w55 H54
 refine qb (qa (.slice A44 r35.2.1.length c45) rfl) (qb (qa (.slice A47 r35.2.2.length c48) rfl) (qd (qe (wp_seq (qc ?_)))))
 refine ql H54 (i := 0) rfl (Lens.id qv) zG rfl ?_
 intro v56 hv57
 refine qR (qT (G := G37) zr46 rfl bs46 rfl (Parts.cons jO qW ((qz .u8).toV _ _) (Parts.cons jw zf ((qz .u8).toV _ _) (Parts.nil _)))) ?_
 intro v58 hv59
 obtain ⟨r60, hr61, b⟩ := qu b
 refine qo (vs := [v56, v58]) en29 rfl (nego_Take_ok k hv57 hv59 H54 hr61) ?_
 rintro v66 w65 ⟨G62, v67, A69, c70, A72, c73, hG63, rfl, H64, hv68, hs71, hs74⟩
 refine qb (qa (.tuple #[v67, (.slice A69 r60.2.1.length c70), (.slice A72 r60.2.2.length c73)]) rfl) (qb (qa v67 rfl) (qb (qa (.slice A69 r60.2.1.length c70) rfl) (qb (qa (.slice A72 r60.2.2.length c73) rfl) ?_)))
 refine qP H64 zr32 ?_
 intro b75 w78 H76
 refine qy (z := r60.1) H76 (i := 0) rfl (Lens.id qv) zG rfl rfl hv68 ?_
 intro w80 H79
 refine qb (qa (.slice A69 r60.2.1.length c70) rfl) (qb (qa (.slice A72 r60.2.2.length c73) rfl) (qd (qe (wp_seq (qc ?_)))))
 refine ql H79 (i := 0) rfl (Lens.id qv) zG rfl ?_
 intro v81 hv82
 obtain ⟨r83, hr84, b⟩ := qu b
 refine qo (vs := [v81]) en28 rfl (nego_Tick_ok k hv82 H79 hr84) ?_
 rintro v89 w88 ⟨G85, v90, A92, c93, A95, c96, hG86, rfl, H87, hv91, hs94, hs97⟩
 refine qb (qa (.tuple #[v90, (.slice A92 r83.2.1.length c93), (.slice A95 r83.2.2.length c96)]) rfl) (qb (qa v90 rfl) (qb (qa (.slice A92 r83.2.1.length c93) rfl) (qb (qa (.slice A95 r83.2.2.length c96) rfl) ?_)))
 refine qP H87 zr32 ?_
 intro b98 w101 H99
 refine qy (z := r83.1) H99 (i := 0) rfl (Lens.id qv) zG rfl rfl hv91 ?_
 intro w103 H102
 refine qb (qa (.slice A92 r83.2.1.length c93) rfl) (qb (qa (.slice A95 r83.2.2.length c96) rfl) (qd (qe (wp_seq (qc (qb (qa (.slice A24 r12.2.2.length c25) rfl) (qb (zb xX rfl) ?_)))))))
 iterate 2 refine qb (qa (.bool ((r12.2.2.length : Int) == 1)) rfl) ?_
 rcases qm ((r12.2.2.length : Int) == 1) with hb104 | hb104
 ·replace b := ifT b hb104
  refine qj rfl rfl rfl (vb hb104) (qb (qa (.slice A24 r12.2.2.length c25) rfl) (qj rfl rfl rfl (vb hb104) ?_))
  obtain ⟨x105, hx106, b⟩ := qu b
  refine qR (qY (hs26.mono ((hG38.trans hG63).trans hG86)) xX ty3 rfl rfl hx106) ?_
  intro a107 hp108
  refine qj rfl rfl rfl (vb hb104) ?_
  refine zd H102 hp108 (qz .i64) ty3 rfl ?_
  refine qj rfl rfl rfl (vb hb104) (qb (qa (.bool (x105 == 3)) rfl) (qb (qB (.bool (x105 == 3)) (vb hb104) rfl) (qb (qa (.bool (x105 == 3)) rfl) ?_)))
  rcases qm (x105 == 3) with hb109 | hb109
  ·replace b := ifT b hb109
   refine qj rfl rfl rfl (vb hb109) (qb (qa (.slice A44 r35.2.1.length c45) rfl) (qj rfl rfl rfl (vb hb109) (qb (zb sl71 rfl) (qj rfl rfl rfl (vb hb109) (qb (qa (.bool ((r35.2.1.length : Int) == 1)) rfl) (qb (qB (.bool ((r35.2.1.length : Int) == 1)) (vb hb109) rfl) (qb (qa (.bool ((r35.2.1.length : Int) == 1)) rfl) ?_)))))))
   rcases qm ((r35.2.1.length : Int) == 1) with hb110 | hb110
   ·replace b := ifT b hb110
    refine qj rfl rfl rfl (vb hb110) (qb (qa (.slice A44 r35.2.1.length c45) rfl) (qj rfl rfl rfl (vb hb110) ?_))
    obtain ⟨x111, hx112, b⟩ := qu b
    refine qR (qY (hs46.mono (hG63.trans hG86)) sl71 ty46 rfl rfl hx112) ?_
    intro a113 hp114
    refine qj rfl rfl rfl (vb hb110) (qb (jW jO rfl) (qj rfl rfl rfl (vb hb110) ?_))
    refine zd H102 (hp114.lens qW) (qz .u8) ty5 rfl ?_
    refine qj rfl rfl rfl (vb hb110) (qb (qa (.bool (x111.Code == 1)) rfl) (qb (qB (.bool (x111.Code == 1)) (vb hb110) rfl) (qb (qa (.bool (x111.Code == 1)) rfl) ?_)))
    rcases qm (x111.Code == 1) with hb115 | hb115
    ·replace b := ifT b hb115
     refine qj rfl rfl rfl (vb hb115) (qb (qa (.slice A44 r35.2.1.length c45) rfl) (qj rfl rfl rfl (vb hb115) ?_))
     obtain ⟨x116, hx117, b⟩ := qu b
     refine qR (qY (hs46.mono (hG63.trans hG86)) sl71 ty46 rfl rfl hx117) ?_
     intro a118 hp119
     refine qj rfl rfl rfl (vb hb115) (qb (jW jw rfl) (qj rfl rfl rfl (vb hb115) ?_))
     refine zd H102 (hp119.lens zf) (qz .u8) ty5 rfl ?_
     refine qj rfl rfl rfl (vb hb115) (qb (qa (.bool (x116.Id == 1)) rfl) (qb (qB (.bool (x116.Id == 1)) (vb hb115) rfl) (qb (qa (.bool (x116.Id == 1)) rfl) ?_)))
     rcases qm (x116.Id == 1) with hb120 | hb120
     ·replace b := ifT b hb120
      refine qj rfl rfl rfl (vb hb120) (qb (qa (.slice A69 r60.2.1.length c70) rfl) (qj rfl rfl rfl (vb hb120) (qb (zb sl71 rfl) (qj rfl rfl rfl (vb hb120) (qb (qa (.bool ((r60.2.1.length : Int) == 1)) rfl) (qb (qB (.bool ((r60.2.1.length : Int) == 1)) (vb hb120) rfl) (qb (qa (.bool ((r60.2.1.length : Int) == 1)) rfl) ?_)))))))
      rcases qm ((r60.2.1.length : Int) == 1) with hb121 | hb121
      ·replace b := ifT b hb121
       refine qj rfl rfl rfl (vb hb121) (qb (qa (.slice A69 r60.2.1.length c70) rfl) (qj rfl rfl rfl (vb hb121) ?_))
       obtain ⟨x122, hx123, b⟩ := qu b
       refine qR (qY (hs71.mono hG86) sl71 ty46 rfl rfl hx123) ?_
       intro a124 hp125
       refine qj rfl rfl rfl (vb hb121) (qb (jW jO rfl) (qj rfl rfl rfl (vb hb121) ?_))
       refine zd H102 (hp125.lens qW) (qz .u8) ty5 rfl ?_
       refine qj rfl rfl rfl (vb hb121) (qb (qa (.bool (x122.Code == 2)) rfl) (qb (qB (.bool (x122.Code == 2)) (vb hb121) rfl) (qb (qa (.bool (x122.Code == 2)) rfl) ?_)))
       rcases qm (x122.Code == 2) with hb126 | hb126
       ·replace b := ifT b hb126
        refine qj rfl rfl rfl (vb hb126) (qb (qa (.slice A69 r60.2.1.length c70) rfl) (qj rfl rfl rfl (vb hb126) ?_))
        obtain ⟨x127, hx128, b⟩ := qu b
        refine qR (qY (hs71.mono hG86) sl71 ty46 rfl rfl hx128) ?_
        intro a129 hp130
        refine qj rfl rfl rfl (vb hb126) (qb (jW jw rfl) (qj rfl rfl rfl (vb hb126) ?_))
        refine zd H102 (hp130.lens zf) (qz .u8) ty5 rfl ?_
        refine qj rfl rfl rfl (vb hb126) (qb (qa (.bool (x127.Id == 9)) rfl) (qb (qB (.bool (x127.Id == 9)) (vb hb126) rfl) (qb (qa (.bool (x127.Id == 9)) rfl) ?_)))
        rcases qm (x127.Id == 9) with hb131 | hb131
        ·replace b := ifT b hb131
         refine qj rfl rfl rfl (vb hb131) (qb (qh xe rfl) (qj rfl rfl rfl (vb hb131) (qb (qh fo26_0 rfl) (qj rfl rfl rfl (vb hb131) (qp H102 (i := 1) rfl (Lens.then zq zZ) (qz .i64) ty3 rfl (qj rfl rfl rfl (vb hb131) (qb (qa (.bool (r60.1.A.State == 8)) rfl) (qb (qB (.bool (r60.1.A.State == 8)) (vb hb131) rfl) (qb (qa (.bool (r60.1.A.State == 8)) rfl) ?_)))))))))
         rcases qm (r60.1.A.State == 8) with hb132 | hb132
         ·replace b := ifT b hb132
          refine qj rfl rfl rfl (vb hb132) (qb (qh xe rfl) (qj rfl rfl rfl (vb hb132) (qb (qh fo26_2 rfl) (qj rfl rfl rfl (vb hb132) (qp H102 (i := 0) rfl (Lens.then zq zM) (qz .i64) ty3 rfl (qj rfl rfl rfl (vb hb132) (qb (qa (.bool (r83.1.A.Left == 2)) rfl) (qb (qB (.bool (r83.1.A.Left == 2)) (vb hb132) rfl) (qb (qa (.bool (r83.1.A.Left == 2)) rfl) ?_)))))))))
          rcases qm (r83.1.A.Left == 2) with hb133 | hb133
          ·replace b := ifT b hb133
           refine qj rfl rfl rfl (vb hb133) ?_
           refine ql H102 (i := 2) rfl (Lens.id qv) zG rfl ?_
           intro v134 hv135
           refine qj rfl rfl rfl (vb hb133) ?_
           obtain ⟨r136, hr137, b⟩ := qu b
           refine qo (vs := [v134]) en68 rfl (nego_Magic_ok k hv135 H102 hr137) ?_
           rintro v142 w141 ⟨G138, hG139, rfl, H140⟩
           refine qj rfl rfl rfl (vb hb133) (qb (qa (.bool (r136 == 7)) rfl) (qb (qB (.bool (r136 == 7)) (vb hb133) rfl) (qb (qa (.bool (r136 == 7)) rfl) ?_)))
           rcases qm (r136 == 7) with hb143 | hb143
           ·replace b := ifT b hb143
            refine qj rfl rfl rfl (vb hb143) ?_
            refine ql H140 (i := 2) rfl (Lens.id qv) zG rfl ?_
            intro v144 hv145
            refine qj rfl rfl rfl (vb hb143) ?_
            obtain ⟨r146, hr147, b⟩ := qu b
            refine qo (vs := [v144]) en69 rfl (nego_Right_ok k hv145 H140 hr147) ?_
            rintro v152 w151 ⟨G148, hG149, rfl, H150⟩
            refine qb (qB (.bool r146) (vb hb143) rfl) (qb (qa (.bool r146) rfl) ?_)
            rcases qm r146 with hb153 | hb153
            ·replace b := ifT b hb153
             refine qj rfl rfl rfl (vb hb153) ?_
             refine ql H150 (i := 3) rfl (Lens.id qv) zG rfl ?_
             intro v154 hv155
             refine qj rfl rfl rfl (vb hb153) ?_
             refine ql H150 (i := 3) rfl (Lens.id qv) zG rfl ?_
             intro v156 hv157
             refine qj rfl rfl rfl (vb hb153) ?_
             obtain ⟨r158, hr159, b⟩ := qu b
             refine qo (vs := [v154, v156]) en70 rfl (nego_Same_ok k hv155 hv157 H150 hr159) ?_
             rintro v164 w163 ⟨G160, hG161, rfl, H162⟩
             refine qb (qB (.bool r158) (vb hb153) rfl) (qb (qa (.bool r158) rfl) (qd (qe (wp_ret ?_))))
             have b := yq b
             subst b
             exact qt rfl (RV.tmp rfl RV.nil) ⟨_, (((((((hG6.trans hG15).trans hG38).trans hG63).trans hG86).trans hG139).trans hG149).trans hG161), rfl, (St.pk [] 4 H162 rfl (by decide))⟩
            replace b := ifF b hb153
            iterate 3 refine qJ rfl rfl rfl (vb hb153) ?_
            refine qb (qr (.bool false) (vb hb153) rfl) (qb (qa (.bool false) rfl) (qd (qe (wp_ret ?_))))
            have b := yq b
            subst b
            exact qt rfl (RV.tmp rfl RV.nil) ⟨_, ((((((hG6.trans hG15).trans hG38).trans hG63).trans hG86).trans hG139).trans hG149), rfl, (St.pk [] 4 H150 rfl (by decide))⟩
           replace b := ifF b hb143
           iterate 2 refine qJ rfl rfl rfl (vb hb143) ?_
           refine qb (qr (.bool false) (vb hb143) rfl) (qb (qa (.bool false) rfl) ?_)
           iterate 3 refine qJ rfl rfl rfl rfl ?_
           refine qb (qr (.bool false) rfl rfl) (qb (qa (.bool false) rfl) (qd (qe (wp_ret ?_))))
           have b := yq b
           subst b
           exact qt rfl (RV.tmp rfl RV.nil) ⟨_, (((((hG6.trans hG15).trans hG38).trans hG63).trans hG86).trans hG139), rfl, (St.pk [] 4 H140 rfl (by decide))⟩
          replace b := ifF b hb133
          iterate 3 refine qJ rfl rfl rfl (vb hb133) ?_
          refine qb (qr (.bool false) (vb hb133) rfl) (qb (qa (.bool false) rfl) ?_)
          iterate 2 refine qJ rfl rfl rfl rfl ?_
          refine qb (qr (.bool false) rfl rfl) (qb (qa (.bool false) rfl) ?_)
          iterate 3 refine qJ rfl rfl rfl rfl ?_
          refine qb (qr (.bool false) rfl rfl) (qb (qa (.bool false) rfl) (qd (qe (wp_ret ?_))))
          have b := yq b
          subst b
          exact qt rfl (RV.tmp rfl RV.nil) ⟨_, ((((hG6.trans hG15).trans hG38).trans hG63).trans hG86), rfl, (St.pk [] 4 H102 rfl (by decide))⟩
         replace b := ifF b hb132
         iterate 4 refine qJ rfl rfl rfl (vb hb132) ?_
         refine qb (qr (.bool false) (vb hb132) rfl) (qb (qa (.bool false) rfl) ?_)
         iterate 3 refine qJ rfl rfl rfl rfl ?_
         refine qb (qr (.bool false) rfl rfl) (qb (qa (.bool false) rfl) ?_)
         iterate 2 refine qJ rfl rfl rfl rfl ?_
         refine qb (qr (.bool false) rfl rfl) (qb (qa (.bool false) rfl) ?_)
         iterate 3 refine qJ rfl rfl rfl rfl ?_
         refine qb (qr (.bool false) rfl rfl) (qb (qa (.bool false) rfl) (qd (qe (wp_ret ?_))))
         have b := yq b
         subst b
         exact qt rfl (RV.tmp rfl RV.nil) ⟨_, ((((hG6.trans hG15).trans hG38).trans hG63).trans hG86), rfl, (St.pk [] 4 H102 rfl (by decide))⟩
        replace b := ifF b hb131
        iterate 4 refine qJ rfl rfl rfl (vb hb131) ?_
        refine qb (qr (.bool false) (vb hb131) rfl) (qb (qa (.bool false) rfl) ?_)
        iterate 4 refine qJ rfl rfl rfl rfl ?_
        refine qb (qr (.bool false) rfl rfl) (qb (qa (.bool false) rfl) ?_)
        iterate 3 refine qJ rfl rfl rfl rfl ?_
        refine qb (qr (.bool false) rfl rfl) (qb (qa (.bool false) rfl) ?_)
        iterate 2 refine qJ rfl rfl rfl rfl ?_
        refine qb (qr (.bool false) rfl rfl) (qb (qa (.bool false) rfl) ?_)
        iterate 3 refine qJ rfl rfl rfl rfl ?_
        refine qb (qr (.bool false) rfl rfl) (qb (qa (.bool false) rfl) (qd (qe (wp_ret ?_))))
        have b := yq b
        subst b
        exact qt rfl (RV.tmp rfl RV.nil) ⟨_, ((((hG6.trans hG15).trans hG38).trans hG63).trans hG86), rfl, (St.pk [] 4 H102 rfl (by decide))⟩
       replace b := ifF b hb126
       iterate 5 refine qJ rfl rfl rfl (vb hb126) ?_
       refine qb (qr (.bool false) (vb hb126) rfl) (qb (qa (.bool false) rfl) ?_)
       iterate 4 refine qJ rfl rfl rfl rfl ?_
       refine qb (qr (.bool false) rfl rfl) (qb (qa (.bool false) rfl) ?_)
       iterate 4 refine qJ rfl rfl rfl rfl ?_
       refine qb (qr (.bool false) rfl rfl) (qb (qa (.bool false) rfl) ?_)
       iterate 3 refine qJ rfl rfl rfl rfl ?_
       refine qb (qr (.bool false) rfl rfl) (qb (qa (.bool false) rfl) ?_)
       iterate 2 refine qJ rfl rfl rfl rfl ?_
       refine qb (qr (.bool false) rfl rfl) (qb (qa (.bool false) rfl) ?_)
       iterate 3 refine qJ rfl rfl rfl rfl ?_
       refine qb (qr (.bool false) rfl rfl) (qb (qa (.bool false) rfl) (qd (qe (wp_ret ?_))))
       have b := yq b
       subst b
       exact qt rfl (RV.tmp rfl RV.nil) ⟨_, ((((hG6.trans hG15).trans hG38).trans hG63).trans hG86), rfl, (St.pk [] 4 H102 rfl (by decide))⟩
      replace b := ifF b hb121
      iterate 5 refine qJ rfl rfl rfl (vb hb121) ?_
      refine qb (qr (.bool false) (vb hb121) rfl) (qb (qa (.bool false) rfl) ?_)
      iterate 5 refine qJ rfl rfl rfl rfl ?_
      refine qb (qr (.bool false) rfl rfl) (qb (qa (.bool false) rfl) ?_)
      iterate 4 refine qJ rfl rfl rfl rfl ?_
      refine qb (qr (.bool false) rfl rfl) (qb (qa (.bool false) rfl) ?_)
      iterate 4 refine qJ rfl rfl rfl rfl ?_
      refine qb (qr (.bool false) rfl rfl) (qb (qa (.bool false) rfl) ?_)
      iterate 3 refine qJ rfl rfl rfl rfl ?_
      refine qb (qr (.bool false) rfl rfl) (qb (qa (.bool false) rfl) ?_)
      iterate 2 refine qJ rfl rfl rfl rfl ?_
      refine qb (qr (.bool false) rfl rfl) (qb (qa (.bool false) rfl) ?_)
      iterate 3 refine qJ rfl rfl rfl rfl ?_
      refine qb (qr (.bool false) rfl rfl) (qb (qa (.bool false) rfl) (qd (qe (wp_ret ?_))))
      have b := yq b
      subst b
      exact qt rfl (RV.tmp rfl RV.nil) ⟨_, ((((hG6.trans hG15).trans hG38).trans hG63).trans hG86), rfl, (St.pk [] 4 H102 rfl (by decide))⟩
     replace b := ifF b hb120
     iterate 3 refine qJ rfl rfl rfl (vb hb120) ?_
     refine qb (qr (.bool false) (vb hb120) rfl) (qb (qa (.bool false) rfl) ?_)
     iterate 5 refine qJ rfl rfl rfl rfl ?_
     refine qb (qr (.bool false) rfl rfl) (qb (qa (.bool false) rfl) ?_)
     iterate 5 refine qJ rfl rfl rfl rfl ?_
     refine qb (qr (.bool false) rfl rfl) (qb (qa (.bool false) rfl) ?_)
     iterate 4 refine qJ rfl rfl rfl rfl ?_
     refine qb (qr (.bool false) rfl rfl) (qb (qa (.bool false) rfl) ?_)
     iterate 4 refine qJ rfl rfl rfl rfl ?_
     refine qb (qr (.bool false) rfl rfl) (qb (qa (.bool false) rfl) ?_)
     iterate 3 refine qJ rfl rfl rfl rfl ?_
     refine qb (qr (.bool false) rfl rfl) (qb (qa (.bool false) rfl) ?_)
     iterate 2 refine qJ rfl rfl rfl rfl ?_
     refine qb (qr (.bool false) rfl rfl) (qb (qa (.bool false) rfl) ?_)
     iterate 3 refine qJ rfl rfl rfl rfl ?_
     refine qb (qr (.bool false) rfl rfl) (qb (qa (.bool false) rfl) (qd (qe (wp_ret ?_))))
     have b := yq b
     subst b
     exact qt rfl (RV.tmp rfl RV.nil) ⟨_, ((((hG6.trans hG15).trans hG38).trans hG63).trans hG86), rfl, (St.pk [] 4 H102 rfl (by decide))⟩
    replace b := ifF b hb115
    iterate 5 refine qJ rfl rfl rfl (vb hb115) ?_
    refine qb (qr (.bool false) (vb hb115) rfl) (qb (qa (.bool false) rfl) ?_)
    iterate 3 refine qJ rfl rfl rfl rfl ?_
    refine qb (qr (.bool false) rfl rfl) (qb (qa (.bool false) rfl) ?_)
    iterate 5 refine qJ rfl rfl rfl rfl ?_
    refine qb (qr (.bool false) rfl rfl) (qb (qa (.bool false) rfl) ?_)
    iterate 5 refine qJ rfl rfl rfl rfl ?_
    refine qb (qr (.bool false) rfl rfl) (qb (qa (.bool false) rfl) ?_)
    iterate 4 refine qJ rfl rfl rfl rfl ?_
    refine qb (qr (.bool false) rfl rfl) (qb (qa (.bool false) rfl) ?_)
    iterate 4 refine qJ rfl rfl rfl rfl ?_
    refine qb (qr (.bool false) rfl rfl) (qb (qa (.bool false) rfl) ?_)
    iterate 3 refine qJ rfl rfl rfl rfl ?_
    refine qb (qr (.bool false) rfl rfl) (qb (qa (.bool false) rfl) ?_)
    iterate 2 refine qJ rfl rfl rfl rfl ?_
    refine qb (qr (.bool false) rfl rfl) (qb (qa (.bool false) rfl) ?_)
    iterate 3 refine qJ rfl rfl rfl rfl ?_
    refine qb (qr (.bool false) rfl rfl) (qb (qa (.bool false) rfl) (qd (qe (wp_ret ?_))))
    have b := yq b
    subst b
    exact qt rfl (RV.tmp rfl RV.nil) ⟨_, ((((hG6.trans hG15).trans hG38).trans hG63).trans hG86), rfl, (St.pk [] 4 H102 rfl (by decide))⟩
   replace b := ifF b hb110
   iterate 5 refine qJ rfl rfl rfl (vb hb110) ?_
   refine qb (qr (.bool false) (vb hb110) rfl) (qb (qa (.bool false) rfl) ?_)
   iterate 5 refine qJ rfl rfl rfl rfl ?_
   refine qb (qr (.bool false) rfl rfl) (qb (qa (.bool false) rfl) ?_)
   iterate 3 refine qJ rfl rfl rfl rfl ?_
   refine qb (qr (.bool false) rfl rfl) (qb (qa (.bool false) rfl) ?_)
   iterate 5 refine qJ rfl rfl rfl rfl ?_
   refine qb (qr (.bool false) rfl rfl) (qb (qa (.bool false) rfl) ?_)
   iterate 5 refine qJ rfl rfl rfl rfl ?_
   refine qb (qr (.bool false) rfl rfl) (qb (qa (.bool false) rfl) ?_)
   iterate 4 refine qJ rfl rfl rfl rfl ?_
   refine qb (qr (.bool false) rfl rfl) (qb (qa (.bool false) rfl) ?_)
   iterate 4 refine qJ rfl rfl rfl rfl ?_
   refine qb (qr (.bool false) rfl rfl) (qb (qa (.bool false) rfl) ?_)
   iterate 3 refine qJ rfl rfl rfl rfl ?_
   refine qb (qr (.bool false) rfl rfl) (qb (qa (.bool false) rfl) ?_)
   iterate 2 refine qJ rfl rfl rfl rfl ?_
   refine qb (qr (.bool false) rfl rfl) (qb (qa (.bool false) rfl) ?_)
   iterate 3 refine qJ rfl rfl rfl rfl ?_
   refine qb (qr (.bool false) rfl rfl) (qb (qa (.bool false) rfl) (qd (qe (wp_ret ?_))))
   have b := yq b
   subst b
   exact qt rfl (RV.tmp rfl RV.nil) ⟨_, ((((hG6.trans hG15).trans hG38).trans hG63).trans hG86), rfl, (St.pk [] 4 H102 rfl (by decide))⟩
  replace b := ifF b hb109
  iterate 3 refine qJ rfl rfl rfl (vb hb109) ?_
  refine qb (qr (.bool false) (vb hb109) rfl) (qb (qa (.bool false) rfl) ?_)
  iterate 5 refine qJ rfl rfl rfl rfl ?_
  refine qb (qr (.bool false) rfl rfl) (qb (qa (.bool false) rfl) ?_)
  iterate 5 refine qJ rfl rfl rfl rfl ?_
  refine qb (qr (.bool false) rfl rfl) (qb (qa (.bool false) rfl) ?_)
  iterate 3 refine qJ rfl rfl rfl rfl ?_
  refine qb (qr (.bool false) rfl rfl) (qb (qa (.bool false) rfl) ?_)
  iterate 5 refine qJ rfl rfl rfl rfl ?_
  refine qb (qr (.bool false) rfl rfl) (qb (qa (.bool false) rfl) ?_)
  iterate 5 refine qJ rfl rfl rfl rfl ?_
  refine qb (qr (.bool false) rfl rfl) (qb (qa (.bool false) rfl) ?_)
  iterate 4 refine qJ rfl rfl rfl rfl ?_
  refine qb (qr (.bool false) rfl rfl) (qb (qa (.bool false) rfl) ?_)
  iterate 4 refine qJ rfl rfl rfl rfl ?_
  refine qb (qr (.bool false) rfl rfl) (qb (qa (.bool false) rfl) ?_)
  iterate 3 refine qJ rfl rfl rfl rfl ?_
  refine qb (qr (.bool false) rfl rfl) (qb (qa (.bool false) rfl) ?_)
  iterate 2 refine qJ rfl rfl rfl rfl ?_
  refine qb (qr (.bool false) rfl rfl) (qb (qa (.bool false) rfl) ?_)
  iterate 3 refine qJ rfl rfl rfl rfl ?_
  refine qb (qr (.bool false) rfl rfl) (qb (qa (.bool false) rfl) (qd (qe (wp_ret ?_))))
  have b := yq b
  subst b
  exact qt rfl (RV.tmp rfl RV.nil) ⟨_, ((((hG6.trans hG15).trans hG38).trans hG63).trans hG86), rfl, (St.pk [] 4 H102 rfl (by decide))⟩
 replace b := ifF b hb104
 iterate 4 refine qJ rfl rfl rfl (vb hb104) ?_
 refine qb (qr (.bool false) (vb hb104) rfl) (qb (qa (.bool false) rfl) ?_)
 iterate 3 refine qJ rfl rfl rfl rfl ?_
 refine qb (qr (.bool false) rfl rfl) (qb (qa (.bool false) rfl) ?_)
 iterate 5 refine qJ rfl rfl rfl rfl ?_
 refine qb (qr (.bool false) rfl rfl) (qb (qa (.bool false) rfl) ?_)
 iterate 5 refine qJ rfl rfl rfl rfl ?_
 refine qb (qr (.bool false) rfl rfl) (qb (qa (.bool false) rfl) ?_)
 iterate 3 refine qJ rfl rfl rfl rfl ?_
 refine qb (qr (.bool false) rfl rfl) (qb (qa (.bool false) rfl) ?_)
 iterate 5 refine qJ rfl rfl rfl rfl ?_
 refine qb (qr (.bool false) rfl rfl) (qb (qa (.bool false) rfl) ?_)
 iterate 5 refine qJ rfl rfl rfl rfl ?_
 refine qb (qr (.bool false) rfl rfl) (qb (qa (.bool false) rfl) ?_)
 iterate 4 refine qJ rfl rfl rfl rfl ?_
 refine qb (qr (.bool false) rfl rfl) (qb (qa (.bool false) rfl) ?_)
 iterate 4 refine qJ rfl rfl rfl rfl ?_
 refine qb (qr (.bool false) rfl rfl) (qb (qa (.bool false) rfl) ?_)
 iterate 3 refine qJ rfl rfl rfl rfl ?_
 refine qb (qr (.bool false) rfl rfl) (qb (qa (.bool false) rfl) ?_)
 iterate 2 refine qJ rfl rfl rfl rfl ?_
 refine qb (qr (.bool false) rfl rfl) (qb (qa (.bool false) rfl) ?_)
 iterate 3 refine qJ rfl rfl rfl rfl ?_
 refine qb (qr (.bool false) rfl rfl) (qb (qa (.bool false) rfl) (qd (qe (wp_ret ?_))))
 have b := yq b
 subst b
 exact qt rfl (RV.tmp rfl RV.nil) ⟨_, ((((hG6.trans hG15).trans hG38).trans hG63).trans hG86), rfl, (St.pk [] 4 H102 rfl (by decide))⟩

theorem pr10_Few_ok {c : World} (k : Hc c) {G : qk} {w : World} {σ : List Ent} {a0 : (List TOpt)} {A0_ : Option Addr} {c0_ : Nat} (h0_ : SlR qx G A0_ c0_ a0) (H : St c G w (σ)) {r : Bool} (b : pr10_Few a0 = some r) :
  Calls Tryz.prog 71 ([(.slice A0_ a0.length c0_)] : List Value).toArray w (zu fun v w' => ∃ (G' : qk), GLe G G' ∧ tup [(.bool r)] = v ∧ St c G' w' (σ)) := by
 unfold pr10_Few at b
 refine qG Tryz.func71 rfl rfl rfl (wp_seq (qc (qb (qa (.bool false) rfl) (qd (qe (wp_seq (wp_seq (qc (qb (qa (.int .i64 0) rfl) (qd (qe (wp_block ?_))))))))))))
 refine ja (fun (s : Int) a w => ∃ (T0 : Fr) (G1 : qk), a = mk 21 (qQ T0 [(0, (.slice A0_ a0.length c0_)), (3, (.int .i64 s))]) ∧ GLe G G1 ∧ St c G1 w (σ)) b ?_ ?_
 ·exact ⟨_, _, qf _ ⟨rfl, rfl, yp⟩, GLe.refl _, H⟩
 rintro x16 a w y19 ⟨T0, G20, rfl, hG17, H18⟩ b hy1
 refine wp_seq (wp_seq (qc (qb (qa (.int .i64 x16) rfl) (qb (qa (.slice A0_ a0.length c0_) rfl) (qb (zb zQ rfl) (qb (qa (.bool (decide (x16 < (a0.length : Int)))) rfl) (qd (qe ?_))))))))
 rcases qm (decide (x16 < (a0.length : Int))) with hb21 | hb21
 ·replace b := ifT b hb21
  refine qs (vb hb21) (wp_skip (qe (wp_seq (wp_block ?_))))
  refine wp_seq (join (fun a w => ∃ (T0 G1 : _) (x32 : Bool), a = mk 21 (qQ T0 [(0, (.slice A0_ a0.length c0_)), (3, (.int .i64 x16)), (20, (.bool x32))]) ∧ GLe G20 G1 ∧ St c G1 w (σ) ∧ pr10_Few_j2 x16 x32 = some y19) ?_ ?_)
  ·rintro a w ⟨T0, G35, x32, rfl, hG33, H34, b⟩
   rcases qm x32 with hb36 | hb36
   ·replace b := ifT b hb36
    refine qs (vb hb36) (wp_seq (qc (qb (qa (.bool false) rfl) (qd (qe (wp_ret (zg ?_)))))))
    iterate 2 refine qI ?_
    replace b := jJ b hy1
    refine zg (qI ?_)
    have b := yq b
    subst b
    exact qt rfl (RV.tmp rfl RV.nil) ⟨_, (hG17.trans hG33), rfl, H34⟩
   replace b := ifF b hb36
   refine qn (vb hb36) (wp_skip (zn (qe (qc (qb (qa (.int .i64 x16) rfl) ?_)))))
   iterate 2 refine qb (qa (.int .i64 (IntKind.i64.wrap (x16 + 1))) rfl) ?_
   refine qd (qe ?_)
   exact ⟨_, (yq b).symm, _, _, qf _ ⟨rfl, rfl, yp⟩, (hG17.trans hG33), H34⟩
  refine qc (qb (qa (.int .i64 x16) rfl) ?_)
  iterate 2 refine qb (qa (.bool (decide (x16 ≥ 30))) rfl) ?_
  rcases qm (decide (x16 ≥ 30)) with hb37 | hb37
  ·replace b := ifT b hb37
   iterate 7 refine qJ rfl rfl rfl (vb hb37) ?_
   refine qb (qB (.bool true) (vb hb37) rfl) (qd (qe ?_))
   exact ⟨_, _, true, qf _ ⟨rfl, rfl, rfl, yp⟩, GLe.refl _, H18, b⟩
  replace b := ifF b hb37
  refine qj rfl rfl rfl (vb hb37) (qb (qa (.slice A0_ a0.length c0_) rfl) (qj rfl rfl rfl (vb hb37) (qb (qa (.int .i64 x16) rfl) (qj rfl rfl rfl (vb hb37) ?_))))
  obtain ⟨x38, hx39, b⟩ := qu b
  refine qR (qY (h0_.mono hG17) zQ zc rfl rfl hx39) ?_
  intro a40 hp41
  refine qj rfl rfl rfl (vb hb37) (qb (jW jp rfl) (qj rfl rfl rfl (vb hb37) ?_))
  refine zH H18 (hp41.lens qZ) jy rfl ?_
  intro v42 hv43
  obtain ⟨A44, c45, rfl, hs46⟩ := qN hv43
  refine qj rfl rfl rfl (vb hb37) (qb (zb zJ rfl) (qj rfl rfl rfl (vb hb37) (qb (qa (.bool (decide ((x38.Data.length : Int) > 253))) rfl) (qb (qr (.bool (decide ((x38.Data.length : Int) > 253))) (vb hb37) rfl) (qd (qe ?_))))))
  exact ⟨_, _, (decide ((x38.Data.length : Int) > 253)), qf _ ⟨rfl, rfl, rfl, yp⟩, GLe.refl _, H18, b⟩
 replace b := ifF b hb21
 refine qn (vb hb21) ?_
 refine wp_exit ?_
 iterate 2 refine xB ?_
 replace b := jJ b hy1
 refine blk_e ?_
 refine qe (wp_seq (qc (qb (qa (.bool true) rfl) (qd (qe (wp_ret ?_))))))
 have b := yq b
 subst b
 exact qt rfl (RV.tmp rfl RV.nil) ⟨_, hG17, rfl, H18⟩

theorem pr14_Small_ok {c : World} (k : Hc c) {G : qk} {w : World} {σ : List Ent} {a0 : TNego} {v0_ : Value} (h0_ : qv.V G v0_ a0) (H : St c G w (σ)) {r : Bool} (b : pr14_Small a0 = some r) :
  Calls Tryz.prog 25 ([v0_] : List Value).toArray w (zu fun v w' => ∃ (G' : qk), GLe G G' ∧ tup [(.bool r)] = v ∧ St c G' w' (σ)) := by
 unfold pr14_Small at b
 refine qG Tryz.func25 rfl rfl rfl (wp_seq (qc ?_))
 refine zp (K := qv) (x := a0) H rfl h0_ ?_
 intro b1 w4 H2
 refine qb (qa (.bool false) rfl) (qd (qe (wp_seq (qc (qb (qh fo32_2 rfl) ?_)))))
 refine ql H2 (i := 0) rfl zD ty30 rfl ?_
 intro v5 hv6
 obtain ⟨A7, c8, rfl, hs9⟩ := qN hv6
 obtain ⟨r10, hr11, b⟩ := qu b
 refine qo (vs := [(.slice A7 a0.Ours.length c8)]) en71 rfl (pr10_Few_ok k hs9 H2 hr11) ?_
 rintro v16 w15 ⟨G12, hG13, rfl, H14⟩
 refine qb (qa (.bool r10) rfl) (qd (qe (wp_seq (qc (qb (qh fo32_4 rfl) ?_)))))
 refine ql H14 (i := 0) rfl lTNego_Peer ty30 rfl ?_
 intro v17 hv18
 obtain ⟨A19, c20, rfl, hs21⟩ := qN hv18
 obtain ⟨r22, hr23, b⟩ := qu b
 refine qo (vs := [(.slice A19 a0.Peer.length c20)]) en71 rfl (pr10_Few_ok k hs21 H14 hr23) ?_
 rintro v28 w27 ⟨G24, hG25, rfl, H26⟩
 refine qb (qa (.bool r22) rfl) (qd (qe (wp_seq (qc ?_))))
 iterate 2 refine qb (qa (.bool r10) rfl) ?_
 rcases qm r10 with hb29 | hb29
 ·replace b := ifT b hb29
  refine qj rfl rfl rfl (vb hb29) (qb (qa (.bool r22) rfl) (qb (qB (.bool r22) (vb hb29) rfl) (qb (qa (.bool r22) rfl) (qd (qe (wp_ret ?_))))))
  have b := yq b
  subst b
  exact qt rfl (RV.tmp rfl RV.nil) ⟨_, (hG13.trans hG25), rfl, (St.pk [] 1 H26 rfl (by decide))⟩
 replace b := ifF b hb29
 refine qJ rfl rfl rfl (vb hb29) (qb (qr (.bool false) (vb hb29) rfl) (qb (qa (.bool false) rfl) (qd (qe (wp_ret ?_)))))
 have b := yq b
 subst b
 exact qt rfl (RV.tmp rfl RV.nil) ⟨_, (hG13.trans hG25), rfl, (St.pk [] 1 H26 rfl (by decide))⟩

theorem pr11_Timed_ok {c : World} (k : Hc c) {G : qk} {w : World} {σ : List Ent} {a0 : Int}  (H : St c G w (σ)) {r : Bool} (b : xl a0 = some r) :
  Calls Tryz.prog 134 ([(.int .i64 a0)] : List Value).toArray w (zu fun v w' => ∃ (G' : qk), GLe G G' ∧ tup [(.bool r)] = v ∧ St c G' w' (σ)) := by
 unfold xl at b
 refine qG Tryz.func134 rfl rfl rfl (wp_seq (qc (qb (qa (.bool false) rfl) (qd (qe (wp_seq (qc (qb (qa (.int .i64 a0) rfl) ?_))))))))
 iterate 2 refine qb (qa (.bool (decide (a0 ≥ 4))) rfl) ?_
 rcases qm (decide (a0 ≥ 4)) with hb1 | hb1
 ·replace b := ifT b hb1
  refine qj rfl rfl rfl (vb hb1) (qb (qa (.int .i64 a0) rfl) (qj rfl rfl rfl (vb hb1) (qb (qa (.bool (decide (a0 ≤ 8))) rfl) (qb (qB (.bool (decide (a0 ≤ 8))) (vb hb1) rfl) (qb (qa (.bool (decide (a0 ≤ 8))) rfl) (qd (qe (wp_ret ?_))))))))
  have b := yq b
  subst b
  exact qt rfl (RV.tmp rfl RV.nil) ⟨_, GLe.refl _, rfl, H⟩
 replace b := ifF b hb1
 iterate 2 refine qJ rfl rfl rfl (vb hb1) ?_
 refine qb (qr (.bool false) (vb hb1) rfl) (qb (qa (.bool false) rfl) (qd (qe (wp_ret ?_))))
 have b := yq b
 subst b
 exact qt rfl (RV.tmp rfl RV.nil) ⟨_, GLe.refl _, rfl, H⟩
end Go.Proofs.YtadlndnagfnlgaaGreatDoor.W
