/- Calls come to what the plain functions say: written by a program (gen.py). -/
import Derived.Test.YtadlndnagfnlgaaGreatDoorG
import Derived.Test.YtadlndnagfnlgaaGreatDoorF1
import Derived.Test.YtadlndnagfnlgaaGreatDoorF3
import Derived.Test.YtadlndnagfnlgaaGreatDoorF4
import Derived.Test.YtadlndnagfnlgaaGreatDoorF5
import Derived.Test.YtadlndnagfnlgaaGreatDoorF6
set_option linter.unusedVariables false
set_option maxRecDepth 20000
namespace Go.Proofs.YtadlndnagfnlgaaGreatDoor.W
open Go
set_option maxHeartbeats 4000000
attribute [local irreducible] wpList wpAny Code.wp wpListIn wpAnyIn Code.wpIn
theorem pr14_Take_ok {c : World} (k : Hc c) {G : qk} {w : World} {σ : List Ent} {a0 : TNego} {v0_ : Value} {a1 : TPkt} {v1_ : Value} (h0_ : qv.V G v0_ a0) (h1_ : qC.V G v1_ a1) (H : St c G w (σ)) {r : Tref14_Out} (b : pr14_Take a0 a1 = some r) :
  Calls Tryz.prog 33 ([v0_, v1_] : List Value).toArray w (zu fun v w' => ∃ (G' : qk) (v1' : Value), GLe G G' ∧ tup [v1'] = v ∧ St c G' w' (σ) ∧ qE.V G' v1' r) := by
 unfold pr14_Take at b
 refine qG Tryz.func33 rfl rfl rfl (wp_seq (qc ?_))
 refine zp (K := qv) (x := a0) H rfl h0_ ?_
 intro b1 w4 H2
 refine zp (K := qC) (x := a1) H2 rfl h1_ ?_
 intro b5 w8 H6
 refine qP H6 zr78 ?_
 intro b9 w12 H10
 refine qd (qe (wp_seq (wp_seq (qc (qb (qh xe rfl) (qb (qh fo26_0 rfl) (qp H10 (i := 2) rfl (Lens.then zq zZ) (qz .i64) ty3 rfl (qb (qa (.bool (decide (a0.A.State < 2))) rfl) (qd (qe ?_))))))))))
 rcases qm (decide (a0.A.State < 2)) with hb13 | hb13
 ·replace b := ifT b hb13
  refine qs (vb hb13) (wp_seq (qc ?_))
  refine ql H10 (i := 2) rfl (Lens.id qv) zG rfl ?_
  intro v14 hv15
  refine qR (qT (G := G) zr78 rfl bs78 rfl (Parts.cons fo78_0 jU hv15 (Parts.nil _))) ?_
  intro v16 hv17
  refine qy (z := (Tref14_Out.mk a0 qD.Sent qD.Told qD.L)) H10 (i := 0) rfl (Lens.id qE) yn rfl rfl hv17 ?_
  intro w19 H18
  refine qd (qe (wp_ret (qI ?_)))
  obtain ⟨v20, hv21, hl22⟩ := H18.loadv (i := 0) rfl yn
  have b := yq b
  subst b
  exact qt rfl (RV.cell rfl hl22 RV.nil) ⟨_, v20, GLe.refl _, rfl, (St.pk [] 3 H18 rfl (by decide)), hv21⟩
 replace b := ifF b hb13
 refine qn (vb hb13) (wp_skip (qe (wp_seq ?_)))
 refine wp_seq (join (fun a w => ∃ (T0 G1 : _) (x26 : Bool), a = mk 178 (qQ T0 [(2, (pt b1)), (3, (pt b5)), (4, (pt b9)), (32, (.bool x26))]) ∧ GLe G G1 ∧ St c G1 w ((.box b9 78 (qE.at_ qD)) :: (.box b5 46 (qC.at_ a1)) :: (.box b1 32 (qv.at_ a0)) :: σ) ∧ zK a0 a1 x26 = some r) ?_ ?_)
 ·rintro a w ⟨T0, G29, x26, rfl, hG27, H28, b⟩
  rcases qm x26 with hb30 | hb30
  ·replace b := ifT b hb30
   refine qs (vb hb30) (wp_seq ?_)
   refine jP (f := 10) H28 mixed ?_
   intro w31 H32
   refine xW (by repeat (first | exact PF.base | apply PF.then_ | apply PF.blk)) ?_
   intro B E
   obtain ⟨r37, hr38, b⟩ := qu b
   obtain ⟨r46, hr47, b⟩ := qu b
   refine qF (fuel := 2) (m := 255) (fun a w => ∃ T0 G1 v167 v169, a = mk 178 (qQ T0 [(4, (pt b9)), (33, v167), (38, v169), (40, (.int .u8 a1.Id))]) ∧ GLe G29 G1 ∧ St c G1 w ((.box b9 78 (qE.at_ qD)) :: σ) ∧ qv.V G1 v167 a0 ∧ qC.V G1 v169 r37) ?_ ?_
   ·rintro a w ⟨T0, G166, v167, v169, rfl, hG164, H165, hv168, hv170⟩
    refine qi [8] ⟨qg (m' := 511) fun I j => ?_, yp⟩
    refine qo (vs := [v167, (.int .i64 12), v169, (.int .u8 a1.Id)]) en83 rfl (zt k hv168 hv170 H165 hr47) ?_
    rintro v184 w183 ⟨G180, v185, hG181, rfl, H182, hv186⟩
    refine qd (j _ _ ?_)
    refine qi [9] ⟨qg (m' := 1023) fun I j => ?_, yp⟩
    refine qy (z := r46) H182 (i := 0) rfl (Lens.id qE) yn rfl rfl hv186 ?_
    intro w188 H187
    refine qd (j _ _ (zA (qe (wp_ret (qI ?_)))))
    obtain ⟨v189, hv190, hl191⟩ := H187.loadv (i := 0) rfl yn
    have b := yq b
    subst b
    exact qt rfl (RV.cell rfl hl191 RV.nil) ⟨_, v189, ((hG27.trans hG164).trans hG181), rfl, (St.pk [] 1 H187 rfl (by decide)), hv190⟩
   intro hM163
   refine qF (fuel := 3) (m := 254) (fun a w => ∃ T0 G1 v161, a = mk 178 (qQ T0 [(2, (pt b1)), (4, (pt b9)), (38, v161), (40, (.int .u8 a1.Id))]) ∧ GLe G29 G1 ∧ St c G1 w ((.box b1 32 (qv.at_ a0)) :: (.box b9 78 (qE.at_ qD)) :: σ) ∧ qC.V G1 v161 r37) ?_ ?_
   ·rintro a w ⟨T0, G160, v161, rfl, hG158, H159, hv162⟩
    refine qi [0] ⟨qg (m' := 255) fun I j => ?_, yp⟩
    refine ql H159 (i := 0) rfl (Lens.id qv) zG rfl ?_
    intro v192 hv193
    refine qd (j _ _ ?_)
    exact hM163 _ _ ⟨_, _, v192, v161, qf _ ⟨rfl, rfl, rfl, rfl, yp⟩, hG158, (St.pk [1] 2 H159 rfl (by decide)), hv193, hv162⟩
   intro hM157
   refine qF (fuel := 3) (m := 223) (fun a w => ∃ T0 G1 v153 v155, a = mk 178 (qQ T0 [(4, (pt b9)), (33, v153), (34, v155), (37, (.int .u8 a0.A.Id)), (40, (.int .u8 a1.Id))]) ∧ GLe G29 G1 ∧ St c G1 w ((.box b9 78 (qE.at_ qD)) :: σ) ∧ qv.V G1 v153 a0 ∧ qC.V G1 v155 a1) ?_ ?_
   ·rintro a w ⟨T0, G152, v153, v155, rfl, hG150, H151, hv154, hv156⟩
    refine qi [5] ⟨qg (m' := 255) fun I j => ?_, yp⟩
    refine qo (vs := [v155, (.int .u8 a0.A.Id)]) en86 rfl (pr09_Reject_ok k hv156 H151 hr38) ?_
    rintro v198 w197 ⟨G194, v199, hG195, rfl, H196, hv200⟩
    refine qd (j _ _ ?_)
    exact hM163 _ _ ⟨_, _, v153, v199, qf _ ⟨rfl, rfl, rfl, rfl, yp⟩, (hG150.trans hG195), H196, (hv154.mono hG195), hv200⟩
   intro hM149
   refine qF (fuel := 3) (m := 127) (fun a w => ∃ T0 G1 v145 v147, a = mk 178 (qQ T0 [(4, (pt b9)), (33, v145), (38, v147), (39, (pu b5 1))]) ∧ GLe G29 G1 ∧ St c G1 w ((.box b9 78 (qE.at_ qD)) :: (.box b5 46 (qC.at_ a1)) :: σ) ∧ qv.V G1 v145 a0 ∧ qC.V G1 v147 r37) ?_ ?_
   ·rintro a w ⟨T0, G144, v145, v147, rfl, hG142, H143, hv146, hv148⟩
    refine qi [7] ⟨qg (m' := 255) fun I j => ?_, yp⟩
    refine qp H143 (i := 1) rfl zf (qz .u8) ty5 rfl (qd (j _ _ ?_))
    exact hM163 _ _ ⟨_, _, v145, v147, qf _ ⟨rfl, rfl, rfl, rfl, yp⟩, hG142, (St.pk [0] 2 H143 rfl (by decide)), hv146, hv148⟩
   intro hM141
   refine qF (fuel := 4) (m := 222) (fun a w => ∃ T0 G1 v139, a = mk 178 (qQ T0 [(2, (pt b1)), (4, (pt b9)), (34, v139), (37, (.int .u8 a0.A.Id)), (40, (.int .u8 a1.Id))]) ∧ GLe G29 G1 ∧ St c G1 w ((.box b1 32 (qv.at_ a0)) :: (.box b9 78 (qE.at_ qD)) :: σ) ∧ qC.V G1 v139 a1) ?_ ?_
   ·rintro a w ⟨T0, G138, v139, rfl, hG136, H137, hv140⟩
    refine qi [0, 5] ⟨?_, ?_, yp⟩
    ·refine qg (m' := 223) fun I j => ?_
     refine ql H137 (i := 0) rfl (Lens.id qv) zG rfl ?_
     intro v201 hv202
     refine qd (j _ _ ?_)
     exact hM149 _ _ ⟨_, _, v201, v139, qf _ ⟨rfl, rfl, rfl, rfl, rfl, yp⟩, hG136, (St.pk [1] 2 H137 rfl (by decide)), hv202, hv140⟩
    refine qg (m' := 254) fun I j => ?_
    refine qo (vs := [v139, (.int .u8 a0.A.Id)]) en86 rfl (pr09_Reject_ok k hv140 H137 hr38) ?_
    rintro v207 w206 ⟨G203, v208, hG204, rfl, H205, hv209⟩
    refine qd (j _ _ ?_)
    exact hM157 _ _ ⟨_, _, v208, qf _ ⟨rfl, rfl, rfl, rfl, yp⟩, (hG136.trans hG204), H205, hv209⟩
   intro hM135
   refine qF (fuel := 4) (m := 221) (fun a w => ∃ T0 G1 v133, a = mk 178 (qQ T0 [(3, (pt b5)), (4, (pt b9)), (33, v133), (37, (.int .u8 a0.A.Id)), (40, (.int .u8 a1.Id))]) ∧ GLe G29 G1 ∧ St c G1 w ((.box b5 46 (qC.at_ a1)) :: (.box b9 78 (qE.at_ qD)) :: σ) ∧ qv.V G1 v133 a0) ?_ ?_
   ·rintro a w ⟨T0, G132, v133, rfl, hG130, H131, hv134⟩
    refine qi [1] ⟨qg (m' := 223) fun I j => ?_, yp⟩
    refine ql H131 (i := 0) rfl (Lens.id qC) ty46 rfl ?_
    intro v210 hv211
    refine qd (j _ _ ?_)
    exact hM149 _ _ ⟨_, _, v133, v210, qf _ ⟨rfl, rfl, rfl, rfl, rfl, yp⟩, hG130, (St.pk [1] 2 H131 rfl (by decide)), hv134, hv211⟩
   intro hM129
   refine qF (fuel := 4) (m := 207) (fun a w => ∃ T0 G1 v125 v127, a = mk 178 (qQ T0 [(4, (pt b9)), (33, v125), (34, v127), (36, (pu b1 3)), (40, (.int .u8 a1.Id))]) ∧ GLe G29 G1 ∧ St c G1 w ((.box b9 78 (qE.at_ qD)) :: (.box b1 32 (qv.at_ a0)) :: σ) ∧ qv.V G1 v125 a0 ∧ qC.V G1 v127 a1) ?_ ?_
   ·rintro a w ⟨T0, G124, v125, v127, rfl, hG122, H123, hv126, hv128⟩
    refine qi [4] ⟨qg (m' := 223) fun I j => ?_, yp⟩
    refine qp H123 (i := 1) rfl (Lens.then zq zT) (qz .u8) ty5 rfl (qd (j _ _ ?_))
    exact hM149 _ _ ⟨_, _, v125, v127, qf _ ⟨rfl, rfl, rfl, rfl, rfl, yp⟩, hG122, (St.pk [0] 2 H123 rfl (by decide)), hv126, hv128⟩
   intro hM121
   refine qF (fuel := 4) (m := 95) (fun a w => ∃ T0 G1 v110 v112, a = mk 178 (qQ T0 [(4, (pt b9)), (33, v110), (34, v112), (37, (.int .u8 a0.A.Id)), (39, (pu b5 1))]) ∧ GLe G29 G1 ∧ St c G1 w ((.box b9 78 (qE.at_ qD)) :: (.box b5 46 (qC.at_ a1)) :: σ) ∧ qv.V G1 v110 a0 ∧ qC.V G1 v112 a1) ?_ ?_
   ·rintro a w ⟨T0, G109, v110, v112, rfl, hG107, H108, hv111, hv113⟩
    refine qi [5, 7] ⟨?_, ?_, yp⟩
    ·refine qg (m' := 127) fun I j => ?_
     refine qo (vs := [v112, (.int .u8 a0.A.Id)]) en86 rfl (pr09_Reject_ok k hv113 H108 hr38) ?_
     rintro v216 w215 ⟨G212, v217, hG213, rfl, H214, hv218⟩
     refine qd (j _ _ ?_)
     exact hM141 _ _ ⟨_, _, v110, v217, qf _ ⟨rfl, rfl, rfl, rfl, yp⟩, (hG107.trans hG213), H214, (hv111.mono hG213), hv218⟩
    refine qg (m' := 223) fun I j => ?_
    refine qp H108 (i := 1) rfl zf (qz .u8) ty5 rfl (qd (j _ _ ?_))
    exact hM149 _ _ ⟨_, _, v110, v112, qf _ ⟨rfl, rfl, rfl, rfl, rfl, yp⟩, hG107, (St.pk [0] 2 H108 rfl (by decide)), hv111, hv113⟩
   intro hM106
   refine qF (fuel := 5) (m := 220) (fun a w => ∃ T0 G1, a = mk 178 (qQ T0 [(2, (pt b1)), (3, (pt b5)), (4, (pt b9)), (37, (.int .u8 a0.A.Id)), (40, (.int .u8 a1.Id))]) ∧ GLe G29 G1 ∧ St c G1 w ((.box b1 32 (qv.at_ a0)) :: (.box b5 46 (qC.at_ a1)) :: (.box b9 78 (qE.at_ qD)) :: σ)) ?_ ?_
   ·rintro a w ⟨T0, G105, rfl, hG103, H104⟩
    refine qi [0, 1] ⟨?_, ?_, yp⟩
    ·refine qg (m' := 221) fun I j => ?_
     refine ql H104 (i := 0) rfl (Lens.id qv) zG rfl ?_
     intro v219 hv220
     refine qd (j _ _ ?_)
     exact hM129 _ _ ⟨_, _, v219, qf _ ⟨rfl, rfl, rfl, rfl, rfl, yp⟩, hG103, (St.pk [1, 2] 3 H104 rfl (by decide)), hv220⟩
    refine qg (m' := 222) fun I j => ?_
    refine ql H104 (i := 1) rfl (Lens.id qC) ty46 rfl ?_
    intro v221 hv222
    refine qd (j _ _ ?_)
    exact hM135 _ _ ⟨_, _, v221, qf _ ⟨rfl, rfl, rfl, rfl, rfl, yp⟩, hG103, (St.pk [0, 2] 3 H104 rfl (by decide)), hv222⟩
   intro hM102
   refine qF (fuel := 5) (m := 206) (fun a w => ∃ T0 G1 v100, a = mk 178 (qQ T0 [(2, (pt b1)), (4, (pt b9)), (34, v100), (36, (pu b1 3)), (40, (.int .u8 a1.Id))]) ∧ GLe G29 G1 ∧ St c G1 w ((.box b1 32 (qv.at_ a0)) :: (.box b9 78 (qE.at_ qD)) :: σ) ∧ qC.V G1 v100 a1) ?_ ?_
   ·rintro a w ⟨T0, G99, v100, rfl, hG97, H98, hv101⟩
    refine qi [0, 4] ⟨?_, ?_, yp⟩
    ·refine qg (m' := 207) fun I j => ?_
     refine ql H98 (i := 0) rfl (Lens.id qv) zG rfl ?_
     intro v223 hv224
     refine qd (j _ _ ?_)
     exact hM121 _ _ ⟨_, _, v223, v100, qf _ ⟨rfl, rfl, rfl, rfl, rfl, yp⟩, hG97, (St.pk [1, 0] 2 H98 rfl (by decide)), hv224, hv101⟩
    refine qg (m' := 222) fun I j => ?_
    refine qp H98 (i := 0) rfl (Lens.then zq zT) (qz .u8) ty5 rfl (qd (j _ _ ?_))
    exact hM135 _ _ ⟨_, _, v100, qf _ ⟨rfl, rfl, rfl, rfl, rfl, yp⟩, hG97, H98, hv101⟩
   intro hM96
   refine qF (fuel := 5) (m := 94) (fun a w => ∃ T0 G1 v87, a = mk 178 (qQ T0 [(2, (pt b1)), (4, (pt b9)), (34, v87), (37, (.int .u8 a0.A.Id)), (39, (pu b5 1))]) ∧ GLe G29 G1 ∧ St c G1 w ((.box b1 32 (qv.at_ a0)) :: (.box b9 78 (qE.at_ qD)) :: (.box b5 46 (qC.at_ a1)) :: σ) ∧ qC.V G1 v87 a1) ?_ ?_
   ·rintro a w ⟨T0, G86, v87, rfl, hG84, H85, hv88⟩
    refine qi [0, 5, 7] ⟨?_, ?_, ?_, yp⟩
    ·refine qg (m' := 95) fun I j => ?_
     refine ql H85 (i := 0) rfl (Lens.id qv) zG rfl ?_
     intro v225 hv226
     refine qd (j _ _ ?_)
     exact hM106 _ _ ⟨_, _, v225, v87, qf _ ⟨rfl, rfl, rfl, rfl, rfl, yp⟩, hG84, (St.pk [1, 2] 3 H85 rfl (by decide)), hv226, hv88⟩
    ·refine qg (m' := 126) fun I j => ?_
     refine qo (vs := [v87, (.int .u8 a0.A.Id)]) en86 rfl (pr09_Reject_ok k hv88 H85 hr38) ?_
     rintro v231 w230 ⟨G227, v232, hG228, rfl, H229, hv233⟩
     refine qd (j _ _ ?_)
     refine qi [0, 7] ⟨?_, ?_, yp⟩
     ·refine qg (m' := 127) fun I j => ?_
      refine ql H229 (i := 0) rfl (Lens.id qv) zG rfl ?_
      intro v234 hv235
      refine qd (j _ _ ?_)
      exact hM141 _ _ ⟨_, _, v234, v232, qf _ ⟨rfl, rfl, rfl, rfl, yp⟩, (hG84.trans hG228), (St.pk [1, 2] 3 H229 rfl (by decide)), hv235, hv233⟩
     refine qg (m' := 254) fun I j => ?_
     refine qp H229 (i := 2) rfl zf (qz .u8) ty5 rfl (qd (j _ _ ?_))
     exact hM157 _ _ ⟨_, _, v232, qf _ ⟨rfl, rfl, rfl, rfl, yp⟩, (hG84.trans hG228), (St.pk [0, 1] 3 H229 rfl (by decide)), hv233⟩
    refine qg (m' := 222) fun I j => ?_
    refine qp H85 (i := 2) rfl zf (qz .u8) ty5 rfl (qd (j _ _ ?_))
    exact hM135 _ _ ⟨_, _, v87, qf _ ⟨rfl, rfl, rfl, rfl, rfl, yp⟩, hG84, (St.pk [0, 1] 3 H85 rfl (by decide)), hv88⟩
   intro hM83
   refine qF (fuel := 5) (m := 205) (fun a w => ∃ T0 G1 v81, a = mk 178 (qQ T0 [(3, (pt b5)), (4, (pt b9)), (33, v81), (36, (pu b1 3)), (40, (.int .u8 a1.Id))]) ∧ GLe G29 G1 ∧ St c G1 w ((.box b5 46 (qC.at_ a1)) :: (.box b9 78 (qE.at_ qD)) :: (.box b1 32 (qv.at_ a0)) :: σ) ∧ qv.V G1 v81 a0) ?_ ?_
   ·rintro a w ⟨T0, G80, v81, rfl, hG78, H79, hv82⟩
    refine qi [1, 4] ⟨?_, ?_, yp⟩
    ·refine qg (m' := 207) fun I j => ?_
     refine ql H79 (i := 0) rfl (Lens.id qC) ty46 rfl ?_
     intro v236 hv237
     refine qd (j _ _ ?_)
     exact hM121 _ _ ⟨_, _, v81, v236, qf _ ⟨rfl, rfl, rfl, rfl, rfl, yp⟩, hG78, (St.pk [1, 2] 3 H79 rfl (by decide)), hv82, hv237⟩
    refine qg (m' := 221) fun I j => ?_
    refine qp H79 (i := 2) rfl (Lens.then zq zT) (qz .u8) ty5 rfl (qd (j _ _ ?_))
    exact hM129 _ _ ⟨_, _, v81, qf _ ⟨rfl, rfl, rfl, rfl, rfl, yp⟩, hG78, (St.pk [0, 1] 3 H79 rfl (by decide)), hv82⟩
   intro hM77
   refine qF (fuel := 5) (m := 93) (fun a w => ∃ T0 G1 v75, a = mk 178 (qQ T0 [(3, (pt b5)), (4, (pt b9)), (33, v75), (37, (.int .u8 a0.A.Id)), (39, (pu b5 1))]) ∧ GLe G29 G1 ∧ St c G1 w ((.box b5 46 (qC.at_ a1)) :: (.box b9 78 (qE.at_ qD)) :: σ) ∧ qv.V G1 v75 a0) ?_ ?_
   ·rintro a w ⟨T0, G74, v75, rfl, hG72, H73, hv76⟩
    refine qi [1, 7] ⟨?_, ?_, yp⟩
    ·refine qg (m' := 95) fun I j => ?_
     refine ql H73 (i := 0) rfl (Lens.id qC) ty46 rfl ?_
     intro v238 hv239
     refine qd (j _ _ ?_)
     exact hM106 _ _ ⟨_, _, v75, v238, qf _ ⟨rfl, rfl, rfl, rfl, rfl, yp⟩, hG72, (St.pk [1, 0] 2 H73 rfl (by decide)), hv76, hv239⟩
    refine qg (m' := 221) fun I j => ?_
    refine qp H73 (i := 0) rfl zf (qz .u8) ty5 rfl (qd (j _ _ ?_))
    exact hM129 _ _ ⟨_, _, v75, qf _ ⟨rfl, rfl, rfl, rfl, rfl, yp⟩, hG72, H73, hv76⟩
   intro hM71
   refine qF (fuel := 5) (m := 79) (fun a w => ∃ T0 G1 v67 v69, a = mk 178 (qQ T0 [(4, (pt b9)), (33, v67), (34, v69), (36, (pu b1 3)), (39, (pu b5 1))]) ∧ GLe G29 G1 ∧ St c G1 w ((.box b9 78 (qE.at_ qD)) :: (.box b1 32 (qv.at_ a0)) :: (.box b5 46 (qC.at_ a1)) :: σ) ∧ qv.V G1 v67 a0 ∧ qC.V G1 v69 a1) ?_ ?_
   ·rintro a w ⟨T0, G66, v67, v69, rfl, hG64, H65, hv68, hv70⟩
    refine qi [4, 7] ⟨?_, ?_, yp⟩
    ·refine qg (m' := 95) fun I j => ?_
     refine qp H65 (i := 1) rfl (Lens.then zq zT) (qz .u8) ty5 rfl (qd (j _ _ ?_))
     exact hM106 _ _ ⟨_, _, v67, v69, qf _ ⟨rfl, rfl, rfl, rfl, rfl, yp⟩, hG64, (St.pk [0, 2] 3 H65 rfl (by decide)), hv68, hv70⟩
    refine qg (m' := 207) fun I j => ?_
    refine qp H65 (i := 2) rfl zf (qz .u8) ty5 rfl (qd (j _ _ ?_))
    exact hM121 _ _ ⟨_, _, v67, v69, qf _ ⟨rfl, rfl, rfl, rfl, rfl, yp⟩, hG64, (St.pk [0, 1] 3 H65 rfl (by decide)), hv68, hv70⟩
   intro hM63
   refine qq (i := 2) (m' := 4) rfl (qh xe rfl) B E ?_
   refine qq (i := 3) (m' := 12) rfl (qh fo26_3 rfl) B E ?_
   refine qq (i := 6) (m' := 76) rfl (qh jw rfl) B E ?_
   refine qi [0, 1, 4, 7] ⟨?_, ?_, ?_, ?_, yp⟩
   ·refine qg (m' := 77) fun I j => ?_
    refine ql H32 (i := 2) rfl (Lens.id qv) zG rfl ?_
    intro v240 hv241
    refine qd (j _ _ ?_)
    refine qi [1, 4, 7] ⟨?_, ?_, ?_, yp⟩
    ·refine qg (m' := 79) fun I j => ?_
     refine ql H32 (i := 1) rfl (Lens.id qC) ty46 rfl ?_
     intro v242 hv243
     refine qd (j _ _ ?_)
     exact hM63 _ _ ⟨_, _, v240, v242, qf _ ⟨rfl, rfl, rfl, rfl, rfl, yp⟩, GLe.refl _, (St.pk [0, 2, 1] 3 H32 rfl (by decide)), hv241, hv243⟩
    ·refine qg (m' := 93) fun I j => ?_
     refine qp H32 (i := 2) rfl (Lens.then zq zT) (qz .u8) ty5 rfl (qd (j _ _ ?_))
     exact hM71 _ _ ⟨_, _, v240, qf _ ⟨rfl, rfl, rfl, rfl, rfl, yp⟩, GLe.refl _, (St.pk [1, 0] 3 H32 rfl (by decide)), hv241⟩
    refine qg (m' := 205) fun I j => ?_
    refine qp H32 (i := 1) rfl zf (qz .u8) ty5 rfl (qd (j _ _ ?_))
    exact hM77 _ _ ⟨_, _, v240, qf _ ⟨rfl, rfl, rfl, rfl, rfl, yp⟩, GLe.refl _, (St.pk [1, 0, 2] 3 H32 rfl (by decide)), hv241⟩
   ·refine qg (m' := 78) fun I j => ?_
    refine ql H32 (i := 1) rfl (Lens.id qC) ty46 rfl ?_
    intro v244 hv245
    refine qd (j _ _ ?_)
    refine qi [0, 4, 7] ⟨?_, ?_, ?_, yp⟩
    ·refine qg (m' := 79) fun I j => ?_
     refine ql H32 (i := 2) rfl (Lens.id qv) zG rfl ?_
     intro v246 hv247
     refine qd (j _ _ ?_)
     exact hM63 _ _ ⟨_, _, v246, v244, qf _ ⟨rfl, rfl, rfl, rfl, rfl, yp⟩, GLe.refl _, (St.pk [0, 2, 1] 3 H32 rfl (by decide)), hv247, hv245⟩
    ·refine qg (m' := 94) fun I j => ?_
     refine qp H32 (i := 2) rfl (Lens.then zq zT) (qz .u8) ty5 rfl (qd (j _ _ ?_))
     exact hM83 _ _ ⟨_, _, v244, qf _ ⟨rfl, rfl, rfl, rfl, rfl, yp⟩, GLe.refl _, (St.pk [2, 0, 1] 3 H32 rfl (by decide)), hv245⟩
    refine qg (m' := 206) fun I j => ?_
    refine qp H32 (i := 1) rfl zf (qz .u8) ty5 rfl (qd (j _ _ ?_))
    exact hM96 _ _ ⟨_, _, v244, qf _ ⟨rfl, rfl, rfl, rfl, rfl, yp⟩, GLe.refl _, (St.pk [2, 0] 3 H32 rfl (by decide)), hv245⟩
   ·refine qg (m' := 92) fun I j => ?_
    refine qp H32 (i := 2) rfl (Lens.then zq zT) (qz .u8) ty5 rfl (qd (j _ _ ?_))
    refine qi [0, 1, 7] ⟨?_, ?_, ?_, yp⟩
    ·refine qg (m' := 93) fun I j => ?_
     refine ql H32 (i := 2) rfl (Lens.id qv) zG rfl ?_
     intro v248 hv249
     refine qd (j _ _ ?_)
     exact hM71 _ _ ⟨_, _, v248, qf _ ⟨rfl, rfl, rfl, rfl, rfl, yp⟩, GLe.refl _, (St.pk [1, 0] 3 H32 rfl (by decide)), hv249⟩
    ·refine qg (m' := 94) fun I j => ?_
     refine ql H32 (i := 1) rfl (Lens.id qC) ty46 rfl ?_
     intro v250 hv251
     refine qd (j _ _ ?_)
     exact hM83 _ _ ⟨_, _, v250, qf _ ⟨rfl, rfl, rfl, rfl, rfl, yp⟩, GLe.refl _, (St.pk [2, 0, 1] 3 H32 rfl (by decide)), hv251⟩
    refine qg (m' := 220) fun I j => ?_
    refine qp H32 (i := 1) rfl zf (qz .u8) ty5 rfl (qd (j _ _ ?_))
    exact hM102 _ _ ⟨_, _, qf _ ⟨rfl, rfl, rfl, rfl, rfl, yp⟩, GLe.refl _, (St.pk [2, 1, 0] 3 H32 rfl (by decide))⟩
   refine qg (m' := 204) fun I j => ?_
   refine qp H32 (i := 1) rfl zf (qz .u8) ty5 rfl (qd (j _ _ ?_))
   refine qi [0, 1, 4] ⟨?_, ?_, ?_, yp⟩
   ·refine qg (m' := 205) fun I j => ?_
    refine ql H32 (i := 2) rfl (Lens.id qv) zG rfl ?_
    intro v252 hv253
    refine qd (j _ _ ?_)
    exact hM77 _ _ ⟨_, _, v252, qf _ ⟨rfl, rfl, rfl, rfl, rfl, yp⟩, GLe.refl _, (St.pk [1, 0, 2] 3 H32 rfl (by decide)), hv253⟩
   ·refine qg (m' := 206) fun I j => ?_
    refine ql H32 (i := 1) rfl (Lens.id qC) ty46 rfl ?_
    intro v254 hv255
    refine qd (j _ _ ?_)
    exact hM96 _ _ ⟨_, _, v254, qf _ ⟨rfl, rfl, rfl, rfl, rfl, yp⟩, GLe.refl _, (St.pk [2, 0] 3 H32 rfl (by decide)), hv255⟩
   refine qg (m' := 220) fun I j => ?_
   refine qp H32 (i := 2) rfl (Lens.then zq zT) (qz .u8) ty5 rfl (qd (j _ _ ?_))
   exact hM102 _ _ ⟨_, _, qf _ ⟨rfl, rfl, rfl, rfl, rfl, yp⟩, GLe.refl _, (St.pk [2, 1, 0] 3 H32 rfl (by decide))⟩
  replace b := ifF b hb30
  refine qn (vb hb30) (wp_skip (qe (wp_seq (wp_seq (qc (qb (qh jO rfl) (qp H28 (i := 1) rfl qW (qz .u8) ty5 rfl (qd (qe (wp_block (wp_seq (qc ?_))))))))))))
  iterate 2 refine qb (qa (.bool (a1.Code == 1)) rfl) ?_
  refine qd (qe ?_)
  rcases qm (a1.Code == 1) with hb256 | hb256
  ·replace b := ifT b hb256
   refine qs (vb hb256) (wp_seq (qc ?_))
   refine ql H28 (i := 2) rfl (Lens.id qv) zG rfl ?_
   intro v257 hv258
   refine ql H28 (i := 1) rfl (Lens.id qC) ty46 rfl ?_
   intro v259 hv260
   obtain ⟨r261, hr262, b⟩ := qu b
   refine qo (vs := [v257, v259]) en87 rfl (pr14_request_ok k hv258 hv260 H28 hr262) ?_
   rintro v267 w266 ⟨G263, v268, hG264, rfl, H265, hv269⟩
   refine qy (z := r261) H265 (i := 0) rfl (Lens.id qE) yn rfl rfl hv269 ?_
   intro w271 H270
   refine qd (qe (wp_ret (zg (qI ?_))))
   obtain ⟨v272, hv273, hl274⟩ := H270.loadv (i := 0) rfl yn
   have b := yq b
   subst b
   exact qt rfl (RV.cell rfl hl274 RV.nil) ⟨_, v272, (hG27.trans hG264), rfl, (St.pk [] 3 H270 rfl (by decide)), hv273⟩
  replace b := ifF b hb256
  refine qn (vb hb256) (wp_seq (qc ?_))
  iterate 2 refine qb (qa (.bool (a1.Code == 2)) rfl) ?_
  refine qd (qe ?_)
  rcases qm (a1.Code == 2) with hb275 | hb275
  ·replace b := ifT b hb275
   refine qs (vb hb275) (wp_seq (qc (qb (qh fo32_2 rfl) ?_)))
   refine ql H28 (i := 2) rfl zD ty30 rfl ?_
   intro v276 hv277
   obtain ⟨A278, c279, rfl, hs280⟩ := qN hv277
   obtain ⟨r281, hr282, b⟩ := qu b
   refine qo (vs := [(.slice A278 a0.Ours.length c279)]) en73 rfl (pr10_Bytes_ok k hs280 H28 hr282) ?_
   rintro v287 w286 ⟨G283, A288, c289, hG284, rfl, H285, hs290⟩
   refine qb (qa (.tuple #[(.slice A288 r281.1.length c289), (.int .i64 r281.2)]) rfl) (qb (qa (.slice A288 r281.1.length c289) rfl) (qb (qa (.int .i64 r281.2) rfl) (qb (qa (.slice A288 r281.1.length c289) rfl) (qb (qa (.int .i64 r281.2) rfl) (qd (qe (wp_seq (qc (qb (qa (.slice A288 r281.1.length c289) rfl) (qb (qh xG rfl) ?_))))))))))
   refine ql H285 (i := 1) rfl zm jy rfl ?_
   intro v291 hv292
   obtain ⟨A293, c294, rfl, hs295⟩ := qN hv292
   obtain ⟨r296, hr297, b⟩ := qu b
   refine qo (vs := [(.slice A288 r281.1.length c289), (.slice A293 a1.Data.length c294)]) en20 rfl (pr01_Row_ok k hs290 hs295 H285 hr297) ?_
   rintro v302 w301 ⟨G298, hG299, rfl, H300⟩
   refine qb (qa (.bool r296) rfl) (qd (qe ?_))
   refine wp_seq (join (fun a w => ∃ (T0 G1 : _) (x304 : Bool), a = mk 178 (qQ T0 [(2, (pt b1)), (3, (pt b5)), (4, (pt b9)), (69, (.bool x304))]) ∧ GLe G298 G1 ∧ St c G1 w ((.box b9 78 (qE.at_ qD)) :: (.box b5 46 (qC.at_ a1)) :: (.box b1 32 (qv.at_ a0)) :: σ) ∧ jo a0 a1 x304 = some r) ?_ ?_)
   ·rintro a w ⟨T0, G307, x304, rfl, hG305, H306, b⟩
    rcases qm x304 with hb308 | hb308
    ·replace b := ifT b hb308
     refine qs (vb hb308) (wp_seq (qc ?_))
     refine ql H306 (i := 2) rfl (Lens.id qv) zG rfl ?_
     intro v309 hv310
     refine qR (qT (G := G307) zr46 rfl bs46 rfl (Parts.nil _)) ?_
     intro v311 hv312
     refine qb (qh jw rfl) (qp H306 (i := 1) rfl zf (qz .u8) ty5 rfl ?_)
     obtain ⟨r313, hr314, b⟩ := qu b
     refine qo (vs := [v309, (.int .i64 8), v311, (.int .u8 a1.Id)]) en83 rfl (zt k hv310 hv312 H306 hr314) ?_
     rintro v319 w318 ⟨G315, v320, hG316, rfl, H317, hv321⟩
     refine qy (z := r313) H317 (i := 0) rfl (Lens.id qE) yn rfl rfl hv321 ?_
     intro w323 H322
     refine qd (qe (wp_ret (zg (qI ?_))))
     obtain ⟨v324, hv325, hl326⟩ := H322.loadv (i := 0) rfl yn
     have b := yq b
     subst b
     exact qt rfl (RV.cell rfl hl326 RV.nil) ⟨_, v324, ((((hG27.trans hG284).trans hG299).trans hG305).trans hG316), rfl, (St.pk [] 3 H322 rfl (by decide)), hv325⟩
    replace b := ifF b hb308
    refine qn (vb hb308) (wp_skip (zn (qe (wp_seq (qc ?_)))))
    refine ql H306 (i := 2) rfl (Lens.id qv) zG rfl ?_
    intro v327 hv328
    refine qR (qT (G := G307) zr78 rfl bs78 rfl (Parts.cons fo78_0 jU hv328 (Parts.nil _))) ?_
    intro v329 hv330
    refine qy (z := (Tref14_Out.mk a0 qD.Sent qD.Told qD.L)) H306 (i := 0) rfl (Lens.id qE) yn rfl rfl hv330 ?_
    intro w332 H331
    refine qd (qe (wp_ret ?_))
    obtain ⟨v333, hv334, hl335⟩ := H331.loadv (i := 0) rfl yn
    have b := yq b
    subst b
    exact qt rfl (RV.cell rfl hl335 RV.nil) ⟨_, v333, (((hG27.trans hG284).trans hG299).trans hG305), rfl, (St.pk [] 3 H331 rfl (by decide)), hv334⟩
   refine qc ?_
   iterate 2 refine qb (qa (.bool r296) rfl) ?_
   rcases qm r296 with hb336 | hb336
   ·replace b := ifT b hb336
    refine qj rfl rfl rfl (vb hb336) (qb (qh jw rfl) (qj rfl rfl rfl (vb hb336) (qp H300 (i := 1) rfl zf (qz .u8) ty5 rfl (qj rfl rfl rfl (vb hb336) (qb (qh xe rfl) (qj rfl rfl rfl (vb hb336) (qb (qh fo26_3 rfl) (qj rfl rfl rfl (vb hb336) (qp H300 (i := 2) rfl (Lens.then zq zT) (qz .u8) ty5 rfl ?_)))))))))
    refine qj rfl rfl rfl (vb hb336) (qb (qa (.bool (a1.Id == a0.A.Id)) rfl) (qb (qB (.bool (a1.Id == a0.A.Id)) (vb hb336) rfl) (qd (qe ?_))))
    exact ⟨_, _, (a1.Id == a0.A.Id), qf _ ⟨rfl, rfl, rfl, rfl, yp⟩, GLe.refl _, H300, b⟩
   replace b := ifF b hb336
   iterate 6 refine qJ rfl rfl rfl (vb hb336) ?_
   refine qb (qr (.bool false) (vb hb336) rfl) (qd (qe ?_))
   exact ⟨_, _, false, qf _ ⟨rfl, rfl, rfl, rfl, yp⟩, GLe.refl _, H300, b⟩
  replace b := ifF b hb275
  refine qn (vb hb275) ?_
  refine wp_seq (join (fun a w => ∃ (T0 G1 : _) (x338 : Bool), a = mk 178 (qQ T0 [(2, (pt b1)), (3, (pt b5)), (4, (pt b9)), (43, (.int .u8 a1.Code)), (75, (.bool x338))]) ∧ GLe G29 G1 ∧ St c G1 w ((.box b9 78 (qE.at_ qD)) :: (.box b5 46 (qC.at_ a1)) :: (.box b1 32 (qv.at_ a0)) :: σ) ∧ xq a0 a1 x338 = some r) ?_ ?_)
  ·rintro a w ⟨T0, G341, x338, rfl, hG339, H340, b⟩
   rcases qm x338 with hb342 | hb342
   ·replace b := ifT b hb342
    refine qs (vb hb342) (wp_seq (qc ?_))
    refine ql H340 (i := 2) rfl (Lens.id qv) zG rfl ?_
    intro v343 hv344
    refine ql H340 (i := 1) rfl (Lens.id qC) ty46 rfl ?_
    intro v345 hv346
    obtain ⟨r347, hr348, b⟩ := qu b
    refine qo (vs := [v343, v345]) en88 rfl (pr14_answered_ok k hv344 hv346 H340 hr348) ?_
    rintro v353 w352 ⟨G349, v354, hG350, rfl, H351, hv355⟩
    refine qy (z := r347) H351 (i := 0) rfl (Lens.id qE) yn rfl rfl hv355 ?_
    intro w357 H356
    refine qd (qe (wp_ret (zg (qI ?_))))
    obtain ⟨v358, hv359, hl360⟩ := H356.loadv (i := 0) rfl yn
    have b := yq b
    subst b
    exact qt rfl (RV.cell rfl hl360 RV.nil) ⟨_, v358, ((hG27.trans hG339).trans hG350), rfl, (St.pk [] 3 H356 rfl (by decide)), hv359⟩
   replace b := ifF b hb342
   refine qn (vb hb342) (wp_seq (qc ?_))
   iterate 2 refine qb (qa (.bool (a1.Code == 5)) rfl) ?_
   refine qd (qe ?_)
   rcases qm (a1.Code == 5) with hb361 | hb361
   ·replace b := ifT b hb361
    refine qs (vb hb361) (wp_seq (qc ?_))
    refine ql H340 (i := 2) rfl (Lens.id qv) zG rfl ?_
    intro v362 hv363
    refine qR (qT (G := G341) zr46 rfl bs46 rfl (Parts.nil _)) ?_
    intro v364 hv365
    refine qb (qh jw rfl) (qp H340 (i := 1) rfl zf (qz .u8) ty5 rfl ?_)
    obtain ⟨r366, hr367, b⟩ := qu b
    refine qo (vs := [v362, (.int .i64 10), v364, (.int .u8 a1.Id)]) en83 rfl (zt k hv363 hv365 H340 hr367) ?_
    rintro v372 w371 ⟨G368, v373, hG369, rfl, H370, hv374⟩
    refine qy (z := r366) H370 (i := 0) rfl (Lens.id qE) yn rfl rfl hv374 ?_
    intro w376 H375
    refine qd (qe (wp_ret (zg (qI ?_))))
    obtain ⟨v377, hv378, hl379⟩ := H375.loadv (i := 0) rfl yn
    have b := yq b
    subst b
    exact qt rfl (RV.cell rfl hl379 RV.nil) ⟨_, v377, ((hG27.trans hG339).trans hG369), rfl, (St.pk [] 3 H375 rfl (by decide)), hv378⟩
   replace b := ifF b hb361
   refine qn (vb hb361) (wp_seq (qc ?_))
   iterate 2 refine qb (qa (.bool (a1.Code == 6)) rfl) ?_
   refine qd (qe ?_)
   rcases qm (a1.Code == 6) with hb380 | hb380
   ·replace b := ifT b hb380
    refine qs (vb hb380) (wp_seq (qc ?_))
    refine ql H340 (i := 2) rfl (Lens.id qv) zG rfl ?_
    intro v381 hv382
    refine qR (qT (G := G341) zr46 rfl bs46 rfl (Parts.nil _)) ?_
    intro v383 hv384
    refine qb (qh jw rfl) (qp H340 (i := 1) rfl zf (qz .u8) ty5 rfl ?_)
    obtain ⟨r385, hr386, b⟩ := qu b
    refine qo (vs := [v381, (.int .i64 11), v383, (.int .u8 a1.Id)]) en83 rfl (zt k hv382 hv384 H340 hr386) ?_
    rintro v391 w390 ⟨G387, v392, hG388, rfl, H389, hv393⟩
    refine qy (z := r385) H389 (i := 0) rfl (Lens.id qE) yn rfl rfl hv393 ?_
    intro w395 H394
    refine qd (qe (wp_ret (zg (qI ?_))))
    obtain ⟨v396, hv397, hl398⟩ := H394.loadv (i := 0) rfl yn
    have b := yq b
    subst b
    exact qt rfl (RV.cell rfl hl398 RV.nil) ⟨_, v396, ((hG27.trans hG339).trans hG388), rfl, (St.pk [] 3 H394 rfl (by decide)), hv397⟩
   replace b := ifF b hb380
   refine qn (vb hb380) (wp_seq (qc ?_))
   iterate 2 refine qb (qa (.bool (a1.Code == 7)) rfl) ?_
   refine qd (qe ?_)
   rcases qm (a1.Code == 7) with hb399 | hb399
   ·replace b := ifT b hb399
    refine qs (vb hb399) (wp_seq ?_)
    refine wp_seq (join (fun a w => ∃ (T0 G1 : _) (x425 : Bool), a = mk 178 (qQ T0 [(2, (pt b1)), (3, (pt b5)), (4, (pt b9)), (114, (.bool x425))]) ∧ GLe G341 G1 ∧ St c G1 w ((.box b9 78 (qE.at_ qD)) :: (.box b5 46 (qC.at_ a1)) :: (.box b1 32 (qv.at_ a0)) :: σ) ∧ zX a0 a1 x425 = some r) ?_ ?_)
    ·rintro a w ⟨T0, G428, x425, rfl, hG426, H427, b⟩
     rcases qm x425 with hb429 | hb429
     ·replace b := ifT b hb429
      refine qs (vb hb429) (wp_seq (qc ?_))
      refine ql H427 (i := 2) rfl (Lens.id qv) zG rfl ?_
      intro v430 hv431
      refine qR (qT (G := G428) zr46 rfl bs46 rfl (Parts.nil _)) ?_
      intro v432 hv433
      refine qb (qh jw rfl) (qp H427 (i := 1) rfl zf (qz .u8) ty5 rfl ?_)
      obtain ⟨r434, hr435, b⟩ := qu b
      refine qo (vs := [v430, (.int .i64 14), v432, (.int .u8 a1.Id)]) en83 rfl (zt k hv431 hv433 H427 hr435) ?_
      rintro v440 w439 ⟨G436, v441, hG437, rfl, H438, hv442⟩
      refine qy (z := r434) H438 (i := 0) rfl (Lens.id qE) yn rfl rfl hv442 ?_
      intro w444 H443
      refine qd (qe (wp_ret (qI (zg (qI ?_)))))
      obtain ⟨v445, hv446, hl447⟩ := H443.loadv (i := 0) rfl yn
      have b := yq b
      subst b
      exact qt rfl (RV.cell rfl hl447 RV.nil) ⟨_, v445, (((hG27.trans hG339).trans hG426).trans hG437), rfl, (St.pk [] 3 H443 rfl (by decide)), hv446⟩
     replace b := ifF b hb429
     refine qn (vb hb429) (wp_skip (qe (wp_seq (qc ?_))))
     refine ql H427 (i := 2) rfl (Lens.id qv) zG rfl ?_
     intro v448 hv449
     refine qR (qT (G := G428) zr46 rfl bs46 rfl (Parts.nil _)) ?_
     intro v450 hv451
     refine qb (qh jw rfl) (qp H427 (i := 1) rfl zf (qz .u8) ty5 rfl ?_)
     obtain ⟨r452, hr453, b⟩ := qu b
     refine qo (vs := [v448, (.int .i64 13), v450, (.int .u8 a1.Id)]) en83 rfl (zt k hv449 hv451 H427 hr453) ?_
     rintro v458 w457 ⟨G454, v459, hG455, rfl, H456, hv460⟩
     refine qy (z := r452) H456 (i := 0) rfl (Lens.id qE) yn rfl rfl hv460 ?_
     intro w462 H461
     refine qd (qe (wp_ret (zg (qI ?_))))
     obtain ⟨v463, hv464, hl465⟩ := H461.loadv (i := 0) rfl yn
     have b := yq b
     subst b
     exact qt rfl (RV.cell rfl hl465 RV.nil) ⟨_, v463, (((hG27.trans hG339).trans hG426).trans hG455), rfl, (St.pk [] 3 H461 rfl (by decide)), hv464⟩
    refine qc (qb (qh xG rfl) ?_)
    refine ql H340 (i := 1) rfl zm jy rfl ?_
    intro v466 hv467
    obtain ⟨A468, c469, rfl, hs470⟩ := qN hv467
    refine qb (zb zJ rfl) ?_
    iterate 2 refine qb (qa (.bool (decide ((a1.Data.length : Int) > 0))) rfl) ?_
    rcases qm (decide ((a1.Data.length : Int) > 0)) with hb471 | hb471
    ·replace b := ifT b hb471
     refine qj rfl rfl rfl (vb hb471) (qb (qh xG rfl) (qj rfl rfl rfl (vb hb471) ?_))
     refine ql H340 (i := 1) rfl zm jy rfl ?_
     intro v472 hv473
     obtain ⟨A474, c475, rfl, hs476⟩ := qN hv473
     refine qj rfl rfl rfl (vb hb471) ?_
     obtain ⟨x477, hx478, b⟩ := qu b
     refine qR (qY hs476 zJ ty5 rfl rfl hx478) ?_
     intro a479 hp480
     refine qj rfl rfl rfl (vb hb471) ?_
     refine zd H340 hp480 (qz .u8) ty5 rfl ?_
     refine qj rfl rfl rfl (vb hb471) (qb (qa (.bool (decide (x477 ≥ 1))) rfl) (qb (qB (.bool (decide (x477 ≥ 1))) (vb hb471) rfl) (qb (qa (.bool (decide (x477 ≥ 1))) rfl) ?_)))
     rcases qm (decide (x477 ≥ 1)) with hb481 | hb481
     ·replace b := ifT b hb481
      refine qj rfl rfl rfl (vb hb481) (qb (qh xG rfl) (qj rfl rfl rfl (vb hb481) ?_))
      refine ql H340 (i := 1) rfl zm jy rfl ?_
      intro v482 hv483
      obtain ⟨A484, c485, rfl, hs486⟩ := qN hv483
      refine qj rfl rfl rfl (vb hb481) ?_
      obtain ⟨x487, hx488, b⟩ := qu b
      refine qR (qY hs486 zJ ty5 rfl rfl hx488) ?_
      intro a489 hp490
      refine qj rfl rfl rfl (vb hb481) ?_
      refine zd H340 hp490 (qz .u8) ty5 rfl ?_
      refine qj rfl rfl rfl (vb hb481) (qb (qa (.bool (decide (x487 ≤ 7))) rfl) (qb (qB (.bool (decide (x487 ≤ 7))) (vb hb481) rfl) (qd (qe ?_))))
      exact ⟨_, _, (decide (x487 ≤ 7)), qf _ ⟨rfl, rfl, rfl, rfl, yp⟩, GLe.refl _, H340, b⟩
     replace b := ifF b hb481
     iterate 5 refine qJ rfl rfl rfl (vb hb481) ?_
     refine qb (qr (.bool false) (vb hb481) rfl) (qd (qe ?_))
     exact ⟨_, _, false, qf _ ⟨rfl, rfl, rfl, rfl, yp⟩, GLe.refl _, H340, b⟩
    replace b := ifF b hb471
    iterate 5 refine qJ rfl rfl rfl (vb hb471) ?_
    refine qb (qr (.bool false) (vb hb471) rfl) (qb (qa (.bool false) rfl) ?_)
    iterate 5 refine qJ rfl rfl rfl rfl ?_
    refine qb (qr (.bool false) rfl rfl) (qd (qe ?_))
    exact ⟨_, _, false, qf _ ⟨rfl, rfl, rfl, rfl, yp⟩, GLe.refl _, H340, b⟩
   replace b := ifF b hb399
   refine qn (vb hb399) (wp_seq (qc ?_))
   iterate 2 refine qb (qa (.bool (a1.Code == 8)) rfl) ?_
   refine qd (qe ?_)
   rcases qm (a1.Code == 8) with hb491 | hb491
   ·replace b := ifT b hb491
    refine qs (vb hb491) (wp_seq ?_)
    refine wp_seq (join (fun a w => ∃ (T0 G1 : _) (x517 : Bool), a = mk 178 (qQ T0 [(2, (pt b1)), (3, (pt b5)), (4, (pt b9)), (144, (.bool x517))]) ∧ GLe G341 G1 ∧ St c G1 w ((.box b9 78 (qE.at_ qD)) :: (.box b5 46 (qC.at_ a1)) :: (.box b1 32 (qv.at_ a0)) :: σ) ∧ zv a0 a1 x517 = some r) ?_ ?_)
    ·rintro a w ⟨T0, G520, x517, rfl, hG518, H519, b⟩
     rcases qm x517 with hb521 | hb521
     ·replace b := ifT b hb521
      refine qs (vb hb521) (wp_seq (qc ?_))
      refine ql H519 (i := 2) rfl (Lens.id qv) zG rfl ?_
      intro v522 hv523
      refine qR (qT (G := G520) zr46 rfl bs46 rfl (Parts.nil _)) ?_
      intro v524 hv525
      refine qb (qh jw rfl) (qp H519 (i := 1) rfl zf (qz .u8) ty5 rfl ?_)
      obtain ⟨r526, hr527, b⟩ := qu b
      refine qo (vs := [v522, (.int .i64 14), v524, (.int .u8 a1.Id)]) en83 rfl (zt k hv523 hv525 H519 hr527) ?_
      rintro v532 w531 ⟨G528, v533, hG529, rfl, H530, hv534⟩
      refine qy (z := r526) H530 (i := 0) rfl (Lens.id qE) yn rfl rfl hv534 ?_
      intro w536 H535
      refine qd (qe (wp_ret (qI (zg (qI ?_)))))
      obtain ⟨v537, hv538, hl539⟩ := H535.loadv (i := 0) rfl yn
      have b := yq b
      subst b
      exact qt rfl (RV.cell rfl hl539 RV.nil) ⟨_, v537, (((hG27.trans hG339).trans hG518).trans hG529), rfl, (St.pk [] 3 H535 rfl (by decide)), hv538⟩
     replace b := ifF b hb521
     refine qn (vb hb521) (wp_skip (qe (wp_seq (qc ?_))))
     refine ql H519 (i := 2) rfl (Lens.id qv) zG rfl ?_
     intro v540 hv541
     refine qR (qT (G := G520) zr46 rfl bs46 rfl (Parts.nil _)) ?_
     intro v542 hv543
     refine qb (qh jw rfl) (qp H519 (i := 1) rfl zf (qz .u8) ty5 rfl ?_)
     obtain ⟨r544, hr545, b⟩ := qu b
     refine qo (vs := [v540, (.int .i64 13), v542, (.int .u8 a1.Id)]) en83 rfl (zt k hv541 hv543 H519 hr545) ?_
     rintro v550 w549 ⟨G546, v551, hG547, rfl, H548, hv552⟩
     refine qy (z := r544) H548 (i := 0) rfl (Lens.id qE) yn rfl rfl hv552 ?_
     intro w554 H553
     refine qd (qe (wp_ret (zg (qI ?_))))
     obtain ⟨v555, hv556, hl557⟩ := H553.loadv (i := 0) rfl yn
     have b := yq b
     subst b
     exact qt rfl (RV.cell rfl hl557 RV.nil) ⟨_, v555, (((hG27.trans hG339).trans hG518).trans hG547), rfl, (St.pk [] 3 H553 rfl (by decide)), hv556⟩
    refine qc (qb (qh xG rfl) ?_)
    refine ql H340 (i := 1) rfl zm jy rfl ?_
    intro v558 hv559
    obtain ⟨A560, c561, rfl, hs562⟩ := qN hv559
    refine qb (zb zJ rfl) ?_
    iterate 2 refine qb (qa (.bool (decide ((a1.Data.length : Int) ≥ 2))) rfl) ?_
    rcases qm (decide ((a1.Data.length : Int) ≥ 2)) with hb563 | hb563
    ·replace b := ifT b hb563
     refine qj rfl rfl rfl (vb hb563) (qb (qh xG rfl) (qj rfl rfl rfl (vb hb563) ?_))
     refine ql H340 (i := 1) rfl zm jy rfl ?_
     intro v564 hv565
     obtain ⟨A566, c567, rfl, hs568⟩ := qN hv565
     refine qj rfl rfl rfl (vb hb563) ?_
     obtain ⟨x569, hx570, b⟩ := qu b
     refine qR (qY hs568 zJ ty5 rfl rfl hx570) ?_
     intro a571 hp572
     refine qj rfl rfl rfl (vb hb563) ?_
     refine zd H340 hp572 (qz .u8) ty5 rfl ?_
     refine qj rfl rfl rfl (vb hb563) (qb (qa (.bool (x569 == 192)) rfl) (qb (qB (.bool (x569 == 192)) (vb hb563) rfl) (qb (qa (.bool (x569 == 192)) rfl) ?_)))
     rcases qm (x569 == 192) with hb573 | hb573
     ·replace b := ifT b hb573
      refine qj rfl rfl rfl (vb hb573) (qb (qh xG rfl) (qj rfl rfl rfl (vb hb573) ?_))
      refine ql H340 (i := 1) rfl zm jy rfl ?_
      intro v574 hv575
      obtain ⟨A576, c577, rfl, hs578⟩ := qN hv575
      refine qj rfl rfl rfl (vb hb573) ?_
      obtain ⟨x579, hx580, b⟩ := qu b
      refine qR (qY hs578 zJ ty5 rfl rfl hx580) ?_
      intro a581 hp582
      refine qj rfl rfl rfl (vb hb573) ?_
      refine zd H340 hp582 (qz .u8) ty5 rfl ?_
      refine qj rfl rfl rfl (vb hb573) (qb (qa (.bool (x579 == 33)) rfl) (qb (qB (.bool (x579 == 33)) (vb hb573) rfl) (qd (qe ?_))))
      exact ⟨_, _, (x579 == 33), qf _ ⟨rfl, rfl, rfl, rfl, yp⟩, GLe.refl _, H340, b⟩
     replace b := ifF b hb573
     iterate 5 refine qJ rfl rfl rfl (vb hb573) ?_
     refine qb (qr (.bool false) (vb hb573) rfl) (qd (qe ?_))
     exact ⟨_, _, false, qf _ ⟨rfl, rfl, rfl, rfl, yp⟩, GLe.refl _, H340, b⟩
    replace b := ifF b hb563
    iterate 5 refine qJ rfl rfl rfl (vb hb563) ?_
    refine qb (qr (.bool false) (vb hb563) rfl) (qb (qa (.bool false) rfl) ?_)
    iterate 5 refine qJ rfl rfl rfl rfl ?_
    refine qb (qr (.bool false) rfl rfl) (qd (qe ?_))
    exact ⟨_, _, false, qf _ ⟨rfl, rfl, rfl, rfl, yp⟩, GLe.refl _, H340, b⟩
   replace b := ifF b hb491
   refine qn (vb hb491) (wp_seq (qc ?_))
   iterate 2 refine qb (qa (.bool (a1.Code == 9)) rfl) ?_
   refine qd (qe ?_)
   rcases qm (a1.Code == 9) with hb583 | hb583
   ·replace b := ifT b hb583
    refine qs (vb hb583) (wp_seq (qc (qb (qh xG rfl) ?_)))
    refine ql H340 (i := 1) rfl zm jy rfl ?_
    intro v584 hv585
    obtain ⟨A586, c587, rfl, hs588⟩ := qN hv585
    refine qb (zb zJ rfl) (qb (qa (.bool (decide ((a1.Data.length : Int) ≥ 4))) rfl) (qd (qe ?_)))
    rcases qm (decide ((a1.Data.length : Int) ≥ 4)) with hb589 | hb589
    ·replace b := ifT b hb589
     refine qs (vb hb589) (wp_seq ?_)
     refine jP (f := 8) H340 mixed ?_
     intro w626 H627
     refine xW (by repeat (first | exact PF.base | apply PF.then_ | apply PF.blk)) ?_
     intro B E
     obtain ⟨r630, hr631, b⟩ := qu b
     obtain ⟨r637, hr638, b⟩ := qu b
     obtain ⟨r653, hr654, b⟩ := qu b
     obtain ⟨r657, hr658, b⟩ := qu b
     refine qF (fuel := 2) (m := 63) (fun a w => ∃ T0 G1 g728 A729 c730 A731 c732, a = mk 178 (qQ T0 [(2, (pt b1)), (3, (pt b5)), (4, (pt b9)), (163, (.slice A729 r637.length c730)), (166, (.slice A731 r653.length c732))]) ∧ GLe G341 G1 ∧ St c G1 w ((.box b1 32 (qv.at_ a0)) :: (.box b5 46 (qC.at_ a1)) :: (.box b9 78 (qE.at_ qD)) :: (.row kB g728 A729 c730 5 r637) :: σ) ∧ SlR kB G1 A731 c732 r653) ?_ ?_
     ·rintro a w ⟨T0, G727, g728, A729, c730, A731, c732, rfl, hG725, H726, hs733⟩
      refine qi [6] ⟨qg (m' := 127) fun I j => ?_, yp⟩
      refine zB H726 zJ el5 (i := 3) rfl rfl rfl (hs733.src H726.ag) hr658 ?_
      intro g739 A740 c741 w742 H743
      refine qd (j _ _ ?_)
      refine qq (i := 7) (m' := 255) rfl (qa (.slice A740 r657.length c741) rfl) B E ?_
      refine zA (qe (wp_seq (qc ?_)))
      refine ql H743 (i := 0) rfl (Lens.id qv) zG rfl ?_
      intro v744 hv745
      refine qb (qh jw rfl) (qp H743 (i := 1) rfl zf (qz .u8) ty5 rfl (qb (qa (.slice A740 r657.length c741) rfl) ?_))
      obtain ⟨G746, hG747, H748, hs749⟩ := H743.stay (i := 3) rfl (H743.capA (i := 3) rfl)
      refine qR (qT (G := G746) zr46 rfl bs46 rfl (Parts.cons jO qW ((qz .u8).toV _ _) (Parts.cons jw zf ((qz .u8).toV _ _) (Parts.cons xG zm (zw hs749) (Parts.nil _))))) ?_
      intro v750 hv751
      refine qb (qh jw rfl) (qp H748 (i := 1) rfl zf (qz .u8) ty5 rfl ?_)
      obtain ⟨r752, hr753, b⟩ := qu b
      refine qo (vs := [v744, (.int .i64 15), v750, (.int .u8 a1.Id)]) en83 rfl (zt k (hv745.mono hG747) hv751 H748 hr753) ?_
      rintro v758 w757 ⟨G754, v759, hG755, rfl, H756, hv760⟩
      refine qy (z := r752) H756 (i := 2) rfl (Lens.id qE) yn rfl rfl hv760 ?_
      intro w762 H761
      refine qd (qe (wp_ret (zg (qI ?_))))
      obtain ⟨v763, hv764, hl765⟩ := H761.loadv (i := 2) rfl yn
      have b := yq b
      subst b
      exact qt rfl (RV.cell rfl hl765 RV.nil) ⟨_, v763, ((((hG27.trans hG339).trans hG725).trans hG747).trans hG755), rfl, (St.pk [] 3 H761 rfl (by decide)), hv764⟩
     intro hM724
     refine qF (fuel := 3) (m := 59) (fun a w => ∃ T0 G1 A721 c722, a = mk 178 (qQ T0 [(2, (pt b1)), (3, (pt b5)), (4, (pt b9)), (162, (.int .u32 r630)), (166, (.slice A721 r653.length c722))]) ∧ GLe G341 G1 ∧ St c G1 w ((.box b1 32 (qv.at_ a0)) :: (.box b5 46 (qC.at_ a1)) :: (.box b9 78 (qE.at_ qD)) :: σ) ∧ SlR kB G1 A721 c722 r653) ?_ ?_
     ·rintro a w ⟨T0, G720, A721, c722, rfl, hG718, H719, hs723⟩
      refine qi [2] ⟨qg (m' := 63) fun I j => ?_, yp⟩
      refine qo (vs := [(.int .u32 r630)]) en89 rfl (zY k H719 hr638) ?_
      rintro v770 w769 ⟨G766, g771, A772, c773, hG767, rfl, H768⟩
      refine qd (j _ _ ?_)
      exact hM724 _ _ ⟨_, _, g771, A772, c773, A721, c722, qf _ ⟨rfl, rfl, rfl, rfl, rfl, yp⟩, (hG718.trans hG767), (St.pk [1, 2, 3, 0] 4 H768 rfl (by decide)), (hs723.mono hG767)⟩
     intro hM717
     refine qF (fuel := 4) (m := 57) (fun a w => ∃ T0 G1 v710 A712 c713, a = mk 178 (qQ T0 [(2, (pt b1)), (3, (pt b5)), (4, (pt b9)), (161, v710), (166, (.slice A712 r653.length c713))]) ∧ GLe G341 G1 ∧ St c G1 w ((.box b1 32 (qv.at_ a0)) :: (.box b5 46 (qC.at_ a1)) :: (.box b9 78 (qE.at_ qD)) :: σ) ∧ qv.V G1 v710 a0 ∧ SlR kB G1 A712 c713 r653) ?_ ?_
     ·rintro a w ⟨T0, G709, v710, A712, c713, rfl, hG707, H708, hv711, hs714⟩
      refine qi [1] ⟨qg (m' := 59) fun I j => ?_, yp⟩
      refine qo (vs := [v710]) en90 rfl (pr14_Magic_ok k hv711 H708 hr631) ?_
      rintro v779 w778 ⟨G775, hG776, rfl, H777⟩
      refine qd (j _ _ ?_)
      exact hM717 _ _ ⟨_, _, A712, c713, qf _ ⟨rfl, rfl, rfl, rfl, rfl, yp⟩, (hG707.trans hG776), H777, (hs714.mono hG776)⟩
     intro hM706
     refine qq (i := 3) (m' := 8) rfl (qh xG rfl) B E ?_
     refine qi [0, 4] ⟨?_, ?_, yp⟩
     ·refine qg (m' := 9) fun I j => ?_
      refine ql H627 (i := 2) rfl (Lens.id qv) zG rfl ?_
      intro v780 hv781
      refine qd (j _ _ ?_)
      refine qi [1, 4] ⟨?_, ?_, yp⟩
      ·refine qg (m' := 11) fun I j => ?_
       refine qo (vs := [v780]) en90 rfl (pr14_Magic_ok k hv781 H627 hr631) ?_
       rintro v786 w785 ⟨G782, hG783, rfl, H784⟩
       refine qd (j _ _ ?_)
       refine qi [2, 4] ⟨?_, ?_, yp⟩
       ·refine qg (m' := 15) fun I j => ?_
        refine qo (vs := [(.int .u32 r630)]) en89 rfl (zY k H784 hr638) ?_
        rintro v791 w790 ⟨G787, g792, A793, c794, hG788, rfl, H789⟩
        refine qd (j _ _ ?_)
        refine qi [4] ⟨qg (m' := 31) fun I j => ?_, yp⟩
        refine ql H789 (i := 2) rfl zm jy rfl ?_
        intro v796 hv797
        obtain ⟨A798, c799, rfl, hs800⟩ := qN hv797
        refine qd (j _ _ ?_)
        refine jD (i := 5) (m' := 63) rfl (rn_cut (lo := (some 4)) (hi := none) hs800 zJ ty5 rfl ⟨_, rfl⟩ yp hr654) B E ?_
        intro z801 hs802
        exact hM724 _ _ ⟨_, _, g792, A793, c794, z801.1, z801.2, qf _ ⟨rfl, rfl, rfl, rfl, rfl, yp⟩, (hG783.trans hG788), (St.pk [3, 2, 1, 0] 4 H789 rfl (by decide)), hs802⟩
       refine qg (m' := 27) fun I j => ?_
       refine ql H784 (i := 1) rfl zm jy rfl ?_
       intro v803 hv804
       obtain ⟨A805, c806, rfl, hs807⟩ := qN hv804
       refine qd (j _ _ ?_)
       refine jD (i := 5) (m' := 59) rfl (rn_cut (lo := (some 4)) (hi := none) hs807 zJ ty5 rfl ⟨_, rfl⟩ yp hr654) B E ?_
       intro z808 hs809
       exact hM717 _ _ ⟨_, _, z808.1, z808.2, qf _ ⟨rfl, rfl, rfl, rfl, rfl, yp⟩, hG783, (St.pk [2, 1, 0] 3 H784 rfl (by decide)), hs809⟩
      refine qg (m' := 25) fun I j => ?_
      refine ql H627 (i := 1) rfl zm jy rfl ?_
      intro v810 hv811
      obtain ⟨A812, c813, rfl, hs814⟩ := qN hv811
      refine qd (j _ _ ?_)
      refine jD (i := 5) (m' := 57) rfl (rn_cut (lo := (some 4)) (hi := none) hs814 zJ ty5 rfl ⟨_, rfl⟩ yp hr654) B E ?_
      intro z815 hs816
      exact hM706 _ _ ⟨_, _, v780, z815.1, z815.2, qf _ ⟨rfl, rfl, rfl, rfl, rfl, yp⟩, GLe.refl _, (St.pk [2, 1, 0] 3 H627 rfl (by decide)), hv781, hs816⟩
     refine qg (m' := 24) fun I j => ?_
     refine ql H627 (i := 1) rfl zm jy rfl ?_
     intro v817 hv818
     obtain ⟨A819, c820, rfl, hs821⟩ := qN hv818
     refine qd (j _ _ ?_)
     refine jD (i := 5) (m' := 56) rfl (rn_cut (lo := (some 4)) (hi := none) hs821 zJ ty5 rfl ⟨_, rfl⟩ yp hr654) B E ?_
     intro z822 hs823
     refine qi [0] ⟨qg (m' := 57) fun I j => ?_, yp⟩
     refine ql H627 (i := 2) rfl (Lens.id qv) zG rfl ?_
     intro v824 hv825
     refine qd (j _ _ ?_)
     exact hM706 _ _ ⟨_, _, v824, z822.1, z822.2, qf _ ⟨rfl, rfl, rfl, rfl, rfl, yp⟩, GLe.refl _, (St.pk [2, 1, 0] 3 H627 rfl (by decide)), hv825, hs823⟩
    replace b := ifF b hb589
    refine qn (vb hb589) (wp_skip (zn (qe (wp_seq (qc ?_)))))
    refine ql H340 (i := 2) rfl (Lens.id qv) zG rfl ?_
    intro v826 hv827
    refine qR (qT (G := G341) zr78 rfl bs78 rfl (Parts.cons fo78_0 jU hv827 (Parts.nil _))) ?_
    intro v828 hv829
    refine qy (z := (Tref14_Out.mk a0 qD.Sent qD.Told qD.L)) H340 (i := 0) rfl (Lens.id qE) yn rfl rfl hv829 ?_
    intro w831 H830
    refine qd (qe (wp_ret ?_))
    obtain ⟨v832, hv833, hl834⟩ := H830.loadv (i := 0) rfl yn
    have b := yq b
    subst b
    exact qt rfl (RV.cell rfl hl834 RV.nil) ⟨_, v832, (hG27.trans hG339), rfl, (St.pk [] 3 H830 rfl (by decide)), hv833⟩
   replace b := ifF b hb583
   refine qn (vb hb583) (wp_skip (zn (qe (wp_seq (qc ?_)))))
   refine ql H340 (i := 2) rfl (Lens.id qv) zG rfl ?_
   intro v835 hv836
   refine qR (qT (G := G341) zr78 rfl bs78 rfl (Parts.cons fo78_0 jU hv836 (Parts.nil _))) ?_
   intro v837 hv838
   refine qy (z := (Tref14_Out.mk a0 qD.Sent qD.Told qD.L)) H340 (i := 0) rfl (Lens.id qE) yn rfl rfl hv838 ?_
   intro w840 H839
   refine qd (qe (wp_ret ?_))
   obtain ⟨v841, hv842, hl843⟩ := H839.loadv (i := 0) rfl yn
   have b := yq b
   subst b
   exact qt rfl (RV.cell rfl hl843 RV.nil) ⟨_, v841, (hG27.trans hG339), rfl, (St.pk [] 3 H839 rfl (by decide)), hv842⟩
  refine wp_seq (qc ?_)
  iterate 2 refine qb (qa (.bool (a1.Code == 3)) rfl) ?_
  refine qd (qe ?_)
  rcases qm (a1.Code == 3) with hb844 | hb844
  ·replace b := ifT b hb844
   refine qs (vb hb844) (wp_skip (qe ?_))
   exact ⟨_, _, (a1.Code == 3), qf _ ⟨rfl, rfl, rfl, rfl, rfl, yp⟩, GLe.refl _, H28, b⟩
  replace b := ifF b hb844
  refine qn (vb hb844) (qc ?_)
  iterate 2 refine qb (qa (.bool (a1.Code == 4)) rfl) ?_
  refine qd (qe ?_)
  exact ⟨_, _, (a1.Code == 4), qf _ ⟨rfl, rfl, rfl, rfl, rfl, yp⟩, GLe.refl _, H28, b⟩
 refine qc (qb (qh jO rfl) (qp H10 (i := 1) rfl qW (qz .u8) ty5 rfl ?_))
 iterate 2 refine qb (qa (.bool (decide (a1.Code < 1))) rfl) ?_
 rcases qm (decide (a1.Code < 1)) with hb845 | hb845
 ·replace b := ifT b hb845
  iterate 3 refine qJ rfl rfl rfl (vb hb845) ?_
  refine qb (qB (.bool true) (vb hb845) rfl) (qb (qa (.bool true) rfl) ?_)
  iterate 4 refine qJ rfl rfl rfl rfl ?_
  iterate 3 refine wl_nou rfl rfl rfl rfl ?_
  refine qJ rfl rfl rfl rfl (qb (qB (.bool true) rfl rfl) (qd (qe ?_)))
  exact ⟨_, _, true, qf _ ⟨rfl, rfl, rfl, rfl, yp⟩, GLe.refl _, H10, b⟩
 replace b := ifF b hb845
 refine qj rfl rfl rfl (vb hb845) (qb (qh jO rfl) (qj rfl rfl rfl (vb hb845) (qp H10 (i := 1) rfl qW (qz .u8) ty5 rfl (qj rfl rfl rfl (vb hb845) (qb (qa (.bool (decide (a1.Code > 11))) rfl) (qb (qr (.bool (decide (a1.Code > 11))) (vb hb845) rfl) (qb (qa (.bool (decide (a1.Code > 11))) rfl) ?_)))))))
 rcases qm (decide (a1.Code > 11)) with hb846 | hb846
 ·replace b := ifT b hb846
  iterate 4 refine qJ rfl rfl rfl (vb hb846) ?_
  iterate 3 refine wl_nou rfl rfl rfl rfl ?_
  refine qJ rfl rfl rfl (vb hb846) (qb (qB (.bool true) (vb hb846) rfl) (qd (qe ?_)))
  exact ⟨_, _, true, qf _ ⟨rfl, rfl, rfl, rfl, yp⟩, GLe.refl _, H10, b⟩
 replace b := ifF b hb846
 refine qj rfl rfl rfl (vb hb846) (qb (qh fo32_1 rfl) (qj rfl rfl rfl (vb hb846) (qb (qh fo29_0 rfl) (qj rfl rfl rfl (vb hb846) (qp H10 (i := 2) rfl (Lens.then ym xO) dBool ty4 rfl (qj rfl rfl rfl (vb hb846) (qb (qa (.bool a0.R.Ip) rfl) ?_)))))))
 rcases qm a0.R.Ip with hb847 | hb847
 ·replace b := ifT b hb847
  refine qj rfl rfl rfl (vb hb847) (qb (qh jO rfl) (qj rfl rfl rfl (vb hb847) (qp H10 (i := 1) rfl qW (qz .u8) ty5 rfl (qj rfl rfl rfl (vb hb847) (qb (qa (.bool (decide (a1.Code > 7))) rfl) (qj rfl rfl rfl (vb hb846) (qb (qB (.bool (decide (a1.Code > 7))) (vb hb847) rfl) (qb (qr (.bool (decide (a1.Code > 7))) (vb hb846) rfl) (qd (qe ?_))))))))))
  exact ⟨_, _, (decide (a1.Code > 7)), qf _ ⟨rfl, rfl, rfl, rfl, yp⟩, GLe.refl _, H10, b⟩
 replace b := ifF b hb847
 iterate 3 refine qJ rfl rfl rfl (vb hb847) ?_
 refine qj rfl rfl rfl (vb hb846) (qb (qr (.bool false) (vb hb847) rfl) (qb (qr (.bool false) (vb hb846) rfl) (qd (qe ?_))))
 exact ⟨_, _, false, qf _ ⟨rfl, rfl, rfl, rfl, yp⟩, GLe.refl _, H10, b⟩

theorem pl14_NegoDoes_ok {c : World} (k : Hc c) {G : qk} {w : World} {σ : List Ent} {a0 : TNego} {v0_ : Value} {a1 : Int} {a2 : TPkt} {v2_ : Value} (h0_ : qv.V G v0_ a0) (h2_ : qC.V G v2_ a2) (H : St c G w (σ)) {r : Bool} (b : pl14_NegoDoes a0 a1 a2 = some r) :
  Calls Tryz.prog 6 ([v0_, (.int .i64 a1), v2_] : List Value).toArray w (zu fun v w' => ∃ (G' : qk), GLe G G' ∧ tup [(.bool r)] = v ∧ St c G' w' (σ)) := by
 unfold pl14_NegoDoes at b
 refine qG Tryz.func6 rfl rfl rfl (wp_seq (qc ?_))
 refine zp (K := qv) (x := a0) H rfl h0_ ?_
 intro b1 w4 H2
 refine zp (K := qC) (x := a2) H2 rfl h2_ ?_
 intro b5 w8 H6
 refine qb (qa (.bool false) rfl) (qd (qe (wp_seq (qc ?_))))
 obtain ⟨r9, hr10, b⟩ := qu b
 refine qo (vs := []) en24 rfl (pl14_shown_ok k H6 hr10) ?_
 rintro v15 w14 ⟨G11, hG12, rfl, H13⟩
 refine qb (qa (.bool r9) rfl) (qd (qe (wp_seq ?_)))
 refine wp_seq (join (fun a w => ∃ (T0 G1 : _) (x41 : Bool), a = mk 80 (qQ T0 [(1, (.int .i64 a1)), (3, (pt b1)), (5, (pt b5)), (7, (.bool r9)), (31, (.bool x41))]) ∧ GLe G11 G1 ∧ St c G1 w ((.box b5 46 (qC.at_ a2)) :: (.box b1 32 (qv.at_ a0)) :: σ) ∧ je a0 a1 a2 r9 x41 = some r) ?_ ?_)
 ·rintro a w ⟨T0, G44, x41, rfl, hG42, H43, b⟩
  rcases qm x41 with hb45 | hb45
  ·replace b := ifT b hb45
   refine qs (vb hb45) (wp_seq (qc ?_))
   iterate 2 refine qb (qa (.bool r9) rfl) ?_
   refine qd (qe (wp_ret (qI ?_)))
   have b := yq b
   subst b
   exact qt rfl (RV.tmp rfl RV.nil) ⟨_, (hG12.trans hG42), rfl, (St.pk [] 2 H43 rfl (by decide))⟩
  replace b := ifF b hb45
  refine qn (vb hb45) (wp_skip (qe (wp_seq (qc ?_))))
  refine ql H43 (i := 1) rfl (Lens.id qv) zG rfl ?_
  intro v46 hv47
  refine qb (qa (.int .i64 a1) rfl) ?_
  obtain ⟨r48, hr49, b⟩ := qu b
  refine qo (vs := [v46, (.int .i64 a1)]) en27 rfl (nego_Do_ok k hv47 H43 hr49) ?_
  rintro v54 w53 ⟨G50, v55, A57, c58, A60, c61, hG51, rfl, H52, hv56, hs59, hs62⟩
  refine qb (qa (.tuple #[v55, (.slice A57 r48.2.1.length c58), (.slice A60 r48.2.2.length c61)]) rfl) (qb (qa v55 rfl) (qb (qa (.slice A57 r48.2.1.length c58) rfl) (qb (qa (.slice A60 r48.2.2.length c61) rfl) ?_)))
  refine qP H52 zr32 ?_
  intro b63 w66 H64
  refine qy (z := r48.1) H64 (i := 0) rfl (Lens.id qv) zG rfl rfl hv56 ?_
  intro w68 H67
  refine qb (qa (.slice A57 r48.2.1.length c58) rfl) (qb (qa (.slice A60 r48.2.2.length c61) rfl) (qd (qe (wp_seq (qc ?_)))))
  refine ql H67 (i := 2) rfl (Lens.id qv) zG rfl ?_
  intro v69 hv70
  obtain ⟨r71, hr72, b⟩ := qu b
  refine qo (vs := [v69]) en28 rfl (nego_Tick_ok k hv70 H67 hr72) ?_
  rintro v77 w76 ⟨G73, v78, A80, c81, A83, c84, hG74, rfl, H75, hv79, hs82, hs85⟩
  refine qb (qa (.tuple #[v78, (.slice A80 r71.2.1.length c81), (.slice A83 r71.2.2.length c84)]) rfl) (qb (qa v78 rfl) (qb (qa (.slice A80 r71.2.1.length c81) rfl) (qb (qa (.slice A83 r71.2.2.length c84) rfl) ?_)))
  refine qP H75 zr32 ?_
  intro b86 w89 H87
  refine qy (z := r71.1) H87 (i := 0) rfl (Lens.id qv) zG rfl rfl hv79 ?_
  intro w91 H90
  refine qb (qa (.slice A80 r71.2.1.length c81) rfl) (qb (qa (.slice A83 r71.2.2.length c84) rfl) (qd (qe (wp_seq (qc ?_)))))
  refine ql H90 (i := 3) rfl (Lens.id qv) zG rfl ?_
  intro v92 hv93
  refine ql H90 (i := 2) rfl (Lens.id qC) ty46 rfl ?_
  intro v94 hv95
  obtain ⟨r96, hr97, b⟩ := qu b
  refine qo (vs := [v92, v94]) en29 rfl (nego_Take_ok k hv93 hv95 H90 hr97) ?_
  rintro v102 w101 ⟨G98, v103, A105, c106, A108, c109, hG99, rfl, H100, hv104, hs107, hs110⟩
  refine qb (qa (.tuple #[v103, (.slice A105 r96.2.1.length c106), (.slice A108 r96.2.2.length c109)]) rfl) (qb (qa v103 rfl) (qb (qa (.slice A105 r96.2.1.length c106) rfl) (qb (qa (.slice A108 r96.2.2.length c109) rfl) ?_)))
  refine qP H100 zr32 ?_
  intro b111 w114 H112
  refine qy (z := r96.1) H112 (i := 0) rfl (Lens.id qv) zG rfl rfl hv104 ?_
  intro w116 H115
  refine qb (qa (.slice A105 r96.2.1.length c106) rfl) (qb (qa (.slice A108 r96.2.2.length c109) rfl) (qd (qe (wp_seq ?_))))
  refine jP (f := 28) H115 mixed ?_
  intro w117 H118
  refine xW (by repeat (first | exact PF.base | apply PF.then_ | apply PF.blk)) ?_
  intro B E
  rcases qm r9 with hb119 | hb119
  ·replace b := ifT b hb119
   obtain ⟨r122, hr123, b⟩ := qu b
   obtain ⟨r133, hr134, b⟩ := qu b
   rcases qm r133 with hb140 | hb140
   ·replace b := ifT b hb140
    obtain ⟨r143, hr144, b⟩ := qu b
    obtain ⟨r154, hr155, b⟩ := qu b
    rcases qm r154 with hb161 | hb161
    ·replace b := ifT b hb161
     obtain ⟨r166, hr167, b⟩ := qu b
     obtain ⟨r177, hr178, b⟩ := qu b
     refine qF (fuel := 3) (m := 33554431) (fun a w => ∃ T0 G1 v365 v367 A369 c370 A372 c373, a = mk 80 (qQ T0 [(71, (.bool r154)), (74, v365), (75, v367), (76, (.slice A369 r96.2.1.length c370)), (77, (.slice A372 r96.2.2.length c373))]) ∧ GLe G98 G1 ∧ St c G1 w (σ) ∧ qE.V G1 v365 r166 ∧ qv.V G1 v367 r96.1 ∧ SlR qC G1 A369 c370 r96.2.1 ∧ SlR kI G1 A372 c373 r96.2.2) ?_ ?_
     ·rintro a w ⟨T0, G364, v365, v367, A369, c370, A372, c373, rfl, hG362, H363, hv366, hv368, hs371, hs374⟩
      refine qi [25] ⟨qg (m' := 67108863) fun I j => ?_, yp⟩
      refine qj rfl rfl rfl (vb hb161) ?_
      refine qo (vs := [v365, v367, (.slice A369 r96.2.1.length c370), (.slice A372 r96.2.2.length c373)]) en30 rfl (xY k hv366 hv368 hs371 hs374 H363 hr178) ?_
      rintro v384 w383 ⟨G380, hG381, rfl, H382⟩
      refine qd (j _ _ ?_)
      refine qq (i := 26) (m' := 134217727) rfl (qB (.bool r177) (vb hb161) rfl) B E ?_
      refine qq (i := 27) (m' := 268435455) rfl (qa (.bool r177) rfl) B E ?_
      refine zA (qe (wp_ret ?_))
      have b := yq b
      subst b
      exact qt rfl (RV.tmp rfl RV.nil) ⟨_, ((((((hG12.trans hG42).trans hG51).trans hG74).trans hG99).trans hG362).trans hG381), rfl, H382⟩
     intro hM361
     refine qF (fuel := 4) (m := 31457279) (fun a w => ∃ T0 G1 v349 v351 v353 A355 c356 A358 c359, a = mk 80 (qQ T0 [(71, (.bool r154)), (72, v349), (73, v351), (75, v353), (76, (.slice A355 r96.2.1.length c356)), (77, (.slice A358 r96.2.2.length c359))]) ∧ GLe G98 G1 ∧ St c G1 w (σ) ∧ qv.V G1 v349 a0 ∧ qC.V G1 v351 a2 ∧ qv.V G1 v353 r96.1 ∧ SlR qC G1 A355 c356 r96.2.1 ∧ SlR kI G1 A358 c359 r96.2.2) ?_ ?_
     ·rintro a w ⟨T0, G348, v349, v351, v353, A355, c356, A358, c359, rfl, hG346, H347, hv350, hv352, hv354, hs357, hs360⟩
      refine qi [21] ⟨qg (m' := 33554431) fun I j => ?_, yp⟩
      refine qj rfl rfl rfl (vb hb161) ?_
      refine qo (vs := [v349, v351]) en33 rfl (pr14_Take_ok k hv350 hv352 H347 hr167) ?_
      rintro v389 w388 ⟨G385, v390, hG386, rfl, H387, hv391⟩
      refine qd (j _ _ ?_)
      exact hM361 _ _ ⟨_, _, v390, v353, A355, c356, A358, c359, qf _ ⟨rfl, rfl, rfl, rfl, rfl, yp⟩, (hG346.trans hG386), H387, hv391, (hv354.mono hG386), (hs357.mono hG386), (hs360.mono hG386)⟩
     intro hM345
     refine qF (fuel := 5) (m := 30932991) (fun a w => ∃ T0 G1 v333 v335 A337 c338 A340 c341, a = mk 80 (qQ T0 [(3, (pt b1)), (71, (.bool r154)), (73, v333), (75, v335), (76, (.slice A337 r96.2.1.length c338)), (77, (.slice A340 r96.2.2.length c341))]) ∧ GLe G98 G1 ∧ St c G1 w ((.box b1 32 (qv.at_ a0)) :: σ) ∧ qC.V G1 v333 a2 ∧ qv.V G1 v335 r96.1 ∧ SlR qC G1 A337 c338 r96.2.1 ∧ SlR kI G1 A340 c341 r96.2.2) ?_ ?_
     ·rintro a w ⟨T0, G332, v333, v335, A337, c338, A340, c341, rfl, hG330, H331, hv334, hv336, hs339, hs342⟩
      refine qi [19] ⟨qg (m' := 31457279) fun I j => ?_, yp⟩
      refine qj rfl rfl rfl (vb hb161) ?_
      refine ql H331 (i := 0) rfl (Lens.id qv) zG rfl ?_
      intro v392 hv393
      refine qd (j _ _ ?_)
      exact hM345 _ _ ⟨_, _, v392, v333, v335, A337, c338, A340, c341, qf _ ⟨rfl, rfl, rfl, rfl, rfl, rfl, yp⟩, hG330, (St.pk [] 1 H331 rfl (by decide)), hv393, hv334, hv336, hs339, hs342⟩
     intro hM329
     refine qF (fuel := 5) (m := 30408703) (fun a w => ∃ T0 G1 v319 v321 A323 c324 A326 c327, a = mk 80 (qQ T0 [(5, (pt b5)), (71, (.bool r154)), (72, v319), (75, v321), (76, (.slice A323 r96.2.1.length c324)), (77, (.slice A326 r96.2.2.length c327))]) ∧ GLe G98 G1 ∧ St c G1 w ((.box b5 46 (qC.at_ a2)) :: σ) ∧ qv.V G1 v319 a0 ∧ qv.V G1 v321 r96.1 ∧ SlR qC G1 A323 c324 r96.2.1 ∧ SlR kI G1 A326 c327 r96.2.2) ?_ ?_
     ·rintro a w ⟨T0, G318, v319, v321, A323, c324, A326, c327, rfl, hG316, H317, hv320, hv322, hs325, hs328⟩
      refine qi [20] ⟨qg (m' := 31457279) fun I j => ?_, yp⟩
      refine qj rfl rfl rfl (vb hb161) ?_
      refine ql H317 (i := 0) rfl (Lens.id qC) ty46 rfl ?_
      intro v394 hv395
      refine qd (j _ _ ?_)
      exact hM345 _ _ ⟨_, _, v319, v394, v321, A323, c324, A326, c327, qf _ ⟨rfl, rfl, rfl, rfl, rfl, rfl, yp⟩, hG316, (St.pk [] 1 H317 rfl (by decide)), hv320, hv395, hv322, hs325, hs328⟩
     intro hM315
     refine qF (fuel := 5) (m := 27262975) (fun a w => ∃ T0 G1 v296 v298 A300 c301 A303 c304, a = mk 80 (qQ T0 [(14, (pt b111)), (71, (.bool r154)), (72, v296), (73, v298), (76, (.slice A300 r96.2.1.length c301)), (77, (.slice A303 r96.2.2.length c304))]) ∧ GLe G98 G1 ∧ St c G1 w ((.box b111 32 (qv.at_ r96.1)) :: σ) ∧ qv.V G1 v296 a0 ∧ qC.V G1 v298 a2 ∧ SlR qC G1 A300 c301 r96.2.1 ∧ SlR kI G1 A303 c304 r96.2.2) ?_ ?_
     ·rintro a w ⟨T0, G295, v296, v298, A300, c301, A303, c304, rfl, hG293, H294, hv297, hv299, hs302, hs305⟩
      refine qi [21, 22] ⟨?_, ?_, yp⟩
      ·refine qg (m' := 29360127) fun I j => ?_
       refine qj rfl rfl rfl (vb hb161) ?_
       refine qo (vs := [v296, v298]) en33 rfl (pr14_Take_ok k hv297 hv299 H294 hr167) ?_
       rintro v400 w399 ⟨G396, v401, hG397, rfl, H398, hv402⟩
       refine qd (j _ _ ?_)
       refine qi [22] ⟨qg (m' := 33554431) fun I j => ?_, yp⟩
       refine qj rfl rfl rfl (vb hb161) ?_
       refine ql H398 (i := 0) rfl (Lens.id qv) zG rfl ?_
       intro v403 hv404
       refine qd (j _ _ ?_)
       exact hM361 _ _ ⟨_, _, v401, v403, A300, c301, A303, c304, qf _ ⟨rfl, rfl, rfl, rfl, rfl, yp⟩, (hG293.trans hG397), (St.pk [] 1 H398 rfl (by decide)), hv402, hv404, (hs302.mono hG397), (hs305.mono hG397)⟩
      refine qg (m' := 31457279) fun I j => ?_
      refine qj rfl rfl rfl (vb hb161) ?_
      refine ql H294 (i := 0) rfl (Lens.id qv) zG rfl ?_
      intro v405 hv406
      refine qd (j _ _ ?_)
      exact hM345 _ _ ⟨_, _, v296, v298, v405, A300, c301, A303, c304, qf _ ⟨rfl, rfl, rfl, rfl, rfl, rfl, yp⟩, hG293, (St.pk [] 1 H294 rfl (by decide)), hv297, hv299, hv406, hs302, hs305⟩
     intro hM292
     refine qF (fuel := 12) (m := 65535) (fun a w => ∃ T0 G1 v265 v267 A269 c270 A272 c273, a = mk 80 (qQ T0 [(3, (pt b1)), (5, (pt b5)), (14, (pt b111)), (15, (.slice A105 r96.2.1.length c106)), (16, (.slice A108 r96.2.2.length c109)), (63, (.bool r133)), (65, v265), (66, v267), (67, (.slice A269 r71.2.1.length c270)), (68, (.slice A272 r71.2.2.length c273))]) ∧ GLe G98 G1 ∧ St c G1 w ((.box b1 32 (qv.at_ a0)) :: (.box b5 46 (qC.at_ a2)) :: (.box b111 32 (qv.at_ r96.1)) :: σ) ∧ qE.V G1 v265 r143 ∧ qv.V G1 v267 r71.1 ∧ SlR qC G1 A269 c270 r71.2.1 ∧ SlR kI G1 A272 c273 r71.2.2) ?_ ?_
     ·rintro a w ⟨T0, G264, v265, v267, A269, c270, A272, c273, rfl, hG262, H263, hv266, hv268, hs271, hs274⟩
      refine qi [16] ⟨qg (m' := 131071) fun I j => ?_, yp⟩
      refine qj rfl rfl rfl (vb hb140) ?_
      refine qo (vs := [v265, v267, (.slice A269 r71.2.1.length c270), (.slice A272 r71.2.2.length c273)]) en30 rfl (xY k hv266 hv268 hs271 hs274 H263 hr155) ?_
      rintro v411 w410 ⟨G407, hG408, rfl, H409⟩
      refine qd (j _ _ ?_)
      refine qq (i := 17) (m' := 262143) rfl (qB (.bool r154) (vb hb140) rfl) B E ?_
      refine qq (i := 18) (m' := 524287) rfl (qa (.bool r154) rfl) B E ?_
      refine zE 71 true (i := 23) (m' := 8912895) rfl (qa (.slice A105 r96.2.1.length c106) rfl) (vb hb161) B E ?_
      refine zE 71 true (i := 24) (m' := 25690111) rfl (qa (.slice A108 r96.2.2.length c109) rfl) (vb hb161) B E ?_
      refine qi [19, 20, 22] ⟨?_, ?_, ?_, yp⟩
      ·refine qg (m' := 26214399) fun I j => ?_
       refine qj rfl rfl rfl (vb hb161) ?_
       refine ql H409 (i := 0) rfl (Lens.id qv) zG rfl ?_
       intro v412 hv413
       refine qd (j _ _ ?_)
       refine qi [20, 22] ⟨?_, ?_, yp⟩
       ·refine qg (m' := 27262975) fun I j => ?_
        refine qj rfl rfl rfl (vb hb161) ?_
        refine ql H409 (i := 1) rfl (Lens.id qC) ty46 rfl ?_
        intro v414 hv415
        refine qd (j _ _ ?_)
        exact hM292 _ _ ⟨_, _, v412, v414, A105, c106, A108, c109, qf _ ⟨rfl, rfl, rfl, rfl, rfl, rfl, yp⟩, (hG262.trans hG408), (St.pk [2] 3 H409 rfl (by decide)), hv413, hv415, (hs107.mono (hG262.trans hG408)), (hs110.mono (hG262.trans hG408))⟩
       refine qg (m' := 30408703) fun I j => ?_
       refine qj rfl rfl rfl (vb hb161) ?_
       refine ql H409 (i := 2) rfl (Lens.id qv) zG rfl ?_
       intro v416 hv417
       refine qd (j _ _ ?_)
       exact hM315 _ _ ⟨_, _, v412, v416, A105, c106, A108, c109, qf _ ⟨rfl, rfl, rfl, rfl, rfl, rfl, yp⟩, (hG262.trans hG408), (St.pk [1] 3 H409 rfl (by decide)), hv413, hv417, (hs107.mono (hG262.trans hG408)), (hs110.mono (hG262.trans hG408))⟩
      ·refine qg (m' := 26738687) fun I j => ?_
       refine qj rfl rfl rfl (vb hb161) ?_
       refine ql H409 (i := 1) rfl (Lens.id qC) ty46 rfl ?_
       intro v418 hv419
       refine qd (j _ _ ?_)
       refine qi [19, 22] ⟨?_, ?_, yp⟩
       ·refine qg (m' := 27262975) fun I j => ?_
        refine qj rfl rfl rfl (vb hb161) ?_
        refine ql H409 (i := 0) rfl (Lens.id qv) zG rfl ?_
        intro v420 hv421
        refine qd (j _ _ ?_)
        exact hM292 _ _ ⟨_, _, v420, v418, A105, c106, A108, c109, qf _ ⟨rfl, rfl, rfl, rfl, rfl, rfl, yp⟩, (hG262.trans hG408), (St.pk [2] 3 H409 rfl (by decide)), hv421, hv419, (hs107.mono (hG262.trans hG408)), (hs110.mono (hG262.trans hG408))⟩
       refine qg (m' := 30932991) fun I j => ?_
       refine qj rfl rfl rfl (vb hb161) ?_
       refine ql H409 (i := 2) rfl (Lens.id qv) zG rfl ?_
       intro v422 hv423
       refine qd (j _ _ ?_)
       exact hM329 _ _ ⟨_, _, v418, v422, A105, c106, A108, c109, qf _ ⟨rfl, rfl, rfl, rfl, rfl, rfl, yp⟩, (hG262.trans hG408), (St.pk [0] 3 H409 rfl (by decide)), hv419, hv423, (hs107.mono (hG262.trans hG408)), (hs110.mono (hG262.trans hG408))⟩
      refine qg (m' := 29884415) fun I j => ?_
      refine qj rfl rfl rfl (vb hb161) ?_
      refine ql H409 (i := 2) rfl (Lens.id qv) zG rfl ?_
      intro v424 hv425
      refine qd (j _ _ ?_)
      refine qi [19, 20] ⟨?_, ?_, yp⟩
      ·refine qg (m' := 30408703) fun I j => ?_
       refine qj rfl rfl rfl (vb hb161) ?_
       refine ql H409 (i := 0) rfl (Lens.id qv) zG rfl ?_
       intro v426 hv427
       refine qd (j _ _ ?_)
       exact hM315 _ _ ⟨_, _, v426, v424, A105, c106, A108, c109, qf _ ⟨rfl, rfl, rfl, rfl, rfl, rfl, yp⟩, (hG262.trans hG408), (St.pk [1] 3 H409 rfl (by decide)), hv427, hv425, (hs107.mono (hG262.trans hG408)), (hs110.mono (hG262.trans hG408))⟩
      refine qg (m' := 30932991) fun I j => ?_
      refine qj rfl rfl rfl (vb hb161) ?_
      refine ql H409 (i := 1) rfl (Lens.id qC) ty46 rfl ?_
      intro v428 hv429
      refine qd (j _ _ ?_)
      exact hM329 _ _ ⟨_, _, v428, v424, A105, c106, A108, c109, qf _ ⟨rfl, rfl, rfl, rfl, rfl, rfl, yp⟩, (hG262.trans hG408), (St.pk [0] 3 H409 rfl (by decide)), hv429, hv425, (hs107.mono (hG262.trans hG408)), (hs110.mono (hG262.trans hG408))⟩
     intro hM261
     refine qF (fuel := 13) (m := 61439) (fun a w => ∃ T0 G1 v251 v253 A255 c256 A258 c259, a = mk 80 (qQ T0 [(3, (pt b1)), (5, (pt b5)), (14, (pt b111)), (15, (.slice A105 r96.2.1.length c106)), (16, (.slice A108 r96.2.2.length c109)), (63, (.bool r133)), (64, v251), (66, v253), (67, (.slice A255 r71.2.1.length c256)), (68, (.slice A258 r71.2.2.length c259))]) ∧ GLe G98 G1 ∧ St c G1 w ((.box b1 32 (qv.at_ a0)) :: (.box b5 46 (qC.at_ a2)) :: (.box b111 32 (qv.at_ r96.1)) :: σ) ∧ qv.V G1 v251 a0 ∧ qv.V G1 v253 r71.1 ∧ SlR qC G1 A255 c256 r71.2.1 ∧ SlR kI G1 A258 c259 r71.2.2) ?_ ?_
     ·rintro a w ⟨T0, G250, v251, v253, A255, c256, A258, c259, rfl, hG248, H249, hv252, hv254, hs257, hs260⟩
      refine qi [12] ⟨qg (m' := 65535) fun I j => ?_, yp⟩
      refine qj rfl rfl rfl (vb hb140) ?_
      refine qo (vs := [v251]) en32 rfl (pr14_Tick_ok k hv252 H249 hr144) ?_
      rintro v434 w433 ⟨G430, v435, hG431, rfl, H432, hv436⟩
      refine qd (j _ _ ?_)
      exact hM261 _ _ ⟨_, _, v435, v253, A255, c256, A258, c259, qf _ ⟨rfl, rfl, rfl, rfl, rfl, rfl, rfl, rfl, rfl, rfl, yp⟩, (hG248.trans hG431), H432, hv436, (hv254.mono hG431), (hs257.mono hG431), (hs260.mono hG431)⟩
     intro hM247
     refine qF (fuel := 20) (m := 255) (fun a w => ∃ T0 G1 v217 v219 A221 c222 A224 c225, a = mk 80 (qQ T0 [(3, (pt b1)), (5, (pt b5)), (11, (pt b86)), (12, (.slice A80 r71.2.1.length c81)), (13, (.slice A83 r71.2.2.length c84)), (14, (pt b111)), (15, (.slice A105 r96.2.1.length c106)), (16, (.slice A108 r96.2.2.length c109)), (54, (.bool r9)), (57, v217), (58, v219), (59, (.slice A221 r48.2.1.length c222)), (60, (.slice A224 r48.2.2.length c225))]) ∧ GLe G98 G1 ∧ St c G1 w ((.box b1 32 (qv.at_ a0)) :: (.box b5 46 (qC.at_ a2)) :: (.box b86 32 (qv.at_ r71.1)) :: (.box b111 32 (qv.at_ r96.1)) :: σ) ∧ qE.V G1 v217 r122 ∧ qv.V G1 v219 r48.1 ∧ SlR qC G1 A221 c222 r48.2.1 ∧ SlR kI G1 A224 c225 r48.2.2) ?_ ?_
     ·rintro a w ⟨T0, G216, v217, v219, A221, c222, A224, c225, rfl, hG214, H215, hv218, hv220, hs223, hs226⟩
      refine qi [8] ⟨qg (m' := 511) fun I j => ?_, yp⟩
      refine qj rfl rfl rfl (vb hb119) ?_
      refine qo (vs := [v217, v219, (.slice A221 r48.2.1.length c222), (.slice A224 r48.2.2.length c225)]) en30 rfl (xY k hv218 hv220 hs223 hs226 H215 hr134) ?_
      rintro v441 w440 ⟨G437, hG438, rfl, H439⟩
      refine qd (j _ _ ?_)
      refine qq (i := 9) (m' := 1023) rfl (qB (.bool r133) (vb hb119) rfl) B E ?_
      refine qq (i := 10) (m' := 2047) rfl (qa (.bool r133) rfl) B E ?_
      refine zE 63 true (i := 14) (m' := 18431) rfl (qa (.slice A80 r71.2.1.length c81) rfl) (vb hb140) B E ?_
      refine zE 63 true (i := 15) (m' := 51199) rfl (qa (.slice A83 r71.2.2.length c84) rfl) (vb hb140) B E ?_
      refine qi [11, 13] ⟨?_, ?_, yp⟩
      ·refine qg (m' := 53247) fun I j => ?_
       refine qj rfl rfl rfl (vb hb140) ?_
       refine ql H439 (i := 0) rfl (Lens.id qv) zG rfl ?_
       intro v442 hv443
       refine qd (j _ _ ?_)
       refine qi [12, 13] ⟨?_, ?_, yp⟩
       ·refine qg (m' := 57343) fun I j => ?_
        refine qj rfl rfl rfl (vb hb140) ?_
        refine qo (vs := [v442]) en32 rfl (pr14_Tick_ok k hv443 H439 hr144) ?_
        rintro v448 w447 ⟨G444, v449, hG445, rfl, H446, hv450⟩
        refine qd (j _ _ ?_)
        refine qi [13] ⟨qg (m' := 65535) fun I j => ?_, yp⟩
        refine qj rfl rfl rfl (vb hb140) ?_
        refine ql H446 (i := 2) rfl (Lens.id qv) zG rfl ?_
        intro v451 hv452
        refine qd (j _ _ ?_)
        exact hM261 _ _ ⟨_, _, v449, v451, A80, c81, A83, c84, qf _ ⟨rfl, rfl, rfl, rfl, rfl, rfl, rfl, rfl, rfl, rfl, yp⟩, ((hG214.trans hG438).trans hG445), (St.pk [0, 1, 3] 4 H446 rfl (by decide)), hv450, hv452, (hs82.mono (((hG99.trans hG214).trans hG438).trans hG445)), (hs85.mono (((hG99.trans hG214).trans hG438).trans hG445))⟩
       refine qg (m' := 61439) fun I j => ?_
       refine qj rfl rfl rfl (vb hb140) ?_
       refine ql H439 (i := 2) rfl (Lens.id qv) zG rfl ?_
       intro v453 hv454
       refine qd (j _ _ ?_)
       exact hM247 _ _ ⟨_, _, v442, v453, A80, c81, A83, c84, qf _ ⟨rfl, rfl, rfl, rfl, rfl, rfl, rfl, rfl, rfl, rfl, yp⟩, (hG214.trans hG438), (St.pk [0, 1, 3] 4 H439 rfl (by decide)), hv443, hv454, (hs82.mono ((hG99.trans hG214).trans hG438)), (hs85.mono ((hG99.trans hG214).trans hG438))⟩
      refine qg (m' := 59391) fun I j => ?_
      refine qj rfl rfl rfl (vb hb140) ?_
      refine ql H439 (i := 2) rfl (Lens.id qv) zG rfl ?_
      intro v455 hv456
      refine qd (j _ _ ?_)
      refine qi [11] ⟨qg (m' := 61439) fun I j => ?_, yp⟩
      refine qj rfl rfl rfl (vb hb140) ?_
      refine ql H439 (i := 0) rfl (Lens.id qv) zG rfl ?_
      intro v457 hv458
      refine qd (j _ _ ?_)
      exact hM247 _ _ ⟨_, _, v457, v455, A80, c81, A83, c84, qf _ ⟨rfl, rfl, rfl, rfl, rfl, rfl, rfl, rfl, rfl, rfl, yp⟩, (hG214.trans hG438), (St.pk [0, 1, 3] 4 H439 rfl (by decide)), hv458, hv456, (hs82.mono ((hG99.trans hG214).trans hG438)), (hs85.mono ((hG99.trans hG214).trans hG438))⟩
     intro hM213
     refine qF (fuel := 21) (m := 239) (fun a w => ∃ T0 G1 v203 v205 A207 c208 A210 c211, a = mk 80 (qQ T0 [(3, (pt b1)), (5, (pt b5)), (11, (pt b86)), (12, (.slice A80 r71.2.1.length c81)), (13, (.slice A83 r71.2.2.length c84)), (14, (pt b111)), (15, (.slice A105 r96.2.1.length c106)), (16, (.slice A108 r96.2.2.length c109)), (54, (.bool r9)), (55, v203), (56, (.int .i64 a1)), (58, v205), (59, (.slice A207 r48.2.1.length c208)), (60, (.slice A210 r48.2.2.length c211))]) ∧ GLe G98 G1 ∧ St c G1 w ((.box b1 32 (qv.at_ a0)) :: (.box b5 46 (qC.at_ a2)) :: (.box b86 32 (qv.at_ r71.1)) :: (.box b111 32 (qv.at_ r96.1)) :: σ) ∧ qv.V G1 v203 a0 ∧ qv.V G1 v205 r48.1 ∧ SlR qC G1 A207 c208 r48.2.1 ∧ SlR kI G1 A210 c211 r48.2.2) ?_ ?_
     ·rintro a w ⟨T0, G202, v203, v205, A207, c208, A210, c211, rfl, hG200, H201, hv204, hv206, hs209, hs212⟩
      refine qi [4] ⟨qg (m' := 255) fun I j => ?_, yp⟩
      refine qj rfl rfl rfl (vb hb119) ?_
      refine qo (vs := [v203, (.int .i64 a1)]) en31 rfl (ye k hv204 H201 hr123) ?_
      rintro v463 w462 ⟨G459, v464, hG460, rfl, H461, hv465⟩
      refine qd (j _ _ ?_)
      exact hM213 _ _ ⟨_, _, v464, v205, A207, c208, A210, c211, qf _ ⟨rfl, rfl, rfl, rfl, rfl, rfl, rfl, rfl, rfl, rfl, rfl, rfl, rfl, yp⟩, (hG200.trans hG460), H461, hv465, (hv206.mono hG460), (hs209.mono hG460), (hs212.mono hG460)⟩
     intro hM199
     refine qq (i := 0) (m' := 1) rfl (qa (.bool r9) rfl) B E ?_
     refine qq (i := 1) (m' := 3) rfl (qa (.bool r9) rfl) B E ?_
     refine zE 54 true (i := 3) (m' := 11) rfl (qa (.int .i64 a1) rfl) (vb hb119) B E ?_
     refine zE 54 true (i := 6) (m' := 75) rfl (qa (.slice A57 r48.2.1.length c58) rfl) (vb hb119) B E ?_
     refine zE 54 true (i := 7) (m' := 203) rfl (qa (.slice A60 r48.2.2.length c61) rfl) (vb hb119) B E ?_
     refine qi [2, 5] ⟨?_, ?_, yp⟩
     ·refine qg (m' := 207) fun I j => ?_
      refine qj rfl rfl rfl (vb hb119) ?_
      refine ql H118 (i := 4) rfl (Lens.id qv) zG rfl ?_
      intro v466 hv467
      refine qd (j _ _ ?_)
      refine qi [4, 5] ⟨?_, ?_, yp⟩
      ·refine qg (m' := 223) fun I j => ?_
       refine qj rfl rfl rfl (vb hb119) ?_
       refine qo (vs := [v466, (.int .i64 a1)]) en31 rfl (ye k hv467 H118 hr123) ?_
       rintro v472 w471 ⟨G468, v473, hG469, rfl, H470, hv474⟩
       refine qd (j _ _ ?_)
       refine qi [5] ⟨qg (m' := 255) fun I j => ?_, yp⟩
       refine qj rfl rfl rfl (vb hb119) ?_
       refine ql H470 (i := 2) rfl (Lens.id qv) zG rfl ?_
       intro v475 hv476
       refine qd (j _ _ ?_)
       exact hM213 _ _ ⟨_, _, v473, v475, A57, c58, A60, c61, qf _ ⟨rfl, rfl, rfl, rfl, rfl, rfl, rfl, rfl, rfl, rfl, rfl, rfl, rfl, yp⟩, hG469, (St.pk [4, 3, 1, 0] 5 H470 rfl (by decide)), hv474, hv476, (hs59.mono ((hG74.trans hG99).trans hG469)), (hs62.mono ((hG74.trans hG99).trans hG469))⟩
      refine qg (m' := 239) fun I j => ?_
      refine qj rfl rfl rfl (vb hb119) ?_
      refine ql H118 (i := 2) rfl (Lens.id qv) zG rfl ?_
      intro v477 hv478
      refine qd (j _ _ ?_)
      exact hM199 _ _ ⟨_, _, v466, v477, A57, c58, A60, c61, qf _ ⟨rfl, rfl, rfl, rfl, rfl, rfl, rfl, rfl, rfl, rfl, rfl, rfl, rfl, rfl, yp⟩, GLe.refl _, (St.pk [4, 3, 1, 0] 5 H118 rfl (by decide)), hv467, hv478, (hs59.mono (hG74.trans hG99)), (hs62.mono (hG74.trans hG99))⟩
     refine qg (m' := 235) fun I j => ?_
     refine qj rfl rfl rfl (vb hb119) ?_
     refine ql H118 (i := 2) rfl (Lens.id qv) zG rfl ?_
     intro v479 hv480
     refine qd (j _ _ ?_)
     refine qi [2] ⟨qg (m' := 239) fun I j => ?_, yp⟩
     refine qj rfl rfl rfl (vb hb119) ?_
     refine ql H118 (i := 4) rfl (Lens.id qv) zG rfl ?_
     intro v481 hv482
     refine qd (j _ _ ?_)
     exact hM199 _ _ ⟨_, _, v481, v479, A57, c58, A60, c61, qf _ ⟨rfl, rfl, rfl, rfl, rfl, rfl, rfl, rfl, rfl, rfl, rfl, rfl, rfl, rfl, yp⟩, GLe.refl _, (St.pk [4, 3, 1, 0] 5 H118 rfl (by decide)), hv482, hv480, (hs59.mono (hG74.trans hG99)), (hs62.mono (hG74.trans hG99))⟩
    replace b := ifF b hb161
    refine qF (fuel := 12) (m := 65535) (fun a w => ∃ T0 G1 v564 v566 A568 c569 A571 c572, a = mk 80 (qQ T0 [(3, (pt b1)), (5, (pt b5)), (14, (pt b111)), (15, (.slice A105 r96.2.1.length c106)), (16, (.slice A108 r96.2.2.length c109)), (63, (.bool r133)), (65, v564), (66, v566), (67, (.slice A568 r71.2.1.length c569)), (68, (.slice A571 r71.2.2.length c572))]) ∧ GLe G98 G1 ∧ St c G1 w ((.box b1 32 (qv.at_ a0)) :: (.box b5 46 (qC.at_ a2)) :: (.box b111 32 (qv.at_ r96.1)) :: σ) ∧ qE.V G1 v564 r143 ∧ qv.V G1 v566 r71.1 ∧ SlR qC G1 A568 c569 r71.2.1 ∧ SlR kI G1 A571 c572 r71.2.2) ?_ ?_
    ·rintro a w ⟨T0, G563, v564, v566, A568, c569, A571, c572, rfl, hG561, H562, hv565, hv567, hs570, hs573⟩
     refine qi [16] ⟨qg (m' := 131071) fun I j => ?_, yp⟩
     refine qj rfl rfl rfl (vb hb140) ?_
     refine qo (vs := [v564, v566, (.slice A568 r71.2.1.length c569), (.slice A571 r71.2.2.length c572)]) en30 rfl (xY k hv565 hv567 hs570 hs573 H562 hr155) ?_
     rintro v583 w582 ⟨G579, hG580, rfl, H581⟩
     refine qd (j _ _ ?_)
     refine qq (i := 17) (m' := 262143) rfl (qB (.bool r154) (vb hb140) rfl) B E ?_
     refine qq (i := 18) (m' := 524287) rfl (qa (.bool r154) rfl) B E ?_
     refine qS (i := 19) (m' := 1048575) 71 true rfl (vb hb161) B E ?_
     refine qS (i := 20) (m' := 2097151) 71 true rfl (vb hb161) B E ?_
     refine qS (i := 21) (m' := 4194303) 71 true rfl (vb hb161) B E ?_
     refine qS (i := 22) (m' := 8388607) 71 true rfl (vb hb161) B E ?_
     refine qS (i := 23) (m' := 16777215) 71 true rfl (vb hb161) B E ?_
     refine qS (i := 24) (m' := 33554431) 71 true rfl (vb hb161) B E ?_
     refine qS (i := 25) (m' := 67108863) 71 true rfl (vb hb161) B E ?_
     refine qq (i := 26) (m' := 134217727) rfl (qr (.bool false) (vb hb161) rfl) B E ?_
     refine qq (i := 27) (m' := 268435455) rfl (qa (.bool false) rfl) B E ?_
     refine zA (qe (wp_ret ?_))
     have b := yq b
     subst b
     exact qt rfl (RV.tmp rfl RV.nil) ⟨_, ((((((hG12.trans hG42).trans hG51).trans hG74).trans hG99).trans hG561).trans hG580), rfl, (St.pk [] 3 H581 rfl (by decide))⟩
    intro hM560
    refine qF (fuel := 13) (m := 61439) (fun a w => ∃ T0 G1 v550 v552 A554 c555 A557 c558, a = mk 80 (qQ T0 [(3, (pt b1)), (5, (pt b5)), (14, (pt b111)), (15, (.slice A105 r96.2.1.length c106)), (16, (.slice A108 r96.2.2.length c109)), (63, (.bool r133)), (64, v550), (66, v552), (67, (.slice A554 r71.2.1.length c555)), (68, (.slice A557 r71.2.2.length c558))]) ∧ GLe G98 G1 ∧ St c G1 w ((.box b1 32 (qv.at_ a0)) :: (.box b5 46 (qC.at_ a2)) :: (.box b111 32 (qv.at_ r96.1)) :: σ) ∧ qv.V G1 v550 a0 ∧ qv.V G1 v552 r71.1 ∧ SlR qC G1 A554 c555 r71.2.1 ∧ SlR kI G1 A557 c558 r71.2.2) ?_ ?_
    ·rintro a w ⟨T0, G549, v550, v552, A554, c555, A557, c558, rfl, hG547, H548, hv551, hv553, hs556, hs559⟩
     refine qi [12] ⟨qg (m' := 65535) fun I j => ?_, yp⟩
     refine qj rfl rfl rfl (vb hb140) ?_
     refine qo (vs := [v550]) en32 rfl (pr14_Tick_ok k hv551 H548 hr144) ?_
     rintro v588 w587 ⟨G584, v589, hG585, rfl, H586, hv590⟩
     refine qd (j _ _ ?_)
     exact hM560 _ _ ⟨_, _, v589, v552, A554, c555, A557, c558, qf _ ⟨rfl, rfl, rfl, rfl, rfl, rfl, rfl, rfl, rfl, rfl, yp⟩, (hG547.trans hG585), H586, hv590, (hv553.mono hG585), (hs556.mono hG585), (hs559.mono hG585)⟩
    intro hM546
    refine qF (fuel := 20) (m := 255) (fun a w => ∃ T0 G1 v516 v518 A520 c521 A523 c524, a = mk 80 (qQ T0 [(3, (pt b1)), (5, (pt b5)), (11, (pt b86)), (12, (.slice A80 r71.2.1.length c81)), (13, (.slice A83 r71.2.2.length c84)), (14, (pt b111)), (15, (.slice A105 r96.2.1.length c106)), (16, (.slice A108 r96.2.2.length c109)), (54, (.bool r9)), (57, v516), (58, v518), (59, (.slice A520 r48.2.1.length c521)), (60, (.slice A523 r48.2.2.length c524))]) ∧ GLe G98 G1 ∧ St c G1 w ((.box b1 32 (qv.at_ a0)) :: (.box b5 46 (qC.at_ a2)) :: (.box b86 32 (qv.at_ r71.1)) :: (.box b111 32 (qv.at_ r96.1)) :: σ) ∧ qE.V G1 v516 r122 ∧ qv.V G1 v518 r48.1 ∧ SlR qC G1 A520 c521 r48.2.1 ∧ SlR kI G1 A523 c524 r48.2.2) ?_ ?_
    ·rintro a w ⟨T0, G515, v516, v518, A520, c521, A523, c524, rfl, hG513, H514, hv517, hv519, hs522, hs525⟩
     refine qi [8] ⟨qg (m' := 511) fun I j => ?_, yp⟩
     refine qj rfl rfl rfl (vb hb119) ?_
     refine qo (vs := [v516, v518, (.slice A520 r48.2.1.length c521), (.slice A523 r48.2.2.length c524)]) en30 rfl (xY k hv517 hv519 hs522 hs525 H514 hr134) ?_
     rintro v595 w594 ⟨G591, hG592, rfl, H593⟩
     refine qd (j _ _ ?_)
     refine qq (i := 9) (m' := 1023) rfl (qB (.bool r133) (vb hb119) rfl) B E ?_
     refine qq (i := 10) (m' := 2047) rfl (qa (.bool r133) rfl) B E ?_
     refine zE 63 true (i := 14) (m' := 18431) rfl (qa (.slice A80 r71.2.1.length c81) rfl) (vb hb140) B E ?_
     refine zE 63 true (i := 15) (m' := 51199) rfl (qa (.slice A83 r71.2.2.length c84) rfl) (vb hb140) B E ?_
     refine qi [11, 13] ⟨?_, ?_, yp⟩
     ·refine qg (m' := 53247) fun I j => ?_
      refine qj rfl rfl rfl (vb hb140) ?_
      refine ql H593 (i := 0) rfl (Lens.id qv) zG rfl ?_
      intro v596 hv597
      refine qd (j _ _ ?_)
      refine qi [12, 13] ⟨?_, ?_, yp⟩
      ·refine qg (m' := 57343) fun I j => ?_
       refine qj rfl rfl rfl (vb hb140) ?_
       refine qo (vs := [v596]) en32 rfl (pr14_Tick_ok k hv597 H593 hr144) ?_
       rintro v602 w601 ⟨G598, v603, hG599, rfl, H600, hv604⟩
       refine qd (j _ _ ?_)
       refine qi [13] ⟨qg (m' := 65535) fun I j => ?_, yp⟩
       refine qj rfl rfl rfl (vb hb140) ?_
       refine ql H600 (i := 2) rfl (Lens.id qv) zG rfl ?_
       intro v605 hv606
       refine qd (j _ _ ?_)
       exact hM560 _ _ ⟨_, _, v603, v605, A80, c81, A83, c84, qf _ ⟨rfl, rfl, rfl, rfl, rfl, rfl, rfl, rfl, rfl, rfl, yp⟩, ((hG513.trans hG592).trans hG599), (St.pk [0, 1, 3] 4 H600 rfl (by decide)), hv604, hv606, (hs82.mono (((hG99.trans hG513).trans hG592).trans hG599)), (hs85.mono (((hG99.trans hG513).trans hG592).trans hG599))⟩
      refine qg (m' := 61439) fun I j => ?_
      refine qj rfl rfl rfl (vb hb140) ?_
      refine ql H593 (i := 2) rfl (Lens.id qv) zG rfl ?_
      intro v607 hv608
      refine qd (j _ _ ?_)
      exact hM546 _ _ ⟨_, _, v596, v607, A80, c81, A83, c84, qf _ ⟨rfl, rfl, rfl, rfl, rfl, rfl, rfl, rfl, rfl, rfl, yp⟩, (hG513.trans hG592), (St.pk [0, 1, 3] 4 H593 rfl (by decide)), hv597, hv608, (hs82.mono ((hG99.trans hG513).trans hG592)), (hs85.mono ((hG99.trans hG513).trans hG592))⟩
     refine qg (m' := 59391) fun I j => ?_
     refine qj rfl rfl rfl (vb hb140) ?_
     refine ql H593 (i := 2) rfl (Lens.id qv) zG rfl ?_
     intro v609 hv610
     refine qd (j _ _ ?_)
     refine qi [11] ⟨qg (m' := 61439) fun I j => ?_, yp⟩
     refine qj rfl rfl rfl (vb hb140) ?_
     refine ql H593 (i := 0) rfl (Lens.id qv) zG rfl ?_
     intro v611 hv612
     refine qd (j _ _ ?_)
     exact hM546 _ _ ⟨_, _, v611, v609, A80, c81, A83, c84, qf _ ⟨rfl, rfl, rfl, rfl, rfl, rfl, rfl, rfl, rfl, rfl, yp⟩, (hG513.trans hG592), (St.pk [0, 1, 3] 4 H593 rfl (by decide)), hv612, hv610, (hs82.mono ((hG99.trans hG513).trans hG592)), (hs85.mono ((hG99.trans hG513).trans hG592))⟩
    intro hM512
    refine qF (fuel := 21) (m := 239) (fun a w => ∃ T0 G1 v502 v504 A506 c507 A509 c510, a = mk 80 (qQ T0 [(3, (pt b1)), (5, (pt b5)), (11, (pt b86)), (12, (.slice A80 r71.2.1.length c81)), (13, (.slice A83 r71.2.2.length c84)), (14, (pt b111)), (15, (.slice A105 r96.2.1.length c106)), (16, (.slice A108 r96.2.2.length c109)), (54, (.bool r9)), (55, v502), (56, (.int .i64 a1)), (58, v504), (59, (.slice A506 r48.2.1.length c507)), (60, (.slice A509 r48.2.2.length c510))]) ∧ GLe G98 G1 ∧ St c G1 w ((.box b1 32 (qv.at_ a0)) :: (.box b5 46 (qC.at_ a2)) :: (.box b86 32 (qv.at_ r71.1)) :: (.box b111 32 (qv.at_ r96.1)) :: σ) ∧ qv.V G1 v502 a0 ∧ qv.V G1 v504 r48.1 ∧ SlR qC G1 A506 c507 r48.2.1 ∧ SlR kI G1 A509 c510 r48.2.2) ?_ ?_
    ·rintro a w ⟨T0, G501, v502, v504, A506, c507, A509, c510, rfl, hG499, H500, hv503, hv505, hs508, hs511⟩
     refine qi [4] ⟨qg (m' := 255) fun I j => ?_, yp⟩
     refine qj rfl rfl rfl (vb hb119) ?_
     refine qo (vs := [v502, (.int .i64 a1)]) en31 rfl (ye k hv503 H500 hr123) ?_
     rintro v617 w616 ⟨G613, v618, hG614, rfl, H615, hv619⟩
     refine qd (j _ _ ?_)
     exact hM512 _ _ ⟨_, _, v618, v504, A506, c507, A509, c510, qf _ ⟨rfl, rfl, rfl, rfl, rfl, rfl, rfl, rfl, rfl, rfl, rfl, rfl, rfl, yp⟩, (hG499.trans hG614), H615, hv619, (hv505.mono hG614), (hs508.mono hG614), (hs511.mono hG614)⟩
    intro hM498
    refine qq (i := 0) (m' := 1) rfl (qa (.bool r9) rfl) B E ?_
    refine qq (i := 1) (m' := 3) rfl (qa (.bool r9) rfl) B E ?_
    refine zE 54 true (i := 3) (m' := 11) rfl (qa (.int .i64 a1) rfl) (vb hb119) B E ?_
    refine zE 54 true (i := 6) (m' := 75) rfl (qa (.slice A57 r48.2.1.length c58) rfl) (vb hb119) B E ?_
    refine zE 54 true (i := 7) (m' := 203) rfl (qa (.slice A60 r48.2.2.length c61) rfl) (vb hb119) B E ?_
    refine qi [2, 5] ⟨?_, ?_, yp⟩
    ·refine qg (m' := 207) fun I j => ?_
     refine qj rfl rfl rfl (vb hb119) ?_
     refine ql H118 (i := 4) rfl (Lens.id qv) zG rfl ?_
     intro v620 hv621
     refine qd (j _ _ ?_)
     refine qi [4, 5] ⟨?_, ?_, yp⟩
     ·refine qg (m' := 223) fun I j => ?_
      refine qj rfl rfl rfl (vb hb119) ?_
      refine qo (vs := [v620, (.int .i64 a1)]) en31 rfl (ye k hv621 H118 hr123) ?_
      rintro v626 w625 ⟨G622, v627, hG623, rfl, H624, hv628⟩
      refine qd (j _ _ ?_)
      refine qi [5] ⟨qg (m' := 255) fun I j => ?_, yp⟩
      refine qj rfl rfl rfl (vb hb119) ?_
      refine ql H624 (i := 2) rfl (Lens.id qv) zG rfl ?_
      intro v629 hv630
      refine qd (j _ _ ?_)
      exact hM512 _ _ ⟨_, _, v627, v629, A57, c58, A60, c61, qf _ ⟨rfl, rfl, rfl, rfl, rfl, rfl, rfl, rfl, rfl, rfl, rfl, rfl, rfl, yp⟩, hG623, (St.pk [4, 3, 1, 0] 5 H624 rfl (by decide)), hv628, hv630, (hs59.mono ((hG74.trans hG99).trans hG623)), (hs62.mono ((hG74.trans hG99).trans hG623))⟩
     refine qg (m' := 239) fun I j => ?_
     refine qj rfl rfl rfl (vb hb119) ?_
     refine ql H118 (i := 2) rfl (Lens.id qv) zG rfl ?_
     intro v631 hv632
     refine qd (j _ _ ?_)
     exact hM498 _ _ ⟨_, _, v620, v631, A57, c58, A60, c61, qf _ ⟨rfl, rfl, rfl, rfl, rfl, rfl, rfl, rfl, rfl, rfl, rfl, rfl, rfl, rfl, yp⟩, GLe.refl _, (St.pk [4, 3, 1, 0] 5 H118 rfl (by decide)), hv621, hv632, (hs59.mono (hG74.trans hG99)), (hs62.mono (hG74.trans hG99))⟩
    refine qg (m' := 235) fun I j => ?_
    refine qj rfl rfl rfl (vb hb119) ?_
    refine ql H118 (i := 2) rfl (Lens.id qv) zG rfl ?_
    intro v633 hv634
    refine qd (j _ _ ?_)
    refine qi [2] ⟨qg (m' := 239) fun I j => ?_, yp⟩
    refine qj rfl rfl rfl (vb hb119) ?_
    refine ql H118 (i := 4) rfl (Lens.id qv) zG rfl ?_
    intro v635 hv636
    refine qd (j _ _ ?_)
    exact hM498 _ _ ⟨_, _, v635, v633, A57, c58, A60, c61, qf _ ⟨rfl, rfl, rfl, rfl, rfl, rfl, rfl, rfl, rfl, rfl, rfl, rfl, rfl, rfl, yp⟩, GLe.refl _, (St.pk [4, 3, 1, 0] 5 H118 rfl (by decide)), hv636, hv634, (hs59.mono (hG74.trans hG99)), (hs62.mono (hG74.trans hG99))⟩
   replace b := ifF b hb140
   refine qF (fuel := 20) (m := 255) (fun a w => ∃ T0 G1 v670 v672 A674 c675 A677 c678, a = mk 80 (qQ T0 [(3, (pt b1)), (5, (pt b5)), (11, (pt b86)), (12, (.slice A80 r71.2.1.length c81)), (13, (.slice A83 r71.2.2.length c84)), (14, (pt b111)), (15, (.slice A105 r96.2.1.length c106)), (16, (.slice A108 r96.2.2.length c109)), (54, (.bool r9)), (57, v670), (58, v672), (59, (.slice A674 r48.2.1.length c675)), (60, (.slice A677 r48.2.2.length c678))]) ∧ GLe G98 G1 ∧ St c G1 w ((.box b1 32 (qv.at_ a0)) :: (.box b5 46 (qC.at_ a2)) :: (.box b86 32 (qv.at_ r71.1)) :: (.box b111 32 (qv.at_ r96.1)) :: σ) ∧ qE.V G1 v670 r122 ∧ qv.V G1 v672 r48.1 ∧ SlR qC G1 A674 c675 r48.2.1 ∧ SlR kI G1 A677 c678 r48.2.2) ?_ ?_
   ·rintro a w ⟨T0, G669, v670, v672, A674, c675, A677, c678, rfl, hG667, H668, hv671, hv673, hs676, hs679⟩
    refine qi [8] ⟨qg (m' := 511) fun I j => ?_, yp⟩
    refine qj rfl rfl rfl (vb hb119) ?_
    refine qo (vs := [v670, v672, (.slice A674 r48.2.1.length c675), (.slice A677 r48.2.2.length c678)]) en30 rfl (xY k hv671 hv673 hs676 hs679 H668 hr134) ?_
    rintro v689 w688 ⟨G685, hG686, rfl, H687⟩
    refine qd (j _ _ ?_)
    refine qq (i := 9) (m' := 1023) rfl (qB (.bool r133) (vb hb119) rfl) B E ?_
    refine qq (i := 10) (m' := 2047) rfl (qa (.bool r133) rfl) B E ?_
    refine qS (i := 11) (m' := 4095) 63 true rfl (vb hb140) B E ?_
    refine qS (i := 12) (m' := 8191) 63 true rfl (vb hb140) B E ?_
    refine qS (i := 13) (m' := 16383) 63 true rfl (vb hb140) B E ?_
    refine qS (i := 14) (m' := 32767) 63 true rfl (vb hb140) B E ?_
    refine qS (i := 15) (m' := 65535) 63 true rfl (vb hb140) B E ?_
    refine qS (i := 16) (m' := 131071) 63 true rfl (vb hb140) B E ?_
    refine qq (i := 17) (m' := 262143) rfl (qr (.bool false) (vb hb140) rfl) B E ?_
    refine qq (i := 18) (m' := 524287) rfl (qa (.bool false) rfl) B E ?_
    refine qS (i := 19) (m' := 1048575) 71 true rfl rfl B E ?_
    refine qS (i := 20) (m' := 2097151) 71 true rfl rfl B E ?_
    refine qS (i := 21) (m' := 4194303) 71 true rfl rfl B E ?_
    refine qS (i := 22) (m' := 8388607) 71 true rfl rfl B E ?_
    refine qS (i := 23) (m' := 16777215) 71 true rfl rfl B E ?_
    refine qS (i := 24) (m' := 33554431) 71 true rfl rfl B E ?_
    refine qS (i := 25) (m' := 67108863) 71 true rfl rfl B E ?_
    refine qq (i := 26) (m' := 134217727) rfl (qr (.bool false) rfl rfl) B E ?_
    refine qq (i := 27) (m' := 268435455) rfl (qa (.bool false) rfl) B E ?_
    refine zA (qe (wp_ret ?_))
    have b := yq b
    subst b
    exact qt rfl (RV.tmp rfl RV.nil) ⟨_, ((((((hG12.trans hG42).trans hG51).trans hG74).trans hG99).trans hG667).trans hG686), rfl, (St.pk [] 4 H687 rfl (by decide))⟩
   intro hM666
   refine qF (fuel := 21) (m := 239) (fun a w => ∃ T0 G1 v656 v658 A660 c661 A663 c664, a = mk 80 (qQ T0 [(3, (pt b1)), (5, (pt b5)), (11, (pt b86)), (12, (.slice A80 r71.2.1.length c81)), (13, (.slice A83 r71.2.2.length c84)), (14, (pt b111)), (15, (.slice A105 r96.2.1.length c106)), (16, (.slice A108 r96.2.2.length c109)), (54, (.bool r9)), (55, v656), (56, (.int .i64 a1)), (58, v658), (59, (.slice A660 r48.2.1.length c661)), (60, (.slice A663 r48.2.2.length c664))]) ∧ GLe G98 G1 ∧ St c G1 w ((.box b1 32 (qv.at_ a0)) :: (.box b5 46 (qC.at_ a2)) :: (.box b86 32 (qv.at_ r71.1)) :: (.box b111 32 (qv.at_ r96.1)) :: σ) ∧ qv.V G1 v656 a0 ∧ qv.V G1 v658 r48.1 ∧ SlR qC G1 A660 c661 r48.2.1 ∧ SlR kI G1 A663 c664 r48.2.2) ?_ ?_
   ·rintro a w ⟨T0, G655, v656, v658, A660, c661, A663, c664, rfl, hG653, H654, hv657, hv659, hs662, hs665⟩
    refine qi [4] ⟨qg (m' := 255) fun I j => ?_, yp⟩
    refine qj rfl rfl rfl (vb hb119) ?_
    refine qo (vs := [v656, (.int .i64 a1)]) en31 rfl (ye k hv657 H654 hr123) ?_
    rintro v694 w693 ⟨G690, v695, hG691, rfl, H692, hv696⟩
    refine qd (j _ _ ?_)
    exact hM666 _ _ ⟨_, _, v695, v658, A660, c661, A663, c664, qf _ ⟨rfl, rfl, rfl, rfl, rfl, rfl, rfl, rfl, rfl, rfl, rfl, rfl, rfl, yp⟩, (hG653.trans hG691), H692, hv696, (hv659.mono hG691), (hs662.mono hG691), (hs665.mono hG691)⟩
   intro hM652
   refine qq (i := 0) (m' := 1) rfl (qa (.bool r9) rfl) B E ?_
   refine qq (i := 1) (m' := 3) rfl (qa (.bool r9) rfl) B E ?_
   refine zE 54 true (i := 3) (m' := 11) rfl (qa (.int .i64 a1) rfl) (vb hb119) B E ?_
   refine zE 54 true (i := 6) (m' := 75) rfl (qa (.slice A57 r48.2.1.length c58) rfl) (vb hb119) B E ?_
   refine zE 54 true (i := 7) (m' := 203) rfl (qa (.slice A60 r48.2.2.length c61) rfl) (vb hb119) B E ?_
   refine qi [2, 5] ⟨?_, ?_, yp⟩
   ·refine qg (m' := 207) fun I j => ?_
    refine qj rfl rfl rfl (vb hb119) ?_
    refine ql H118 (i := 4) rfl (Lens.id qv) zG rfl ?_
    intro v697 hv698
    refine qd (j _ _ ?_)
    refine qi [4, 5] ⟨?_, ?_, yp⟩
    ·refine qg (m' := 223) fun I j => ?_
     refine qj rfl rfl rfl (vb hb119) ?_
     refine qo (vs := [v697, (.int .i64 a1)]) en31 rfl (ye k hv698 H118 hr123) ?_
     rintro v703 w702 ⟨G699, v704, hG700, rfl, H701, hv705⟩
     refine qd (j _ _ ?_)
     refine qi [5] ⟨qg (m' := 255) fun I j => ?_, yp⟩
     refine qj rfl rfl rfl (vb hb119) ?_
     refine ql H701 (i := 2) rfl (Lens.id qv) zG rfl ?_
     intro v706 hv707
     refine qd (j _ _ ?_)
     exact hM666 _ _ ⟨_, _, v704, v706, A57, c58, A60, c61, qf _ ⟨rfl, rfl, rfl, rfl, rfl, rfl, rfl, rfl, rfl, rfl, rfl, rfl, rfl, yp⟩, hG700, (St.pk [4, 3, 1, 0] 5 H701 rfl (by decide)), hv705, hv707, (hs59.mono ((hG74.trans hG99).trans hG700)), (hs62.mono ((hG74.trans hG99).trans hG700))⟩
    refine qg (m' := 239) fun I j => ?_
    refine qj rfl rfl rfl (vb hb119) ?_
    refine ql H118 (i := 2) rfl (Lens.id qv) zG rfl ?_
    intro v708 hv709
    refine qd (j _ _ ?_)
    exact hM652 _ _ ⟨_, _, v697, v708, A57, c58, A60, c61, qf _ ⟨rfl, rfl, rfl, rfl, rfl, rfl, rfl, rfl, rfl, rfl, rfl, rfl, rfl, rfl, yp⟩, GLe.refl _, (St.pk [4, 3, 1, 0] 5 H118 rfl (by decide)), hv698, hv709, (hs59.mono (hG74.trans hG99)), (hs62.mono (hG74.trans hG99))⟩
   refine qg (m' := 235) fun I j => ?_
   refine qj rfl rfl rfl (vb hb119) ?_
   refine ql H118 (i := 2) rfl (Lens.id qv) zG rfl ?_
   intro v710 hv711
   refine qd (j _ _ ?_)
   refine qi [2] ⟨qg (m' := 239) fun I j => ?_, yp⟩
   refine qj rfl rfl rfl (vb hb119) ?_
   refine ql H118 (i := 4) rfl (Lens.id qv) zG rfl ?_
   intro v712 hv713
   refine qd (j _ _ ?_)
   exact hM652 _ _ ⟨_, _, v712, v710, A57, c58, A60, c61, qf _ ⟨rfl, rfl, rfl, rfl, rfl, rfl, rfl, rfl, rfl, rfl, rfl, rfl, rfl, rfl, yp⟩, GLe.refl _, (St.pk [4, 3, 1, 0] 5 H118 rfl (by decide)), hv713, hv711, (hs59.mono (hG74.trans hG99)), (hs62.mono (hG74.trans hG99))⟩
  replace b := ifF b hb119
  refine qq (i := 0) (m' := 1) rfl (qa (.bool r9) rfl) B E ?_
  refine qq (i := 1) (m' := 3) rfl (qa (.bool r9) rfl) B E ?_
  refine qS (i := 2) (m' := 7) 54 true rfl (vb hb119) B E ?_
  refine qS (i := 3) (m' := 15) 54 true rfl (vb hb119) B E ?_
  refine qS (i := 4) (m' := 31) 54 true rfl (vb hb119) B E ?_
  refine qS (i := 5) (m' := 63) 54 true rfl (vb hb119) B E ?_
  refine qS (i := 6) (m' := 127) 54 true rfl (vb hb119) B E ?_
  refine qS (i := 7) (m' := 255) 54 true rfl (vb hb119) B E ?_
  refine qS (i := 8) (m' := 511) 54 true rfl (vb hb119) B E ?_
  refine qq (i := 9) (m' := 1023) rfl (qr (.bool false) (vb hb119) rfl) B E ?_
  refine qq (i := 10) (m' := 2047) rfl (qa (.bool false) rfl) B E ?_
  refine qS (i := 11) (m' := 4095) 63 true rfl rfl B E ?_
  refine qS (i := 12) (m' := 8191) 63 true rfl rfl B E ?_
  refine qS (i := 13) (m' := 16383) 63 true rfl rfl B E ?_
  refine qS (i := 14) (m' := 32767) 63 true rfl rfl B E ?_
  refine qS (i := 15) (m' := 65535) 63 true rfl rfl B E ?_
  refine qS (i := 16) (m' := 131071) 63 true rfl rfl B E ?_
  refine qq (i := 17) (m' := 262143) rfl (qr (.bool false) rfl rfl) B E ?_
  refine qq (i := 18) (m' := 524287) rfl (qa (.bool false) rfl) B E ?_
  refine qS (i := 19) (m' := 1048575) 71 true rfl rfl B E ?_
  refine qS (i := 20) (m' := 2097151) 71 true rfl rfl B E ?_
  refine qS (i := 21) (m' := 4194303) 71 true rfl rfl B E ?_
  refine qS (i := 22) (m' := 8388607) 71 true rfl rfl B E ?_
  refine qS (i := 23) (m' := 16777215) 71 true rfl rfl B E ?_
  refine qS (i := 24) (m' := 33554431) 71 true rfl rfl B E ?_
  refine qS (i := 25) (m' := 67108863) 71 true rfl rfl B E ?_
  refine qq (i := 26) (m' := 134217727) rfl (qr (.bool false) rfl rfl) B E ?_
  refine qq (i := 27) (m' := 268435455) rfl (qa (.bool false) rfl) B E ?_
  refine zA (qe (wp_ret ?_))
  have b := yq b
  subst b
  exact qt rfl (RV.tmp rfl RV.nil) ⟨_, ((((hG12.trans hG42).trans hG51).trans hG74).trans hG99), rfl, (St.pk [] 5 H118 rfl (by decide))⟩
 refine qc ?_
 refine ql H13 (i := 1) rfl (Lens.id qv) zG rfl ?_
 intro v714 hv715
 obtain ⟨r716, hr717, b⟩ := qu b
 refine qo (vs := [v714]) en25 rfl (pr14_Small_ok k hv715 H13 hr717) ?_
 rintro v722 w721 ⟨G718, hG719, rfl, H720⟩
 iterate 2 refine qb (qa (.bool (!r716)) rfl) ?_
 rcases qm (!r716) with hb723 | hb723
 ·replace b := ifT b hb723
  iterate 3 refine qJ rfl rfl rfl (vb hb723) ?_
  refine qb (qB (.bool true) (vb hb723) rfl) (qb (qa (.bool true) rfl) ?_)
  iterate 4 refine qJ rfl rfl rfl rfl ?_
  refine qb (qB (.bool true) rfl rfl) (qd (qe ?_))
  exact ⟨_, _, true, qf _ ⟨rfl, rfl, rfl, rfl, rfl, yp⟩, hG719, H720, b⟩
 replace b := ifF b hb723
 refine qj rfl rfl rfl (vb hb723) ?_
 refine ql H720 (i := 1) rfl (Lens.id qv) zG rfl ?_
 intro v724 hv725
 refine qj rfl rfl rfl (vb hb723) ?_
 obtain ⟨r726, hr727, b⟩ := qu b
 refine qo (vs := [v724]) en26 rfl (pr14_Right_ok k hv725 H720 hr727) ?_
 rintro v732 w731 ⟨G728, hG729, rfl, H730⟩
 refine qj rfl rfl rfl (vb hb723) (qb (qa (.bool (!r726)) rfl) (qb (qr (.bool (!r726)) (vb hb723) rfl) (qb (qa (.bool (!r726)) rfl) ?_)))
 rcases qm (!r726) with hb733 | hb733
 ·replace b := ifT b hb733
  iterate 4 refine qJ rfl rfl rfl (vb hb733) ?_
  refine qb (qB (.bool true) (vb hb733) rfl) (qd (qe ?_))
  exact ⟨_, _, true, qf _ ⟨rfl, rfl, rfl, rfl, rfl, yp⟩, (hG719.trans hG729), H730, b⟩
 replace b := ifF b hb733
 refine qj rfl rfl rfl (vb hb733) (qb (qh xG rfl) (qj rfl rfl rfl (vb hb733) ?_))
 refine ql H730 (i := 0) rfl zm jy rfl ?_
 intro v734 hv735
 obtain ⟨A736, c737, rfl, hs738⟩ := qN hv735
 refine qj rfl rfl rfl (vb hb733) (qb (zb zJ rfl) (qj rfl rfl rfl (vb hb733) (qb (qa (.bool (decide ((a2.Data.length : Int) > 1496))) rfl) (qb (qr (.bool (decide ((a2.Data.length : Int) > 1496))) (vb hb733) rfl) (qd (qe ?_))))))
 exact ⟨_, _, (decide ((a2.Data.length : Int) > 1496)), qf _ ⟨rfl, rfl, rfl, rfl, rfl, yp⟩, (hG719.trans hG729), H730, b⟩
end Go.Proofs.YtadlndnagfnlgaaGreatDoor.W
