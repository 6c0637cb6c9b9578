/- Calls come to what the plain functions say: written by a program (gen.py). -/
import Derived.Test.YtadlndnagfnlgaaGreatDoorG
import Derived.Test.YtadlndnagfnlgaaGreatDoorF0
set_option linter.unusedVariables false
set_option maxRecDepth 20000
namespace Go.Proofs.YtadlndnagfnlgaaGreatDoor.W
open Go
set_option maxHeartbeats 4000000
attribute [local irreducible] wpList wpAny Code.wp wpListIn wpAnyIn Code.wpIn
theorem nego_work_told_ok {c : World} (k : Hc c) {G : qk} {w : World} {σ : List Ent} {b0 : Nat} {x2 : TNego} {x3 : (List TPkt)} {x8 : (List Int)} {x13 : TPkt} {g4 : Option Nat} {A5 : Option Addr} {c6 : Nat} {g9 : Option Nat} {A10 : Option Addr} {c11 : Nat}  (H : St c G w ((.box b0 136 (qA.at_ (Tnego_workV.mk x2 (.slice A5 x3.length c6) (.slice A10 x8.length c11) x13))) :: (.row qC g4 A5 c6 46 x3) :: (.row kI g9 A10 c11 3 x8) :: σ)) {r : (TNego × (List TPkt) × (List Int))} (b : nego_work_told x2 x3 x8 x13 = some r) :
  Calls Tryz.prog 75 ([(pt b0)] : List Value).toArray w (zu fun v w' => ∃ (G' : qk) (v1' : Value) (A2' : Option Addr) (c3' : Nat) (A4' : Option Addr) (c5' : Nat), GLe G G' ∧ tup [v1', (.slice A2' r.2.1.length c3'), (.slice A4' r.2.2.length c5')] = v ∧ St c G' w' (σ) ∧ qv.V G' v1' r.1 ∧ SlR qC G' A2' c3' r.2.1 ∧ SlR kI G' A4' c5' r.2.2) := by
 unfold nego_work_told at b
 refine qG Tryz.func75 rfl rfl rfl (wp_seq (qc ?_))
 refine qP H zr32 ?_
 intro b14 w17 H15
 iterate 2 refine qb (qa (.slice none 0 0) rfl) ?_
 refine qd (qe (wp_seq ?_))
 refine jP (f := 15) H15 mixed ?_
 intro w18 H19
 refine xW (by repeat (first | exact PF.base | apply PF.then_ | apply PF.blk)) ?_
 intro B E
 refine qF (fuel := 1) (m := 16383) (fun a w => ∃ T0 G1, a = mk 17 (qQ T0 [(2, (pt b14)), (3, (.slice A5 x3.length c6)), (16, (.slice A10 x8.length c11))]) ∧ GLe G G1 ∧ St c G1 w ((.box b14 32 (qv.at_ x2)) :: (.row qC g4 A5 c6 46 x3) :: (.row kI g9 A10 c11 3 x8) :: (.box b0 136 (qA.at_ (Tnego_workV.mk x2 (.slice A5 x3.length c6) (.slice A10 x8.length c11) x13))) :: σ)) ?_ ?_
 ·rintro a w ⟨T0, G87, rfl, hG85, H86⟩
  refine qq (i := 14) (m' := 32767) rfl (qa (.slice A10 x8.length c11) rfl) B E ?_
  refine zA (qe (wp_ret ?_))
  obtain ⟨G91, hG92, H93, hs94⟩ := H86.stay (i := 1) rfl (H86.capA (i := 1) rfl)
  obtain ⟨G95, hG96, H97, hs98⟩ := H93.stay (i := 1) rfl (H93.capA (i := 1) rfl)
  obtain ⟨v88, hv89, hl90⟩ := H97.loadv (i := 0) rfl zG
  have b := yq b
  subst b
  exact qt rfl (RV.cell rfl hl90 (RV.tmp rfl (RV.tmp rfl RV.nil))) ⟨_, v88, A5, c6, A10, c11, ((hG85.trans hG92).trans hG96), rfl, (St.pk [] 2 H97 rfl (by decide)), hv89, (hs94.mono hG96), hs98⟩
 intro hM84
 refine qF (fuel := 2) (m := 8191) (fun a w => ∃ T0 G1, a = mk 17 (qQ T0 [(2, (pt b14)), (12, (.slice A5 x3.length c6)), (16, (.slice A10 x8.length c11))]) ∧ GLe G G1 ∧ St c G1 w ((.box b14 32 (qv.at_ x2)) :: (.row qC g4 A5 c6 46 x3) :: (.row kI g9 A10 c11 3 x8) :: (.box b0 136 (qA.at_ (Tnego_workV.mk x2 (.slice A5 x3.length c6) (.slice A10 x8.length c11) x13))) :: σ)) ?_ ?_
 ·rintro a w ⟨T0, G83, rfl, hG81, H82⟩
  refine qq (i := 13) (m' := 16383) rfl (qa (.slice A5 x3.length c6) rfl) B E ?_
  exact hM84 _ _ ⟨_, _, qf _ ⟨rfl, rfl, rfl, yp⟩, hG81, H82⟩
 intro hM80
 refine qF (fuel := 3) (m := 8063) (fun a w => ∃ T0 G1, a = mk 17 (qQ T0 [(2, (pt b14)), (11, (pu b0 12)), (16, (.slice A10 x8.length c11))]) ∧ GLe G G1 ∧ St c G1 w ((.box b14 32 (qv.at_ x2)) :: (.box b0 136 (qA.at_ (Tnego_workV.mk x2 (.slice A5 x3.length c6) (.slice A10 x8.length c11) x13))) :: (.row qC g4 A5 c6 46 x3) :: (.row kI g9 A10 c11 3 x8) :: σ)) ?_ ?_
 ·rintro a w ⟨T0, G79, rfl, hG77, H78⟩
  refine qi [7] ⟨qg (m' := 8191) fun I j => ?_, yp⟩
  refine ql H78 (i := 1) rfl zk ty71 rfl ?_
  intro v99 hv100
  obtain rfl := val_V hv100
  refine qd (j _ _ ?_)
  exact hM80 _ _ ⟨_, _, qf _ ⟨rfl, rfl, rfl, yp⟩, hG77, (St.pk [0, 2, 3, 1] 4 H78 rfl (by decide))⟩
 intro hM76
 refine qF (fuel := 3) (m := 6143) (fun a w => ∃ T0 G1, a = mk 17 (qQ T0 [(2, (pt b14)), (12, (.slice A5 x3.length c6)), (15, (pu b0 13))]) ∧ GLe G G1 ∧ St c G1 w ((.box b14 32 (qv.at_ x2)) :: (.row qC g4 A5 c6 46 x3) :: (.box b0 136 (qA.at_ (Tnego_workV.mk x2 (.slice A5 x3.length c6) (.slice A10 x8.length c11) x13))) :: (.row kI g9 A10 c11 3 x8) :: σ)) ?_ ?_
 ·rintro a w ⟨T0, G75, rfl, hG73, H74⟩
  refine qq (i := 13) (m' := 14335) rfl (qa (.slice A5 x3.length c6) rfl) B E ?_
  refine qi [11] ⟨qg (m' := 16383) fun I j => ?_, yp⟩
  refine ql H74 (i := 2) rfl xN ty44 rfl ?_
  intro v101 hv102
  obtain rfl := val_V hv102
  refine qd (j _ _ ?_)
  exact hM84 _ _ ⟨_, _, qf _ ⟨rfl, rfl, rfl, yp⟩, hG73, (St.pk [0, 1, 3, 2] 4 H74 rfl (by decide))⟩
 intro hM72
 refine qF (fuel := 3) (m := 4095) (fun a w => ∃ T0 G1 v68, a = mk 17 (qQ T0 [(2, (pt b14)), (8, v68), (12, (.slice A5 x3.length c6)), (16, (.slice A10 x8.length c11))]) ∧ GLe G G1 ∧ St c G1 w ((.box b14 32 (qv.at_ xT)) :: (.row qC g4 A5 c6 46 x3) :: (.row kI g9 A10 c11 3 x8) :: (.box b0 136 (qA.at_ (Tnego_workV.mk x2 (.slice A5 x3.length c6) (.slice A10 x8.length c11) x13))) :: σ) ∧ qv.V G1 v68 x2) ?_ ?_
 ·rintro a w ⟨T0, G67, v68, rfl, hG65, H66, hv69⟩
  refine qi [12] ⟨qg (m' := 8191) fun I j => ?_, yp⟩
  refine qy (z := x2) H66 (i := 0) rfl (Lens.id qv) zG rfl rfl hv69 ?_
  intro w104 H103
  refine qd (j _ _ ?_)
  exact hM80 _ _ ⟨_, _, qf _ ⟨rfl, rfl, rfl, yp⟩, hG65, H103⟩
 intro hM64
 refine qF (fuel := 4) (m := 4087) (fun a w => ∃ T0 G1, a = mk 17 (qQ T0 [(2, (pt b14)), (7, (pt b0)), (12, (.slice A5 x3.length c6)), (16, (.slice A10 x8.length c11))]) ∧ GLe G G1 ∧ St c G1 w ((.box b14 32 (qv.at_ xT)) :: (.box b0 136 (qA.at_ (Tnego_workV.mk x2 (.slice A5 x3.length c6) (.slice A10 x8.length c11) x13))) :: (.row qC g4 A5 c6 46 x3) :: (.row kI g9 A10 c11 3 x8) :: σ)) ?_ ?_
 ·rintro a w ⟨T0, G63, rfl, hG61, H62⟩
  refine qi [3] ⟨qg (m' := 4095) fun I j => ?_, yp⟩
  refine ql H62 (i := 1) rfl qH zG rfl ?_
  intro v105 hv106
  refine qd (j _ _ ?_)
  exact hM64 _ _ ⟨_, _, v105, qf _ ⟨rfl, rfl, rfl, rfl, yp⟩, hG61, (St.pk [0, 2, 3, 1] 4 H62 rfl (by decide)), hv106⟩
 intro hM60
 refine qF (fuel := 4) (m := 3967) (fun a w => ∃ T0 G1 v56, a = mk 17 (qQ T0 [(2, (pt b14)), (8, v56), (11, (pu b0 12)), (16, (.slice A10 x8.length c11))]) ∧ GLe G G1 ∧ St c G1 w ((.box b14 32 (qv.at_ xT)) :: (.box b0 136 (qA.at_ (Tnego_workV.mk x2 (.slice A5 x3.length c6) (.slice A10 x8.length c11) x13))) :: (.row qC g4 A5 c6 46 x3) :: (.row kI g9 A10 c11 3 x8) :: σ) ∧ qv.V G1 v56 x2) ?_ ?_
 ·rintro a w ⟨T0, G55, v56, rfl, hG53, H54, hv57⟩
  refine qi [7, 12] ⟨?_, ?_, yp⟩
  ·refine qg (m' := 4095) fun I j => ?_
   refine ql H54 (i := 1) rfl zk ty71 rfl ?_
   intro v107 hv108
   obtain rfl := val_V hv108
   refine qd (j _ _ ?_)
   exact hM64 _ _ ⟨_, _, v56, qf _ ⟨rfl, rfl, rfl, rfl, yp⟩, hG53, (St.pk [0, 2, 3, 1] 4 H54 rfl (by decide)), hv57⟩
  refine qg (m' := 8063) fun I j => ?_
  refine qy (z := x2) H54 (i := 0) rfl (Lens.id qv) zG rfl rfl hv57 ?_
  intro w110 H109
  refine qd (j _ _ ?_)
  exact hM76 _ _ ⟨_, _, qf _ ⟨rfl, rfl, rfl, yp⟩, hG53, H109⟩
 intro hM52
 refine qF (fuel := 4) (m := 2047) (fun a w => ∃ T0 G1 v46, a = mk 17 (qQ T0 [(2, (pt b14)), (8, v46), (12, (.slice A5 x3.length c6)), (15, (pu b0 13))]) ∧ GLe G G1 ∧ St c G1 w ((.box b14 32 (qv.at_ xT)) :: (.row qC g4 A5 c6 46 x3) :: (.box b0 136 (qA.at_ (Tnego_workV.mk x2 (.slice A5 x3.length c6) (.slice A10 x8.length c11) x13))) :: (.row kI g9 A10 c11 3 x8) :: σ) ∧ qv.V G1 v46 x2) ?_ ?_
 ·rintro a w ⟨T0, G45, v46, rfl, hG43, H44, hv47⟩
  refine qi [11, 12] ⟨?_, ?_, yp⟩
  ·refine qg (m' := 4095) fun I j => ?_
   refine ql H44 (i := 2) rfl xN ty44 rfl ?_
   intro v111 hv112
   obtain rfl := val_V hv112
   refine qd (j _ _ ?_)
   exact hM64 _ _ ⟨_, _, v46, qf _ ⟨rfl, rfl, rfl, rfl, yp⟩, hG43, (St.pk [0, 1, 3, 2] 4 H44 rfl (by decide)), hv47⟩
  refine qg (m' := 6143) fun I j => ?_
  refine qy (z := x2) H44 (i := 0) rfl (Lens.id qv) zG rfl rfl hv47 ?_
  intro w114 H113
  refine qd (j _ _ ?_)
  exact hM72 _ _ ⟨_, _, qf _ ⟨rfl, rfl, rfl, yp⟩, hG43, H113⟩
 intro hM42
 refine qq (i := 0) (m' := 1) rfl (qa (pt b0) rfl) B E ?_
 refine qq (i := 1) (m' := 3) rfl (qM rfl) B E ?_
 refine qq (i := 2) (m' := 7) rfl (qh jH rfl) B E ?_
 refine qq (i := 4) (m' := 23) rfl (qa (pt b0) rfl) B E ?_
 refine qq (i := 5) (m' := 55) rfl (qM rfl) B E ?_
 refine qq (i := 6) (m' := 119) rfl (qh fo136_1 rfl) B E ?_
 refine qq (i := 8) (m' := 375) rfl (qa (pt b0) rfl) B E ?_
 refine qq (i := 9) (m' := 887) rfl (qM rfl) B E ?_
 refine qq (i := 10) (m' := 1911) rfl (qh fo136_2 rfl) B E ?_
 refine qi [3, 7, 11] ⟨?_, ?_, ?_, yp⟩
 ·refine qg (m' := 1919) fun I j => ?_
  refine ql H19 (i := 1) rfl qH zG rfl ?_
  intro v115 hv116
  refine qd (j _ _ ?_)
  refine qi [7, 11, 12] ⟨?_, ?_, ?_, yp⟩
  ·refine qg (m' := 2047) fun I j => ?_
   refine ql H19 (i := 1) rfl zk ty71 rfl ?_
   intro v117 hv118
   obtain rfl := val_V hv118
   refine qd (j _ _ ?_)
   exact hM42 _ _ ⟨_, _, v115, qf _ ⟨rfl, rfl, rfl, rfl, yp⟩, GLe.refl _, (St.pk [0, 2, 1, 3] 4 H19 rfl (by decide)), hv116⟩
  ·refine qg (m' := 3967) fun I j => ?_
   refine ql H19 (i := 1) rfl xN ty44 rfl ?_
   intro v119 hv120
   obtain rfl := val_V hv120
   refine qd (j _ _ ?_)
   exact hM52 _ _ ⟨_, _, v115, qf _ ⟨rfl, rfl, rfl, rfl, yp⟩, GLe.refl _, H19, hv116⟩
  refine qg (m' := 6015) fun I j => ?_
  refine qy (z := x2) H19 (i := 0) rfl (Lens.id qv) zG rfl rfl hv116 ?_
  intro w122 H121
  refine qd (j _ _ ?_)
  refine qi [7, 11] ⟨?_, ?_, yp⟩
  ·refine qg (m' := 6143) fun I j => ?_
   refine ql H121 (i := 1) rfl zk ty71 rfl ?_
   intro v123 hv124
   obtain rfl := val_V hv124
   refine qd (j _ _ ?_)
   exact hM72 _ _ ⟨_, _, qf _ ⟨rfl, rfl, rfl, yp⟩, GLe.refl _, (St.pk [0, 2, 1, 3] 4 H121 rfl (by decide))⟩
  refine qg (m' := 8063) fun I j => ?_
  refine ql H121 (i := 1) rfl xN ty44 rfl ?_
  intro v125 hv126
  obtain rfl := val_V hv126
  refine qd (j _ _ ?_)
  exact hM76 _ _ ⟨_, _, qf _ ⟨rfl, rfl, rfl, yp⟩, GLe.refl _, H121⟩
 ·refine qg (m' := 2039) fun I j => ?_
  refine ql H19 (i := 1) rfl zk ty71 rfl ?_
  intro v127 hv128
  obtain rfl := val_V hv128
  refine qd (j _ _ ?_)
  refine qi [3, 11] ⟨?_, ?_, yp⟩
  ·refine qg (m' := 2047) fun I j => ?_
   refine ql H19 (i := 1) rfl qH zG rfl ?_
   intro v129 hv130
   refine qd (j _ _ ?_)
   exact hM42 _ _ ⟨_, _, v129, qf _ ⟨rfl, rfl, rfl, rfl, yp⟩, GLe.refl _, (St.pk [0, 2, 1, 3] 4 H19 rfl (by decide)), hv130⟩
  refine qg (m' := 4087) fun I j => ?_
  refine ql H19 (i := 1) rfl xN ty44 rfl ?_
  intro v131 hv132
  obtain rfl := val_V hv132
  refine qd (j _ _ ?_)
  exact hM60 _ _ ⟨_, _, qf _ ⟨rfl, rfl, rfl, rfl, yp⟩, GLe.refl _, H19⟩
 refine qg (m' := 3959) fun I j => ?_
 refine ql H19 (i := 1) rfl xN ty44 rfl ?_
 intro v133 hv134
 obtain rfl := val_V hv134
 refine qd (j _ _ ?_)
 refine qi [3, 7] ⟨?_, ?_, yp⟩
 ·refine qg (m' := 3967) fun I j => ?_
  refine ql H19 (i := 1) rfl qH zG rfl ?_
  intro v135 hv136
  refine qd (j _ _ ?_)
  exact hM52 _ _ ⟨_, _, v135, qf _ ⟨rfl, rfl, rfl, rfl, yp⟩, GLe.refl _, H19, hv136⟩
 refine qg (m' := 4087) fun I j => ?_
 refine ql H19 (i := 1) rfl zk ty71 rfl ?_
 intro v137 hv138
 obtain rfl := val_V hv138
 refine qd (j _ _ ?_)
 exact hM60 _ _ ⟨_, _, qf _ ⟨rfl, rfl, rfl, rfl, yp⟩, GLe.refl _, H19⟩

theorem nego_Do_ok {c : World} (k : Hc c) {G : qk} {w : World} {σ : List Ent} {a0 : TNego} {v0_ : Value} {a1 : Int} (h0_ : qv.V G v0_ a0) (H : St c G w (σ)) {r : (TNego × (List TPkt) × (List Int))} (b : nego_Do a0 a1 = some r) :
  Calls Tryz.prog 27 ([v0_, (.int .i64 a1)] : List Value).toArray w (zu fun v w' => ∃ (G' : qk) (v1' : Value) (A2' : Option Addr) (c3' : Nat) (A4' : Option Addr) (c5' : Nat), GLe G G' ∧ tup [v1', (.slice A2' r.2.1.length c3'), (.slice A4' r.2.2.length c5')] = v ∧ St c G' w' (σ) ∧ qv.V G' v1' r.1 ∧ SlR qC G' A2' c3' r.2.1 ∧ SlR kI G' A4' c5' r.2.2) := by
 unfold nego_Do at b
 refine qG Tryz.func27 rfl rfl rfl (wp_seq (qc ?_))
 refine zp (K := qv) (x := a0) H rfl h0_ ?_
 intro b1 w4 H2
 refine qP H2 zr32 ?_
 intro b5 w8 H6
 iterate 2 refine qb (qa (.slice none 0 0) rfl) ?_
 refine qd (qe (wp_seq (qc ?_)))
 refine ql H6 (i := 1) rfl (Lens.id qv) zG rfl ?_
 intro v9 hv10
 refine qR (qT (G := G) zr136V rfl bs136 rfl (Parts.cons jH qH hv10 (Parts.nil _))) ?_
 intro v11 hv12
 refine zp (K := qA) (x := (Tnego_workV.mk a0 (.slice none 0 0) (.slice none 0 0) zj)) H6 rfl hv12 ?_
 intro b13 w16 H14
 refine qb (qa (pt b13) rfl) (qd (qe ?_))
 refine wp_seq (join (fun a w => ∃ (T0 G1 : _) (x50 : TNego) (x51 : (List TPkt)) (x56 : (List Int)) (x61 : TPkt) (g52 A53 c54 g57 A58 c59 : _), a = mk 26 (qQ T0 [(4, (pt b5)), (7, (pt b13))]) ∧ GLe G G1 ∧ St c G1 w ((.box b13 136 (qA.at_ (Tnego_workV.mk x50 (.slice A53 x51.length c54) (.slice A58 x56.length c59) x61))) :: (.row qC g52 A53 c54 46 x51) :: (.row kI g57 A58 c59 3 x56) :: (.box b5 32 (qv.at_ xT)) :: σ) ∧ nego_Do_j1 x50 x51 x56 x61 = some r) ?_ ?_)
 ·rintro a w ⟨T0, G64, x50, x51, x56, x61, g52, A53, c54, g57, A58, c59, rfl, hG62, H63, b⟩
  refine wp_seq (qc (qb (qa (pt b13) rfl) ?_))
  obtain ⟨r65, hr66, b⟩ := qu b
  refine qo (vs := [(pt b13)]) en75 rfl (nego_work_told_ok k H63 hr66) ?_
  rintro v71 w70 ⟨G67, v72, A74, c75, A77, c78, hG68, rfl, H69, hv73, hs76, hs79⟩
  refine qb (qa v72 rfl) (qb (qa (.slice A74 r65.2.1.length c75) rfl) (qb (qa (.slice A77 r65.2.2.length c78) rfl) ?_))
  refine qy (z := r65.1) H69 (i := 0) rfl (Lens.id qv) zG rfl rfl hv73 ?_
  intro w81 H80
  refine qb (qa (.slice A74 r65.2.1.length c75) rfl) (qb (qa (.slice A77 r65.2.2.length c78) rfl) (qd (qe (wp_ret ?_))))
  obtain ⟨v82, hv83, hl84⟩ := H80.loadv (i := 0) rfl zG
  have b := yq b
  subst b
  exact qt rfl (RV.cell rfl hl84 (RV.tmp rfl (RV.tmp rfl RV.nil))) ⟨_, v82, A74, c75, A77, c78, (hG62.trans hG68), rfl, (St.pk [] 1 H80 rfl (by decide)), hv83, hs76, hs79⟩
 refine wp_seq (join (fun a w => ∃ (T0 G1 : _) (x86 : Bool) (x87 : TNego) (x88 : (List TPkt)) (x93 : (List Int)) (x98 : TPkt) (g89 A90 c91 g94 A95 c96 : _), a = mk 26 (qQ T0 [(1, (.int .i64 a1)), (4, (pt b5)), (7, (pt b13)), (16, (.bool x86))]) ∧ GLe G G1 ∧ St c G1 w ((.box b13 136 (qA.at_ (Tnego_workV.mk x87 (.slice A90 x88.length c91) (.slice A95 x93.length c96) x98))) :: (.row qC g89 A90 c91 46 x88) :: (.row kI g94 A95 c96 3 x93) :: (.box b5 32 (qv.at_ xT)) :: σ) ∧ nego_Do_j2 a1 x86 x87 x88 x93 x98 = some r) ?_ ?_)
 ·rintro a w ⟨T0, G101, x86, x87, x88, x93, x98, g89, A90, c91, g94, A95, c96, rfl, hG99, H100, b⟩
  rcases qm x86 with hb102 | hb102
  ·replace b := ifT b hb102
   refine qs (vb hb102) (qc (qb (qa (pt b13) rfl) (qb (qa (.int .i64 a1) rfl) ?_)))
   refine qR (qT (G := G101) zr46 rfl bs46 rfl (Parts.nil _)) ?_
   intro v103 hv104
   obtain ⟨r105, hr106, b⟩ := qu b
   refine qo (vs := [(pt b13), (.int .i64 a1), v103]) en74 rfl (jg k hv104 H100 hr106) ?_
   rintro v111 w110 ⟨G107, A112, c113, g115, A116, c117, g118, A119, c120, hG108, rfl, H109, hs114⟩
   refine qd (qe ?_)
   exact ⟨_, _, r105.2.1, r105.2.2.1, r105.2.2.2.1, r105.2.2.2.2, g115, A116, c117, g118, A119, c120, qf _ ⟨rfl, rfl, yp⟩, (hG99.trans hG108), H109, b⟩
  replace b := ifF b hb102
  refine qn (vb hb102) (wp_skip (qe ?_))
  exact ⟨_, _, x87, x88, x93, x98, g89, A90, c91, g94, A95, c96, qf _ ⟨rfl, rfl, yp⟩, hG99, H100, b⟩
 refine qc (qb (qa (.int .i64 a1) rfl) ?_)
 iterate 2 refine qb (qa (.bool (decide (a1 ≥ 0))) rfl) ?_
 rcases qm (decide (a1 ≥ 0)) with hb121 | hb121
 ·replace b := ifT b hb121
  refine qj rfl rfl rfl (vb hb121) (qb (qa (.int .i64 a1) rfl) (qj rfl rfl rfl (vb hb121) (qb (qa (.bool (decide (a1 ≤ 3))) rfl) (qb (qB (.bool (decide (a1 ≤ 3))) (vb hb121) rfl) (qd ?_)))))
  have H122 := H14.nilrow qC none 46
  have H124 := H122.nilrow kI none 3
  refine qe ?_
  exact ⟨_, _, (decide (a1 ≤ 3)), a0, ([] : (List TPkt)), ([] : (List Int)), zj, none, none, 0, none, none, 0, qf _ ⟨rfl, rfl, rfl, rfl, yp⟩, GLe.refl _, (St.pk [2, 1, 0, 3] 5 H124 rfl (by decide)), b⟩
 replace b := ifF b hb121
 iterate 2 refine qJ rfl rfl rfl (vb hb121) ?_
 refine qb (qr (.bool false) (vb hb121) rfl) (qd ?_)
 have H126 := H14.nilrow qC none 46
 have H128 := H126.nilrow kI none 3
 refine qe ?_
 exact ⟨_, _, false, a0, ([] : (List TPkt)), ([] : (List Int)), zj, none, none, 0, none, none, 0, qf _ ⟨rfl, rfl, rfl, rfl, yp⟩, GLe.refl _, (St.pk [2, 1, 0, 3] 5 H128 rfl (by decide)), b⟩

theorem pack_codes_ok {c : World} (k : Hc c) {G : qk} {w : World} {σ : List Ent}   (H : St c G w (σ)) {r : Unit} (b : pack_codes = some r) :
  Calls Tryz.prog 136 ([] : List Value).toArray w (zu fun v w' => ∃ (G' : qk) (r1' : Nat) (v2' : Value) (v3' : Value) (v4' : Value), GLe G G' ∧ tup [(.map (some r1'))] = v ∧ St c G' w' ((.mp r1' [⟨.int .u16 49185, v2', 0⟩, ⟨.int .u16 49699, v3', 1⟩, ⟨.int .u16 32801, v4', 2⟩] 3) :: σ) ∧ (Kd.arr 2 kB).V G' v2' ([1, 11] : (List Int)) ∧ (Kd.arr 2 kB).V G' v3' ([1, 4] : (List Int)) ∧ (Kd.arr 2 kB).V G' v4' ([1, 7] : (List Int))) := by
 unfold pack_codes at b
 refine qG Tryz.func136 rfl rfl rfl (wp_seq (qc (qb (qa (.map none) rfl) (qd (qe (wp_seq (qc ?_)))))))
 refine wl_makeMap H ?_
 intro r1 w2 H3
 refine qR (rn_arr (G := G) (K := kB) (vs := [(.int .u8 1), (.int .u8 11)]) (xs := ([1, 11] : (List Int))) zr191 ar191 ty5 rfl ⟨((qz .u8).toV _ _), ((qz .u8).toV _ _), yp⟩ rfl) ?_
 intro v5 hv6
 refine zz (key := (.int .u16 49185)) (val := v5) H3 (i := 0) rfl mt193 un55 rfl rfl rfl (by simp [Go.MapKept.IsKey]) rfl ?_
 intro w7 H8
 have H9 : St c G w7 ((.mp r1 [⟨.int .u16 49185, v5, 0⟩] 1) :: σ) := H8
 refine qR (rn_arr (G := G) (K := kB) (vs := [(.int .u8 1), (.int .u8 4)]) (xs := ([1, 4] : (List Int))) zr191 ar191 ty5 rfl ⟨((qz .u8).toV _ _), ((qz .u8).toV _ _), yp⟩ rfl) ?_
 intro v10 hv11
 refine zz (key := (.int .u16 49699)) (val := v10) H9 (i := 0) rfl mt193 un55 rfl rfl rfl (by simp [Go.MapKept.IsKey]) rfl ?_
 intro w12 H13
 have H14 : St c G w12 ((.mp r1 [⟨.int .u16 49185, v5, 0⟩, ⟨.int .u16 49699, v10, 1⟩] 2) :: σ) := H13
 refine qR (rn_arr (G := G) (K := kB) (vs := [(.int .u8 1), (.int .u8 7)]) (xs := ([1, 7] : (List Int))) zr191 ar191 ty5 rfl ⟨((qz .u8).toV _ _), ((qz .u8).toV _ _), yp⟩ rfl) ?_
 intro v15 hv16
 refine zz (key := (.int .u16 32801)) (val := v15) H14 (i := 0) rfl mt193 un55 rfl rfl rfl (by simp [Go.MapKept.IsKey]) rfl ?_
 intro w17 H18
 have H19 : St c G w17 ((.mp r1 [⟨.int .u16 49185, v5, 0⟩, ⟨.int .u16 49699, v10, 1⟩, ⟨.int .u16 32801, v15, 2⟩] 3) :: σ) := H18
 iterate 2 refine qb (qa (.map (some r1)) rfl) ?_
 refine qd (qe (wp_ret ?_))
 have b := yq b
 subst b
 exact qt rfl (RV.tmp rfl RV.nil) ⟨_, r1, v5, v10, v15, GLe.refl _, rfl, H19, hv6, hv11, hv16⟩

theorem pack_Known_ok {c : World} (k : Hc c) {G : qk} {w : World} {σ : List Ent} {a0 : Int} {a1 : Int}  (H : St c G w (σ)) {r : Bool} (b : pack_Known a0 a1 = some r) :
  Calls Tryz.prog 78 ([(.int .u16 a0), (.int .u8 a1)] : List Value).toArray w (zu fun v w' => ∃ (G' : qk), GLe G G' ∧ tup [(.bool r)] = v ∧ St c G' w' (σ)) := by
 unfold pack_Known at b
 refine qG Tryz.func78 rfl rfl rfl (wp_seq (qc (qb (qa (.bool false) rfl) (qd (qe (wp_seq (qc ?_)))))))
 obtain ⟨r24, hr25, b⟩ := qu b
 refine qo (vs := []) en136 rfl (pack_codes_ok k H hr25) ?_
 rintro v30 w29 ⟨G26, r31, v33, v35, v37, hG27, rfl, H28, hv34, hv36, hv38⟩
 refine qb (qa (.int .u16 a0) rfl) ?_
 refine wl_lookupK (K := (Kd.arr 2 kB)) (vs := [v33, v35, v37]) (xs := [(49185, ([1, 11] : (List Int))), (49699, ([1, 4] : (List Int))), (32801, ([1, 7] : (List Int)))]) H28 ⟨hv34, hv36, hv38, yp⟩ (i := 0) rfl mt193 un55 rfl rfl zr191 ?_
 intro v39 hv40
 refine qb (qa (.tuple #[v39, (.bool ((lkK ([(49185, ([1, 11] : (List Int))), (49699, ([1, 4] : (List Int))), (32801, ([1, 7] : (List Int)))] : List (Int × (List Int))) a0).isSome))]) rfl) (qb (qa v39 rfl) (qb (qa (.bool ((lkK ([(49185, ([1, 11] : (List Int))), (49699, ([1, 4] : (List Int))), (32801, ([1, 7] : (List Int)))] : List (Int × (List Int))) a0).isSome)) rfl) ?_))
 refine qP H28 zr191 ?_
 intro b41 w44 H42
 refine qy (z := ((lkK ([(49185, ([1, 11] : (List Int))), (49699, ([1, 4] : (List Int))), (32801, ([1, 7] : (List Int)))] : List (Int × (List Int))) a0).getD (List.replicate 2 0))) H42 (i := 0) rfl (Lens.id (Kd.arr 2 kB)) ty191 rfl rfl hv40 ?_
 intro w46 H45
 refine qb (qa (.bool ((lkK ([(49185, ([1, 11] : (List Int))), (49699, ([1, 4] : (List Int))), (32801, ([1, 7] : (List Int)))] : List (Int × (List Int))) a0).isSome)) rfl) (qd (qe (wp_seq (qc ?_))))
 iterate 2 refine qb (qa (.bool ((lkK ([(49185, ([1, 11] : (List Int))), (49699, ([1, 4] : (List Int))), (32801, ([1, 7] : (List Int)))] : List (Int × (List Int))) a0).isSome)) rfl) ?_
 rcases qm ((lkK ([(49185, ([1, 11] : (List Int))), (49699, ([1, 4] : (List Int))), (32801, ([1, 7] : (List Int)))] : List (Int × (List Int))) a0).isSome) with hb47 | hb47
 ·replace b := ifT b hb47
  refine qj rfl rfl rfl (vb hb47) (qb (qa (.int .u8 a1) rfl) (qj rfl rfl rfl (vb hb47) ?_))
  refine qb (rn_indexA ar191 ty5 rfl rfl (by decide) (by decide)) ?_
  refine qj rfl rfl rfl (vb hb47) (qp H45 (i := 0) rfl (Lens.elt kB 2 0 0 rfl) (qz .u8) ty5 rfl (qj rfl rfl rfl (vb hb47) (qb (qa (.bool (decide (a1 ≥ (((lkK ([(49185, ([1, 11] : (List Int))), (49699, ([1, 4] : (List Int))), (32801, ([1, 7] : (List Int)))] : List (Int × (List Int))) a0).getD (List.replicate 2 0)).getD 0 0)))) rfl) (qb (qB (.bool (decide (a1 ≥ (((lkK ([(49185, ([1, 11] : (List Int))), (49699, ([1, 4] : (List Int))), (32801, ([1, 7] : (List Int)))] : List (Int × (List Int))) a0).getD (List.replicate 2 0)).getD 0 0)))) (vb hb47) rfl) (qb (qa (.bool (decide (a1 ≥ (((lkK ([(49185, ([1, 11] : (List Int))), (49699, ([1, 4] : (List Int))), (32801, ([1, 7] : (List Int)))] : List (Int × (List Int))) a0).getD (List.replicate 2 0)).getD 0 0)))) rfl) ?_)))))
  rcases qm (decide (a1 ≥ (((lkK ([(49185, ([1, 11] : (List Int))), (49699, ([1, 4] : (List Int))), (32801, ([1, 7] : (List Int)))] : List (Int × (List Int))) a0).getD (List.replicate 2 0)).getD 0 0))) with hb48 | hb48
  ·replace b := ifT b hb48
   refine qj rfl rfl rfl (vb hb48) (qb (qa (.int .u8 a1) rfl) (qj rfl rfl rfl (vb hb48) ?_))
   refine qb (rn_indexA ar191 ty5 rfl rfl (by decide) (by decide)) ?_
   refine qj rfl rfl rfl (vb hb48) (qp H45 (i := 0) rfl (Lens.elt kB 2 1 0 rfl) (qz .u8) ty5 rfl (qj rfl rfl rfl (vb hb48) (qb (qa (.bool (decide (a1 ≤ (((lkK ([(49185, ([1, 11] : (List Int))), (49699, ([1, 4] : (List Int))), (32801, ([1, 7] : (List Int)))] : List (Int × (List Int))) a0).getD (List.replicate 2 0)).getD 1 0)))) rfl) (qb (qB (.bool (decide (a1 ≤ (((lkK ([(49185, ([1, 11] : (List Int))), (49699, ([1, 4] : (List Int))), (32801, ([1, 7] : (List Int)))] : List (Int × (List Int))) a0).getD (List.replicate 2 0)).getD 1 0)))) (vb hb48) rfl) (qb (qa (.bool (decide (a1 ≤ (((lkK ([(49185, ([1, 11] : (List Int))), (49699, ([1, 4] : (List Int))), (32801, ([1, 7] : (List Int)))] : List (Int × (List Int))) a0).getD (List.replicate 2 0)).getD 1 0)))) rfl) (qd (qe (wp_ret ?_))))))))
   have b := yq b
   subst b
   exact qt rfl (RV.tmp rfl RV.nil) ⟨_, hG27, rfl, (St.pk [] 2 H45 rfl (by decide))⟩
  replace b := ifF b hb48
  iterate 4 refine qJ rfl rfl rfl (vb hb48) ?_
  refine qb (qr (.bool false) (vb hb48) rfl) (qb (qa (.bool false) rfl) (qd (qe (wp_ret ?_))))
  have b := yq b
  subst b
  exact qt rfl (RV.tmp rfl RV.nil) ⟨_, hG27, rfl, (St.pk [] 2 H45 rfl (by decide))⟩
 replace b := ifF b hb47
 iterate 4 refine qJ rfl rfl rfl (vb hb47) ?_
 refine qb (qr (.bool false) (vb hb47) rfl) (qb (qa (.bool false) rfl) ?_)
 iterate 4 refine qJ rfl rfl rfl rfl ?_
 refine qb (qr (.bool false) rfl rfl) (qb (qa (.bool false) rfl) (qd (qe (wp_ret ?_))))
 have b := yq b
 subst b
 exact qt rfl (RV.tmp rfl RV.nil) ⟨_, hG27, rfl, (St.pk [] 2 H45 rfl (by decide))⟩

theorem pack_Bytes_ok {c : World} (k : Hc c) {G : qk} {w : World} {σ : List Ent} {a0 : TPkt} {v0_ : Value} (h0_ : qC.V G v0_ a0) (H : St c G w (σ)) {r : ((List Int) × Int)} (b : pack_Bytes a0 = some r) :
  Calls Tryz.prog 137 ([v0_] : List Value).toArray w (zu fun v w' => ∃ (G' : qk) (A1' : Option Addr) (c2' : Nat), GLe G G' ∧ tup [(.slice A1' r.1.length c2'), (.int .i64 r.2)] = v ∧ St c G' w' (σ) ∧ SlR kB G' A1' c2' r.1) := by
 unfold pack_Bytes at b
 refine qG Tryz.func137 rfl rfl rfl (wp_seq (qc ?_))
 refine zp (K := qC) (x := a0) H rfl h0_ ?_
 intro b1 w4 H2
 refine qb (qa (.slice none 0 0) rfl) (qb (qa (.int .i64 0) rfl) (qd (qe (wp_seq (qc (qb (qh xG rfl) ?_))))))
 refine ql H2 (i := 0) rfl zm jy rfl ?_
 intro v5 hv6
 obtain ⟨A7, c8, rfl, hs9⟩ := qN hv6
 refine qb (zb zJ rfl) ?_
 iterate 2 refine qb (qa (.int .i64 (IntKind.i64.wrap ((a0.Data.length : Int) + 4))) rfl) ?_
 refine qd (qe (wp_seq (wp_seq (qc (qb (qa (.int .i64 (IntKind.i64.wrap ((a0.Data.length : Int) + 4))) rfl) (qb (qa (.bool (decide ((IntKind.i64.wrap ((a0.Data.length : Int) + 4)) > 1500))) rfl) (qd (qe ?_))))))))
 rcases qm (decide ((IntKind.i64.wrap ((a0.Data.length : Int) + 4)) > 1500)) with hb10 | hb10
 ·replace b := ifT b hb10
  refine qs (vb hb10) (wp_seq (qc (qb (qa (.slice none 0 0) rfl) (qb (qa (.int .i64 1) rfl) (qd (qe (wp_ret (qI ?_))))))))
  have b := yq b
  subst b
  exact qt rfl (RV.tmp rfl (RV.tmp rfl RV.nil)) ⟨_, none, 0, GLe.refl _, rfl, (St.pk [] 1 H2 rfl (by decide)), (SlR.nil _ _)⟩
 replace b := ifF b hb10
 refine qn (vb hb10) (wp_skip (qe (wp_seq (qc (qb (qh jO rfl) (qp H2 (i := 0) rfl qW (qz .u8) ty5 rfl (qb (qh jw rfl) (qp H2 (i := 0) rfl zf (qz .u8) ty5 rfl (qb (qa (.int .i64 (IntKind.i64.wrap ((a0.Data.length : Int) + 4))) rfl) (qb (qa (.int .i64 (sShr .i64 (IntKind.i64.wrap ((a0.Data.length : Int) + 4)) 8)) rfl) ?_))))))))))
 refine qb (zU un3 un5 rfl) (qb (qa (.int .i64 (IntKind.i64.wrap ((a0.Data.length : Int) + 4))) rfl) (qb (zU un3 un5 rfl) ?_))
 refine zh (K := kB) (vs := [(.int .u8 a0.Code), (.int .u8 a0.Id), (.int .u8 (IntKind.u8.wrap ((sShr .i64 (IntKind.i64.wrap ((a0.Data.length : Int) + 4)) 8)))), (.int .u8 (IntKind.u8.wrap ((IntKind.i64.wrap ((a0.Data.length : Int) + 4)))))]) (xs := ([a0.Code, a0.Id, (IntKind.u8.wrap ((sShr .i64 (IntKind.i64.wrap ((a0.Data.length : Int) + 4)) 8))), (IntKind.u8.wrap ((IntKind.i64.wrap ((a0.Data.length : Int) + 4))))] : (List Int))) H2 zJ el5 rfl ⟨((qz .u8).toV _ _), ((qz .u8).toV _ _), ((qz .u8).toV _ _), ((qz .u8).toV _ _), yp⟩ rfl (by decide) ?_
 intro g11 w13 H12
 refine qb (qh xG rfl) ?_
 refine ql H12 (i := 1) rfl zm jy rfl ?_
 intro v15 hv16
 obtain ⟨A17, c18, rfl, hs19⟩ := qN hv16
 obtain ⟨r20, hr21, b⟩ := qu b
 refine zB H12 zJ el5 (i := 0) rfl rfl rfl (hs19.src H12.ag) hr21 ?_
 intro g22 A23 c24 w25 H26
 refine qb (qa (.slice A23 r20.length c24) rfl) (qb (qa (.int .i64 0) rfl) (qd (qe (wp_ret ?_))))
 obtain ⟨G27, hG28, H29, hs30⟩ := H26.stay (i := 0) rfl (H26.capA (i := 0) rfl)
 have b := yq b
 subst b
 exact qt rfl (RV.tmp rfl (RV.tmp rfl RV.nil)) ⟨_, A23, c24, hG28, rfl, (St.pk [] 1 H29 rfl (by decide)), hs30⟩

theorem pack_short_ok {c : World} (k : Hc c) {G : qk} {w : World} {σ : List Ent} {a0 : (List Int)} {A0_ : Option Addr} {c0_ : Nat} (h0_ : SlR kB G A0_ c0_ a0) (H : St c G w (σ)) {r : (List Int)} (b : pack_short a0 = some r) :
  Calls Tryz.prog 138 ([(.slice A0_ a0.length c0_)] : List Value).toArray w (zu fun v w' => ∃ (G' : qk) (A1' : Option Addr) (c2' : Nat), GLe G G' ∧ tup [(.slice A1' r.length c2')] = v ∧ St c G' w' (σ) ∧ SlR kB G' A1' c2' r) := by
 unfold pack_short at b
 refine qG Tryz.func138 rfl rfl rfl (wp_seq (qc (qb (qa (.slice none 0 0) rfl) (qd (qe (wp_seq (qc (qb (qa (.slice A0_ a0.length c0_) rfl) (qb (zb zJ rfl) (qb (rn_min rfl rfl) (qb (qa (.int .i64 (if 1496 < (a0.length : Int) then 1496 else (a0.length : Int))) rfl) (qd (qe (wp_seq (qc (qb (qa (.slice A0_ a0.length c0_) rfl) ?_))))))))))))))))
 iterate 2 refine qb (qa (.int .i64 (if 1496 < (a0.length : Int) then 1496 else (a0.length : Int))) rfl) ?_
 obtain ⟨r1, hr2, b⟩ := qu b
 refine qR (rn_cutm (lo := none) h0_ zJ ty5 rfl yp rfl rfl hr2) ?_
 intro z3 hs4
 refine qb (qa (.slice z3.1 r1.length z3.2) rfl) (qd (qe (wp_ret ?_)))
 have b := yq b
 subst b
 exact qt rfl (RV.tmp rfl RV.nil) ⟨_, z3.1, z3.2, GLe.refl _, rfl, H, hs4⟩

theorem pack_Reject_ok {c : World} (k : Hc c) {G : qk} {w : World} {σ : List Ent} {a0 : TPkt} {v0_ : Value} {a1 : Int} (h0_ : qC.V G v0_ a0) (H : St c G w (σ)) {r : TPkt} (b : pack_Reject a0 a1 = some r) :
  Calls Tryz.prog 79 ([v0_, (.int .u8 a1)] : List Value).toArray w (zu fun v w' => ∃ (G' : qk) (v1' : Value), GLe G G' ∧ tup [v1'] = v ∧ St c G' w' (σ) ∧ qC.V G' v1' r) := by
 unfold pack_Reject at b
 refine qG Tryz.func79 rfl rfl rfl (wp_seq (qc ?_))
 refine zp (K := qC) (x := a0) H rfl h0_ ?_
 intro b1 w4 H2
 refine qP H2 zr46 ?_
 intro b5 w8 H6
 refine qd (qe (wp_seq (qc ?_)))
 refine ql H6 (i := 1) rfl (Lens.id qC) ty46 rfl ?_
 intro v9 hv10
 obtain ⟨r11, hr12, b⟩ := qu b
 refine qo (vs := [v9]) en137 rfl (pack_Bytes_ok k hv10 H6 hr12) ?_
 rintro v17 w16 ⟨G13, A18, c19, hG14, rfl, H15, hs20⟩
 refine qb (qa (.tuple #[(.slice A18 r11.1.length c19), (.int .i64 r11.2)]) rfl) (qb (qa (.slice A18 r11.1.length c19) rfl) (qb (qa (.int .i64 r11.2) rfl) (qb (qa (.slice A18 r11.1.length c19) rfl) (qb (qa (.int .i64 r11.2) rfl) (qd (qe (wp_seq (qc (qb (qa (.int .u8 a1) rfl) (qb (qa (.slice A18 r11.1.length c19) rfl) ?_))))))))))
 obtain ⟨r21, hr22, b⟩ := qu b
 refine qo (vs := [(.slice A18 r11.1.length c19)]) en138 rfl (pack_short_ok k hs20 H15 hr22) ?_
 rintro v27 w26 ⟨G23, A28, c29, hG24, rfl, H25, hs30⟩
 refine qR (qT (G := G23) zr46 rfl bs46 rfl (Parts.cons jO qW ((qz .u8).toV _ _) (Parts.cons jw zf ((qz .u8).toV _ _) (Parts.cons xG zm (zw hs30) (Parts.nil _))))) ?_
 intro v31 hv32
 refine qy (z := (TPkt.mk 7 a1 r21)) H25 (i := 0) rfl (Lens.id qC) ty46 rfl rfl hv32 ?_
 intro w34 H33
 refine qd (qe (wp_ret ?_))
 obtain ⟨v35, hv36, hl37⟩ := H33.loadv (i := 0) rfl ty46
 have b := yq b
 subst b
 exact qt rfl (RV.cell rfl hl37 RV.nil) ⟨_, v35, (hG14.trans hG24), rfl, (St.pk [] 2 H33 rfl (by decide)), hv36⟩

theorem zC {c : World} (k : Hc c) {G : qk} {w : World} {σ : List Ent}   (H : St c G w (σ)) {r : Unit} (b : nego_codes = some r) :
  Calls Tryz.prog 80 ([] : List Value).toArray w (zu fun v w' => ∃ (G' : qk) (r1' : Nat), GLe G G' ∧ tup [(.map (some r1'))] = v ∧ St c G' w' ((.mp r1' [⟨.int .u8 1, (.func (.func 139) #[] #[]), 0⟩, ⟨.int .u8 2, (.func (.func 140) #[] #[]), 1⟩, ⟨.int .u8 3, (.func (.func 141) #[] #[]), 2⟩, ⟨.int .u8 4, (.func (.func 141) #[] #[]), 3⟩, ⟨.int .u8 5, (.func (.func 142) #[] #[]), 4⟩, ⟨.int .u8 6, (.func (.func 143) #[] #[]), 5⟩, ⟨.int .u8 7, (.func (.func 144) #[] #[]), 6⟩, ⟨.int .u8 8, (.func (.func 145) #[] #[]), 7⟩, ⟨.int .u8 9, (.func (.func 146) #[] #[]), 8⟩, ⟨.int .u8 10, (.func (.func 147) #[] #[]), 9⟩, ⟨.int .u8 11, (.func (.func 147) #[] #[]), 10⟩] 11) :: σ)) := by
 unfold nego_codes at b
 refine qG Tryz.func80 rfl rfl rfl (wp_seq (qc (qb (qa (.map none) rfl) (qd (qe (wp_seq (qc ?_)))))))
 refine wl_makeMap H ?_
 intro r1 w2 H3
 refine zz (key := (.int .u8 1)) (val := (.func (.func 139) #[] #[])) H3 (i := 0) rfl mt145 un5 rfl rfl rfl (by simp [Go.MapKept.IsKey]) rfl ?_
 intro w5 H6
 have H7 : St c G w5 ((.mp r1 [⟨.int .u8 1, (.func (.func 139) #[] #[]), 0⟩] 1) :: σ) := H6
 refine zz (key := (.int .u8 2)) (val := (.func (.func 140) #[] #[])) H7 (i := 0) rfl mt145 un5 rfl rfl rfl (by simp [Go.MapKept.IsKey]) rfl ?_
 intro w8 H9
 have H10 : St c G w8 ((.mp r1 [⟨.int .u8 1, (.func (.func 139) #[] #[]), 0⟩, ⟨.int .u8 2, (.func (.func 140) #[] #[]), 1⟩] 2) :: σ) := H9
 refine zz (key := (.int .u8 3)) (val := (.func (.func 141) #[] #[])) H10 (i := 0) rfl mt145 un5 rfl rfl rfl (by simp [Go.MapKept.IsKey]) rfl ?_
 intro w11 H12
 have H13 : St c G w11 ((.mp r1 [⟨.int .u8 1, (.func (.func 139) #[] #[]), 0⟩, ⟨.int .u8 2, (.func (.func 140) #[] #[]), 1⟩, ⟨.int .u8 3, (.func (.func 141) #[] #[]), 2⟩] 3) :: σ) := H12
 refine zz (key := (.int .u8 4)) (val := (.func (.func 141) #[] #[])) H13 (i := 0) rfl mt145 un5 rfl rfl rfl (by simp [Go.MapKept.IsKey]) rfl ?_
 intro w14 H15
 have H16 : St c G w14 ((.mp r1 [⟨.int .u8 1, (.func (.func 139) #[] #[]), 0⟩, ⟨.int .u8 2, (.func (.func 140) #[] #[]), 1⟩, ⟨.int .u8 3, (.func (.func 141) #[] #[]), 2⟩, ⟨.int .u8 4, (.func (.func 141) #[] #[]), 3⟩] 4) :: σ) := H15
 refine zz (key := (.int .u8 5)) (val := (.func (.func 142) #[] #[])) H16 (i := 0) rfl mt145 un5 rfl rfl rfl (by simp [Go.MapKept.IsKey]) rfl ?_
 intro w17 H18
 have H19 : St c G w17 ((.mp r1 [⟨.int .u8 1, (.func (.func 139) #[] #[]), 0⟩, ⟨.int .u8 2, (.func (.func 140) #[] #[]), 1⟩, ⟨.int .u8 3, (.func (.func 141) #[] #[]), 2⟩, ⟨.int .u8 4, (.func (.func 141) #[] #[]), 3⟩, ⟨.int .u8 5, (.func (.func 142) #[] #[]), 4⟩] 5) :: σ) := H18
 refine zz (key := (.int .u8 6)) (val := (.func (.func 143) #[] #[])) H19 (i := 0) rfl mt145 un5 rfl rfl rfl (by simp [Go.MapKept.IsKey]) rfl ?_
 intro w20 H21
 have H22 : St c G w20 ((.mp r1 [⟨.int .u8 1, (.func (.func 139) #[] #[]), 0⟩, ⟨.int .u8 2, (.func (.func 140) #[] #[]), 1⟩, ⟨.int .u8 3, (.func (.func 141) #[] #[]), 2⟩, ⟨.int .u8 4, (.func (.func 141) #[] #[]), 3⟩, ⟨.int .u8 5, (.func (.func 142) #[] #[]), 4⟩, ⟨.int .u8 6, (.func (.func 143) #[] #[]), 5⟩] 6) :: σ) := H21
 refine zz (key := (.int .u8 7)) (val := (.func (.func 144) #[] #[])) H22 (i := 0) rfl mt145 un5 rfl rfl rfl (by simp [Go.MapKept.IsKey]) rfl ?_
 intro w23 H24
 have H25 : St c G w23 ((.mp r1 [⟨.int .u8 1, (.func (.func 139) #[] #[]), 0⟩, ⟨.int .u8 2, (.func (.func 140) #[] #[]), 1⟩, ⟨.int .u8 3, (.func (.func 141) #[] #[]), 2⟩, ⟨.int .u8 4, (.func (.func 141) #[] #[]), 3⟩, ⟨.int .u8 5, (.func (.func 142) #[] #[]), 4⟩, ⟨.int .u8 6, (.func (.func 143) #[] #[]), 5⟩, ⟨.int .u8 7, (.func (.func 144) #[] #[]), 6⟩] 7) :: σ) := H24
 refine zz (key := (.int .u8 8)) (val := (.func (.func 145) #[] #[])) H25 (i := 0) rfl mt145 un5 rfl rfl rfl (by simp [Go.MapKept.IsKey]) rfl ?_
 intro w26 H27
 have H28 : St c G w26 ((.mp r1 [⟨.int .u8 1, (.func (.func 139) #[] #[]), 0⟩, ⟨.int .u8 2, (.func (.func 140) #[] #[]), 1⟩, ⟨.int .u8 3, (.func (.func 141) #[] #[]), 2⟩, ⟨.int .u8 4, (.func (.func 141) #[] #[]), 3⟩, ⟨.int .u8 5, (.func (.func 142) #[] #[]), 4⟩, ⟨.int .u8 6, (.func (.func 143) #[] #[]), 5⟩, ⟨.int .u8 7, (.func (.func 144) #[] #[]), 6⟩, ⟨.int .u8 8, (.func (.func 145) #[] #[]), 7⟩] 8) :: σ) := H27
 refine zz (key := (.int .u8 9)) (val := (.func (.func 146) #[] #[])) H28 (i := 0) rfl mt145 un5 rfl rfl rfl (by simp [Go.MapKept.IsKey]) rfl ?_
 intro w29 H30
 have H31 : St c G w29 ((.mp r1 [⟨.int .u8 1, (.func (.func 139) #[] #[]), 0⟩, ⟨.int .u8 2, (.func (.func 140) #[] #[]), 1⟩, ⟨.int .u8 3, (.func (.func 141) #[] #[]), 2⟩, ⟨.int .u8 4, (.func (.func 141) #[] #[]), 3⟩, ⟨.int .u8 5, (.func (.func 142) #[] #[]), 4⟩, ⟨.int .u8 6, (.func (.func 143) #[] #[]), 5⟩, ⟨.int .u8 7, (.func (.func 144) #[] #[]), 6⟩, ⟨.int .u8 8, (.func (.func 145) #[] #[]), 7⟩, ⟨.int .u8 9, (.func (.func 146) #[] #[]), 8⟩] 9) :: σ) := H30
 refine zz (key := (.int .u8 10)) (val := (.func (.func 147) #[] #[])) H31 (i := 0) rfl mt145 un5 rfl rfl rfl (by simp [Go.MapKept.IsKey]) rfl ?_
 intro w32 H33
 have H34 : St c G w32 ((.mp r1 [⟨.int .u8 1, (.func (.func 139) #[] #[]), 0⟩, ⟨.int .u8 2, (.func (.func 140) #[] #[]), 1⟩, ⟨.int .u8 3, (.func (.func 141) #[] #[]), 2⟩, ⟨.int .u8 4, (.func (.func 141) #[] #[]), 3⟩, ⟨.int .u8 5, (.func (.func 142) #[] #[]), 4⟩, ⟨.int .u8 6, (.func (.func 143) #[] #[]), 5⟩, ⟨.int .u8 7, (.func (.func 144) #[] #[]), 6⟩, ⟨.int .u8 8, (.func (.func 145) #[] #[]), 7⟩, ⟨.int .u8 9, (.func (.func 146) #[] #[]), 8⟩, ⟨.int .u8 10, (.func (.func 147) #[] #[]), 9⟩] 10) :: σ) := H33
 refine zz (key := (.int .u8 11)) (val := (.func (.func 147) #[] #[])) H34 (i := 0) rfl mt145 un5 rfl rfl rfl (by simp [Go.MapKept.IsKey]) rfl ?_
 intro w35 H36
 have H37 : St c G w35 ((.mp r1 [⟨.int .u8 1, (.func (.func 139) #[] #[]), 0⟩, ⟨.int .u8 2, (.func (.func 140) #[] #[]), 1⟩, ⟨.int .u8 3, (.func (.func 141) #[] #[]), 2⟩, ⟨.int .u8 4, (.func (.func 141) #[] #[]), 3⟩, ⟨.int .u8 5, (.func (.func 142) #[] #[]), 4⟩, ⟨.int .u8 6, (.func (.func 143) #[] #[]), 5⟩, ⟨.int .u8 7, (.func (.func 144) #[] #[]), 6⟩, ⟨.int .u8 8, (.func (.func 145) #[] #[]), 7⟩, ⟨.int .u8 9, (.func (.func 146) #[] #[]), 8⟩, ⟨.int .u8 10, (.func (.func 147) #[] #[]), 9⟩, ⟨.int .u8 11, (.func (.func 147) #[] #[]), 10⟩] 11) :: σ) := H36
 iterate 2 refine qb (qa (.map (some r1)) rfl) ?_
 refine qd (qe (wp_ret ?_))
 have b := yq b
 subst b
 exact qt rfl (RV.tmp rfl RV.nil) ⟨_, r1, GLe.refl _, rfl, H37⟩

theorem opts_parts_ok {c : World} (k : Hc c) {G : qk} {w : World} {σ : List Ent} {a0 : (List Int)} {A0_ : Option Addr} {c0_ : Nat} (h0_ : SlR kB G A0_ c0_ a0) (H : St c G w (σ)) {r : (List Int)} (b : opts_parts a0 = some r) :
  Calls Tryz.prog 215 ([(.slice A0_ a0.length c0_)] : List Value).toArray w (zu fun v w' => ∃ (G' : qk) (b1' : Nat), GLe G G' ∧ tup [(.func (.func 242) #[] #[(.pointer (some ⟨b1', 0, none⟩))])] = v ∧ St c G' w' ((.box b1' 22 (kBs.at_ r)) :: σ)) := by
 unfold opts_parts at b
 refine qG Tryz.func215 rfl rfl rfl (wp_seq (qc ?_))
 refine zp (K := kBs) (x := a0) H rfl (zw h0_) ?_
 intro b1 w4 H2
 refine qb (qa (.nilFunc) rfl) (qd (qe (wp_seq (qc ?_))))
 iterate 2 refine qb (qa (.func (.func 242) #[] #[(pt b1)]) rfl) ?_
 refine qd (qe (wp_ret ?_))
 have b := yq b
 subst b
 exact qt rfl (RV.tmp rfl RV.nil) ⟨_, b1, GLe.refl _, rfl, H2⟩

structure RdOk_opts_Read (c : World) (l fn : Nat) (tm : Array Value) (asg bdy : Code) (D bo br0 br1 : Nat) : Prop where
 yt : ∀ {G : qk} {w : World} {σ : List Ent} {u : Value} {o : TOpt} {g : Option Nat} {A : Option Addr} {cp : Nat} {x : (List TOpt)} {y0 : (List TOpt)} {y1 : Int} {r : ((List TOpt) × (List TOpt) × Int)}, qx.V G u o → St c G w (.ob l (LR true fn tm 9 10 asg bdy D) :: .box bo 30 (Kd.val.at_ (.slice A x.length cp)) :: .row qx g A cp 133 x :: .box br0 30 ((Kd.slice qx).at_ y0) :: .box br1 122 (kI.at_ y1) :: σ) → rd_opts_Read_t o x y0 y1 = some r →
  RoundIn Fence.wide 0 Tryz.prog l (LRl true fn tm 9 10 asg bdy D).fn (((LRl true fn tm 9 10 asg bdy D).params.zip #[u, .bool true]).foldl (fun t (x : Nat × Value) => t.setIfInBounds x.1 x.2) (LRl true fn tm 9 10 asg bdy D).tmps) (LRl true fn tm 9 10 asg bdy D).assign (LRl true fn tm 9 10 asg bdy D).body w (fun e w' => ∃ v, e = .returned v ∧ (v = .bool true ∧ ∃ (G' : qk) (g' : Option Nat) (A' : Option Addr) (cp' : Nat), GLe G G' ∧ St c G' w' (.ob l (LR true fn tm 9 10 asg bdy D) :: .box bo 30 (Kd.val.at_ (.slice A' r.1.length cp')) :: .row qx g' A' cp' 133 r.1 :: .box br0 30 ((Kd.slice qx).at_ r.2.1) :: .box br1 122 (kI.at_ r.2.2) :: σ)))
 yf : ∀ {G : qk} {w : World} {σ : List Ent} {u : Value} {o : TOpt} {g : Option Nat} {A : Option Addr} {cp : Nat} {x : (List TOpt)} {y0 : (List TOpt)} {y1 : Int} {r : ((List TOpt) × (List TOpt) × Int)}, qx.V G u o → St c G w (.ob l (LR true fn tm 9 10 asg bdy D) :: .box bo 30 (Kd.val.at_ (.slice A x.length cp)) :: .row qx g A cp 133 x :: .box br0 30 ((Kd.slice qx).at_ y0) :: .box br1 122 (kI.at_ y1) :: σ) → rd_opts_Read_f o x y0 y1 = some r →
  RoundIn Fence.wide 0 Tryz.prog l (LRl true fn tm 9 10 asg bdy D).fn (((LRl true fn tm 9 10 asg bdy D).params.zip #[u, .bool false]).foldl (fun t (x : Nat × Value) => t.setIfInBounds x.1 x.2) (LRl true fn tm 9 10 asg bdy D).tmps) (LRl true fn tm 9 10 asg bdy D).assign (LRl true fn tm 9 10 asg bdy D).body w (fun e w' => ∃ v, e = .returned v ∧ (v = .bool false ∧ ∃ (G' : qk) (g' : Option Nat) (A' : Option Addr) (cp' : Nat), GLe G G' ∧ St c G' w' (.ob l (LR false fn tm 9 10 asg bdy D) :: .box bo 30 (Kd.val.at_ (.slice A' r.1.length cp')) :: .row qx g' A' cp' 133 r.1 :: .box br0 30 ((Kd.slice qx).at_ r.2.1) :: .box br1 122 (kI.at_ r.2.2) :: σ)))

theorem opts_parts_1_yld_ok {c : World} (k : Hc c) {G : qk} {w : World} {σ : List Ent} {a0x : (List TOpt)} {a0y : (List TOpt)} {a0z : Int} {l_ fn_ D_ bo_ br0_ br1_ : Nat} {tm_ : Array Value} {asg_ bdy_ : Code} {g0_ : Option Nat} {A0_ : Option Addr} {c0_ : Nat} {b1 : Nat} {x7 : (List Int)} (hY : RdOk_opts_Read c l_ fn_ tm_ asg_ bdy_ D_ bo_ br0_ br1_) (H : St c G w ((.ob l_ (LR true fn_ tm_ 9 10 asg_ bdy_ D_)) :: (.box bo_ 30 (Kd.val.at_ (.slice A0_ a0x.length c0_))) :: (.row qx g0_ A0_ c0_ 133 a0x) :: (.box br0_ 30 ((Kd.slice qx).at_ a0y)) :: (.box br1_ 122 (kI.at_ a0z)) :: (.box b1 22 (kBs.at_ x7)) :: σ)) {r : (Bool × (List TOpt) × (List TOpt) × Int × (List Int))} (b : opts_parts_1_yld a0x a0y a0z x7 = some r) :
  Calls Tryz.prog 242 ([(.func (.yield l_) #[] #[]), (pt b1)] : List Value).toArray w (zu fun v w' => ∃ (G' : qk) (g1' : Option Nat) (A2' : Option Addr) (c3' : Nat), GLe G G' ∧ tup [] = v ∧ St c G' w' ((.ob l_ (LR r.1 fn_ tm_ 9 10 asg_ bdy_ D_)) :: (.box bo_ 30 (Kd.val.at_ (.slice A2' r.2.1.length c3'))) :: (.row qx g1' A2' c3' 133 r.2.1) :: (.box br0_ 30 ((Kd.slice qx).at_ r.2.2.1)) :: (.box br1_ 122 (kI.at_ r.2.2.2.1)) :: (.box b1 22 (kBs.at_ r.2.2.2.2)) :: σ)) := by
 unfold opts_parts_1_yld at b
 refine qG Tryz.func242 rfl rfl rfl (wp_block ?_)
 refine ja (fun (s : ((List TOpt) × (List TOpt) × Int × (List Int))) a w => ∃ (T0 : Fr) (G1 : qk) (g303 : Option Nat) (A304 : Option Addr) (c305 : Nat), a = mk 46 (qQ T0 [(0, (.func (.yield l_) #[] #[])), (1, (pt b1))]) ∧ GLe G G1 ∧ St c G1 w ((.ob l_ (LR true fn_ tm_ 9 10 asg_ bdy_ D_)) :: (.box bo_ 30 (Kd.val.at_ (.slice A304 s.1.length c305))) :: (.row qx g303 A304 c305 133 s.1) :: (.box br0_ 30 ((Kd.slice qx).at_ s.2.1)) :: (.box br1_ 122 (kI.at_ s.2.2.1)) :: (.box b1 22 (kBs.at_ s.2.2.2)) :: σ)) b ?_ ?_
 ·exact ⟨_, _, g0_, A0_, c0_, qf _ ⟨rfl, rfl, yp⟩, GLe.refl _, H⟩
 rintro ⟨x302, x307, x308, x309⟩ a w y312 ⟨T0, G313, g303, A304, c305, rfl, hG310, H311⟩ b hy8
 refine wp_seq (wp_seq (qc ?_))
 refine ql H311 (i := 5) rfl (Lens.id kBs) jy rfl ?_
 intro v314 hv315
 obtain ⟨A316, c317, rfl, hs318⟩ := qN hv315
 refine qb (zb zJ rfl) (qb (qa (.bool (decide ((x309.length : Int) > 0))) rfl) (qd (qe ?_)))
 rcases qm (decide ((x309.length : Int) > 0)) with hb319 | hb319
 ·replace b := ifT b hb319
  refine qs (vb hb319) (wp_skip (qe (wp_block (wp_seq ?_))))
  refine wp_seq (join (fun a w => ∃ (T0 G1 : _) (x350 : Bool) (x351 : (List TOpt)) (g352 A353 c354 : _), a = mk 46 (qQ T0 [(0, (.func (.yield l_) #[] #[])), (1, (pt b1)), (24, (.bool x350))]) ∧ GLe G313 G1 ∧ St c G1 w ((.ob l_ (LR true fn_ tm_ 9 10 asg_ bdy_ D_)) :: (.box bo_ 30 (Kd.val.at_ (.slice A353 x351.length c354))) :: (.row qx g352 A353 c354 133 x351) :: (.box br0_ 30 ((Kd.slice qx).at_ x307)) :: (.box br1_ 122 (kI.at_ x308)) :: (.box b1 22 (kBs.at_ x309)) :: σ) ∧ jX x307 x308 x309 x350 x351 = some y312) ?_ ?_)
  ·rintro a w ⟨T0, G358, x350, x351, g352, A353, c354, rfl, hG356, H357, b⟩
   rcases qm x350 with hb359 | hb359
   ·replace b := ifT b hb359
    refine qs (vb hb359) (wp_seq ?_)
    refine wc_regionY 2 rfl ?_
    refine qb (qa (.func (.yield l_) #[] #[]) rfl) ?_
    refine qR (qT (G := G358) xv rfl bs133 rfl (Parts.nil _)) ?_
    intro v360 hv361
    have H362 := H357
    obtain ⟨r363, hr364, b⟩ := qu b
    refine qd ?_
    refine wl_yield H362 (i := 0) rfl rfl rfl rfl (hY.yf hv361 H362 hr364) rfl ?_
    rintro v365 w366 ⟨rfl, G367, g368, A369, c370, hG371, H372⟩
    refine qd (qi_nil (qe (wp_ret (qI (zg (qI ?_))))))
    replace b := jJ b hy8
    refine zg ?_
    have b := yq b
    subst b
    exact qt rfl RV.nil ⟨_, g368, A369, c370, ((hG310.trans hG356).trans hG371), rfl, H372⟩
   replace b := ifF b hb359
   refine qn (vb hb359) (wp_skip (qe (wp_seq (qc ?_))))
   refine ql H357 (i := 5) rfl (Lens.id kBs) jy rfl ?_
   intro v373 hv374
   obtain ⟨A375, c376, rfl, hs377⟩ := qN hv374
   obtain ⟨x378, hx379, b⟩ := qu b
   refine qR (qY hs377 zJ ty5 rfl rfl hx379) ?_
   intro a380 hp381
   refine zd H357 hp381 (qz .u8) ty5 rfl ?_
   refine qb (zU un5 un3 rfl) (qb (qa (.int .i64 (IntKind.i64.wrap (x378))) rfl) (qd (qe ?_)))
   iterate 2 refine wp_seq ?_
   refine wc_anyI (f := 11) H357 mixed ?_
   intro w413 H414
   refine any_pfI (by repeat (first | exact PF.base | apply PF.then_ | apply PF.blk)) ?_
   intro B E
   obtain ⟨x420, hx421, b⟩ := qu b
   obtain ⟨r429, hr430, b⟩ := qu b
   obtain ⟨r436, hr437, b⟩ := qu b
   refine any_memoI (fuel := 3) (m := 255) (fun a w => ∃ T0 G1 A492 c493, a = mk 46 (qQ T0 [(0, (.func (.yield l_) #[] #[])), (1, (pt b1)), (3, (.int .i64 (IntKind.i64.wrap (x378)))), (32, (.func (.yield l_) #[] #[])), (35, (.int .u8 x420)), (39, (.slice A492 r429.length c493))]) ∧ GLe G358 G1 ∧ St c G1 w ((.box b1 22 (kBs.at_ x309)) :: (.ob l_ (LR true fn_ tm_ 9 10 asg_ bdy_ D_)) :: (.box bo_ 30 (Kd.val.at_ (.slice A353 x351.length c354))) :: (.row qx g352 A353 c354 133 x351) :: (.box br0_ 30 ((Kd.slice qx).at_ x307)) :: (.box br1_ 122 (kI.at_ x308)) :: σ) ∧ SlR kB G1 A492 c493 r429) ?_ ?_
   ·rintro a w ⟨T0, G491, A492, c493, rfl, hG489, H490, hs494⟩
    refine any_rnEI (i := 8) (m' := 511) rfl (qT (G := G491) xv rfl bs133 rfl (Parts.cons jc qX ((qz .u8).toV _ _) (Parts.cons jp qZ (zw hs494) (Parts.nil _)))) B E ?_
    intro v506 hv507
    refine any_allsI [9] ⟨?_, yp⟩
    have H508 := (St.pk [1, 2, 3, 4, 5, 0] 6 H490 rfl (by decide))
    refine any_yieldI (m' := 1023) H508 (i := 0) rfl rfl rfl rfl (hY.yt hv507 H508 hr437) ?_ rfl
    rintro v509 w510 ⟨rfl, G511, g512, A513, c514, hG515, H516⟩
    refine any_rnI (i := 10) (m' := 2047) rfl (qa (.bool false) rfl) B E ?_
    refine any_endI ?_
    refine qe (qn rfl (wp_skip (qe (qc ?_))))
    refine ql H516 (i := 5) rfl (Lens.id kBs) jy rfl ?_
    intro v517 hv518
    obtain ⟨A519, c520, rfl, hs521⟩ := qN hv518
    refine qb (qa (.int .i64 (IntKind.i64.wrap (x378))) rfl) ?_
    obtain ⟨r522, hr523, b⟩ := qu b
    refine qR (rn_cut (lo := (some (IntKind.i64.wrap (x378)))) (hi := none) hs521 zJ ty5 rfl ⟨_, rfl⟩ yp hr523) ?_
    intro z524 hs525
    refine qy (z := r522) H516 (i := 5) rfl (Lens.id kBs) jy rfl rfl (zw hs525) ?_
    intro w527 H526
    refine qd (zn (qe ?_))
    exact ⟨_, (yq b).symm, _, _, g512, A513, c514, qf _ ⟨rfl, rfl, yp⟩, (((hG310.trans hG356).trans hG489).trans hG515), H526⟩
   intro hM488
   refine any_memoI (fuel := 4) (m := 247) (fun a w => ∃ (T0 G1 : _) (a483 : Addr) (A485 c486 : _), a = mk 46 (qQ T0 [(0, (.func (.yield l_) #[] #[])), (1, (pt b1)), (3, (.int .i64 (IntKind.i64.wrap (x378)))), (32, (.func (.yield l_) #[] #[])), (34, (.pointer (some a483))), (39, (.slice A485 r429.length c486))]) ∧ GLe G358 G1 ∧ St c G1 w ((.box b1 22 (kBs.at_ x309)) :: (.ob l_ (LR true fn_ tm_ 9 10 asg_ bdy_ D_)) :: (.box bo_ 30 (Kd.val.at_ (.slice A353 x351.length c354))) :: (.row qx g352 A353 c354 133 x351) :: (.box br0_ 30 ((Kd.slice qx).at_ x307)) :: (.box br1_ 122 (kI.at_ x308)) :: σ) ∧ PtR kB G1 a483 x420 ∧ SlR kB G1 A485 c486 r429) ?_ ?_
   ·rintro a w ⟨T0, G482, a483, A485, c486, rfl, hG480, H481, hp484, hs487⟩
    refine any_allsI [3] ⟨?_, yp⟩
    refine any_opsI (m' := 255) rfl ?_
    intro I j
    refine zd H481 hp484 (qz .u8) ty5 rfl ?_
    refine qd (j _ _ ?_)
    exact hM488 _ _ ⟨_, _, A485, c486, qf _ ⟨rfl, rfl, rfl, rfl, rfl, rfl, yp⟩, hG480, H481, hs487⟩
   intro hM479
   refine any_rnI (i := 0) (m' := 1) rfl (qa (.func (.yield l_) #[] #[]) rfl) B E ?_
   refine any_rnI (i := 5) (m' := 33) rfl (qa (.int .i64 (IntKind.i64.wrap (x378))) rfl) B E ?_
   refine any_rnI (i := 6) (m' := 97) rfl (qa (.int .i64 (IntKind.i64.wrap (x378))) rfl) B E ?_
   refine any_allsI [1, 4] ⟨?_, ?_, yp⟩
   ·refine any_opsI (m' := 99) rfl ?_
    intro I j
    refine ql H414 (i := 5) rfl (Lens.id kBs) jy rfl ?_
    intro v528 hv529
    obtain ⟨A530, c531, rfl, hs532⟩ := qN hv529
    refine qd (j _ _ ?_)
    refine any_rnEI (i := 2) (m' := 103) rfl (qY hs532 zJ ty5 rfl rfl hx421) B E ?_
    intro a533 hp534
    refine any_allsI [3, 4] ⟨?_, ?_, yp⟩
    ·refine any_opsI (m' := 111) rfl ?_
     intro I j
     refine zd H414 hp534 (qz .u8) ty5 rfl ?_
     refine qd (j _ _ ?_)
     refine any_allsI [4] ⟨?_, yp⟩
     refine any_opsI (m' := 127) rfl ?_
     intro I j
     refine ql H414 (i := 5) rfl (Lens.id kBs) jy rfl ?_
     intro v535 hv536
     obtain ⟨A537, c538, rfl, hs539⟩ := qN hv536
     refine qd (j _ _ ?_)
     refine any_rnEI (i := 7) (m' := 255) rfl (rn_cutm (lo := (some 2)) hs539 zJ ty5 rfl ⟨_, rfl⟩ rfl rfl hr430) B E ?_
     intro z540 hs541
     exact hM488 _ _ ⟨_, _, z540.1, z540.2, qf _ ⟨rfl, rfl, rfl, rfl, rfl, rfl, yp⟩, GLe.refl _, (St.pk [5, 0, 1, 2, 3, 4] 6 H414 rfl (by decide)), hs541⟩
    refine any_opsI (m' := 119) rfl ?_
    intro I j
    refine ql H414 (i := 5) rfl (Lens.id kBs) jy rfl ?_
    intro v542 hv543
    obtain ⟨A544, c545, rfl, hs546⟩ := qN hv543
    refine qd (j _ _ ?_)
    refine any_rnEI (i := 7) (m' := 247) rfl (rn_cutm (lo := (some 2)) hs546 zJ ty5 rfl ⟨_, rfl⟩ rfl rfl hr430) B E ?_
    intro z547 hs548
    exact hM479 _ _ ⟨_, _, a533, z547.1, z547.2, qf _ ⟨rfl, rfl, rfl, rfl, rfl, rfl, yp⟩, GLe.refl _, (St.pk [5, 0, 1, 2, 3, 4] 6 H414 rfl (by decide)), hp534, hs548⟩
   refine any_opsI (m' := 113) rfl ?_
   intro I j
   refine ql H414 (i := 5) rfl (Lens.id kBs) jy rfl ?_
   intro v549 hv550
   obtain ⟨A551, c552, rfl, hs553⟩ := qN hv550
   refine qd (j _ _ ?_)
   refine any_rnEI (i := 7) (m' := 241) rfl (rn_cutm (lo := (some 2)) hs553 zJ ty5 rfl ⟨_, rfl⟩ rfl rfl hr430) B E ?_
   intro z554 hs555
   refine any_allsI [1] ⟨?_, yp⟩
   refine any_opsI (m' := 243) rfl ?_
   intro I j
   refine ql H414 (i := 5) rfl (Lens.id kBs) jy rfl ?_
   intro v556 hv557
   obtain ⟨A558, c559, rfl, hs560⟩ := qN hv557
   refine qd (j _ _ ?_)
   refine any_rnEI (i := 2) (m' := 247) rfl (qY hs560 zJ ty5 rfl rfl hx421) B E ?_
   intro a561 hp562
   exact hM479 _ _ ⟨_, _, a561, z554.1, z554.2, qf _ ⟨rfl, rfl, rfl, rfl, rfl, rfl, yp⟩, GLe.refl _, (St.pk [5, 0, 1, 2, 3, 4] 6 H414 rfl (by decide)), hp562, hs555⟩
  refine jP (f := 18) H311 mixed ?_
  intro w563 H564
  refine xW (by repeat (first | exact PF.base | apply PF.then_ | apply PF.blk)) ?_
  intro B E
  rcases qm (decide ((x309.length : Int) < 2)) with hb570 | hb570
  ·replace b := ifT b hb570
   refine qi [0] ⟨qg (m' := 1) fun I j => ?_, yp⟩
   refine ql H564 (i := 5) rfl (Lens.id kBs) jy rfl ?_
   intro v576 hv577
   obtain ⟨A578, c579, rfl, hs580⟩ := qN hv577
   refine qd (j _ _ ?_)
   refine qq (i := 1) (m' := 3) rfl (zb zJ rfl) B E ?_
   refine qq (i := 2) (m' := 7) rfl (qa (.bool (decide ((x309.length : Int) < 2))) rfl) B E ?_
   refine qq (i := 3) (m' := 15) rfl (qa (.bool (decide ((x309.length : Int) < 2))) rfl) B E ?_
   refine qS (i := 4) (m' := 31) 10 false rfl (vb hb570) B E ?_
   refine qS (i := 5) (m' := 63) 10 false rfl (vb hb570) B E ?_
   refine qS (i := 6) (m' := 127) 10 false rfl (vb hb570) B E ?_
   refine qS (i := 7) (m' := 255) 10 false rfl (vb hb570) B E ?_
   refine qq (i := 8) (m' := 511) rfl (qB (.bool true) (vb hb570) rfl) B E ?_
   refine qq (i := 9) (m' := 1023) rfl (qa (.bool true) rfl) B E ?_
   refine qS (i := 10) (m' := 2047) 16 false rfl rfl B E ?_
   refine qS (i := 11) (m' := 4095) 16 false rfl rfl B E ?_
   refine qS (i := 12) (m' := 8191) 16 false rfl rfl B E ?_
   refine qS (i := 13) (m' := 16383) 16 false rfl rfl B E ?_
   refine qS (i := 14) (m' := 32767) 16 false rfl rfl B E ?_
   refine qS (i := 15) (m' := 65535) 16 false rfl rfl B E ?_
   refine qS (i := 16) (m' := 131071) 16 false rfl rfl B E ?_
   refine qq (i := 17) (m' := 262143) rfl (qB (.bool true) rfl rfl) B E ?_
   refine zA (qe ?_)
   exact ⟨_, _, true, x302, g303, A304, c305, qf _ ⟨rfl, rfl, rfl, yp⟩, GLe.refl _, H564, b⟩
  replace b := ifF b hb570
  obtain ⟨x586, hx587, b⟩ := qu b
  rcases qm (decide (x586 < 2)) with hb590 | hb590
  ·replace b := ifT b hb590
   refine qi [0] ⟨qg (m' := 1) fun I j => ?_, yp⟩
   refine ql H564 (i := 5) rfl (Lens.id kBs) jy rfl ?_
   intro v603 hv604
   obtain ⟨A605, c606, rfl, hs607⟩ := qN hv604
   refine qd (j _ _ ?_)
   refine qq (i := 1) (m' := 3) rfl (zb zJ rfl) B E ?_
   refine qq (i := 2) (m' := 7) rfl (qa (.bool (decide ((x309.length : Int) < 2))) rfl) B E ?_
   refine qq (i := 3) (m' := 15) rfl (qa (.bool (decide ((x309.length : Int) < 2))) rfl) B E ?_
   refine qi [4] ⟨qg (m' := 31) fun I j => ?_, yp⟩
   refine qj rfl rfl rfl (vb hb570) ?_
   refine ql H564 (i := 5) rfl (Lens.id kBs) jy rfl ?_
   intro v608 hv609
   obtain ⟨A610, c611, rfl, hs612⟩ := qN hv609
   refine qd (j _ _ ?_)
   refine any_rnEG 10 false (i := 5) (m' := 63) rfl (qY hs612 zJ ty5 rfl rfl hx587) (vb hb570) B E ?_
   intro a613 hp614
   refine qi [6] ⟨qg (m' := 127) fun I j => ?_, yp⟩
   refine qj rfl rfl rfl (vb hb570) ?_
   refine zd H564 hp614 (qz .u8) ty5 rfl ?_
   refine qd (j _ _ ?_)
   refine zE 10 false (i := 7) (m' := 255) rfl (qa (.bool (decide (x586 < 2))) rfl) (vb hb570) B E ?_
   refine qq (i := 8) (m' := 511) rfl (qr (.bool (decide (x586 < 2))) (vb hb570) rfl) B E ?_
   refine qq (i := 9) (m' := 1023) rfl (qa (.bool (decide (x586 < 2))) rfl) B E ?_
   refine qS (i := 10) (m' := 2047) 16 false rfl (vb hb590) B E ?_
   refine qS (i := 11) (m' := 4095) 16 false rfl (vb hb590) B E ?_
   refine qS (i := 12) (m' := 8191) 16 false rfl (vb hb590) B E ?_
   refine qS (i := 13) (m' := 16383) 16 false rfl (vb hb590) B E ?_
   refine qS (i := 14) (m' := 32767) 16 false rfl (vb hb590) B E ?_
   refine qS (i := 15) (m' := 65535) 16 false rfl (vb hb590) B E ?_
   refine qS (i := 16) (m' := 131071) 16 false rfl (vb hb590) B E ?_
   refine qq (i := 17) (m' := 262143) rfl (qB (.bool true) (vb hb590) rfl) B E ?_
   refine zA (qe ?_)
   exact ⟨_, _, true, x302, g303, A304, c305, qf _ ⟨rfl, rfl, rfl, yp⟩, GLe.refl _, H564, b⟩
  replace b := ifF b hb590
  obtain ⟨x620, hx621, b⟩ := qu b
  refine qF (fuel := 2) (m := 65535) (fun a w => ∃ T0 G1, a = mk 46 (qQ T0 [(0, (.func (.yield l_) #[] #[])), (1, (pt b1)), (16, (.bool (decide (x586 < 2)))), (20, (.int .i64 (IntKind.i64.wrap (x620)))), (22, (.int .i64 (x309.length : Int)))]) ∧ GLe G313 G1 ∧ St c G1 w ((.box b1 22 (kBs.at_ x309)) :: (.ob l_ (LR true fn_ tm_ 9 10 asg_ bdy_ D_)) :: (.box bo_ 30 (Kd.val.at_ (.slice A304 x302.length c305))) :: (.row qx g303 A304 c305 133 x302) :: (.box br0_ 30 ((Kd.slice qx).at_ x307)) :: (.box br1_ 122 (kI.at_ x308)) :: σ)) ?_ ?_
  ·rintro a w ⟨T0, G677, rfl, hG675, H676⟩
   refine zE 16 false (i := 16) (m' := 131071) rfl (qa (.bool (decide ((IntKind.i64.wrap (x620)) > (x309.length : Int)))) rfl) (vb hb590) B E ?_
   refine qq (i := 17) (m' := 262143) rfl (qr (.bool (decide ((IntKind.i64.wrap (x620)) > (x309.length : Int)))) (vb hb590) rfl) B E ?_
   refine zA (qe ?_)
   exact ⟨_, _, (decide ((IntKind.i64.wrap (x620)) > (x309.length : Int))), x302, g303, A304, c305, qf _ ⟨rfl, rfl, rfl, yp⟩, hG675, (St.pk [1, 2, 3, 4, 5, 0] 6 H676 rfl (by decide)), b⟩
  intro hM674
  refine qF (fuel := 4) (m := 53247) (fun a w => ∃ (T0 G1 : _) (a672 : Addr), a = mk 46 (qQ T0 [(0, (.func (.yield l_) #[] #[])), (1, (pt b1)), (16, (.bool (decide (x586 < 2)))), (18, (.pointer (some a672))), (22, (.int .i64 (x309.length : Int)))]) ∧ GLe G313 G1 ∧ St c G1 w ((.box b1 22 (kBs.at_ x309)) :: (.ob l_ (LR true fn_ tm_ 9 10 asg_ bdy_ D_)) :: (.box bo_ 30 (Kd.val.at_ (.slice A304 x302.length c305))) :: (.row qx g303 A304 c305 133 x302) :: (.box br0_ 30 ((Kd.slice qx).at_ x307)) :: (.box br1_ 122 (kI.at_ x308)) :: σ) ∧ PtR kB G1 a672 x620) ?_ ?_
  ·rintro a w ⟨T0, G671, a672, rfl, hG669, H670, hp673⟩
   refine qi [12] ⟨qg (m' := 57343) fun I j => ?_, yp⟩
   refine qj rfl rfl rfl (vb hb590) ?_
   refine zd H670 hp673 (qz .u8) ty5 rfl ?_
   refine qd (j _ _ ?_)
   refine zE 16 false (i := 13) (m' := 65535) rfl (zU un5 un3 rfl) (vb hb590) B E ?_
   exact hM674 _ _ ⟨_, _, qf _ ⟨rfl, rfl, rfl, rfl, rfl, yp⟩, hG669, H670⟩
  intro hM668
  refine qi [0] ⟨qg (m' := 1) fun I j => ?_, yp⟩
  refine ql H564 (i := 5) rfl (Lens.id kBs) jy rfl ?_
  intro v678 hv679
  obtain ⟨A680, c681, rfl, hs682⟩ := qN hv679
  refine qd (j _ _ ?_)
  refine qq (i := 1) (m' := 3) rfl (zb zJ rfl) B E ?_
  refine qq (i := 2) (m' := 7) rfl (qa (.bool (decide ((x309.length : Int) < 2))) rfl) B E ?_
  refine qq (i := 3) (m' := 15) rfl (qa (.bool (decide ((x309.length : Int) < 2))) rfl) B E ?_
  refine qi [4] ⟨qg (m' := 31) fun I j => ?_, yp⟩
  refine qj rfl rfl rfl (vb hb570) ?_
  refine ql H564 (i := 5) rfl (Lens.id kBs) jy rfl ?_
  intro v683 hv684
  obtain ⟨A685, c686, rfl, hs687⟩ := qN hv684
  refine qd (j _ _ ?_)
  refine any_rnEG 10 false (i := 5) (m' := 63) rfl (qY hs687 zJ ty5 rfl rfl hx587) (vb hb570) B E ?_
  intro a688 hp689
  refine qi [6] ⟨qg (m' := 127) fun I j => ?_, yp⟩
  refine qj rfl rfl rfl (vb hb570) ?_
  refine zd H564 hp689 (qz .u8) ty5 rfl ?_
  refine qd (j _ _ ?_)
  refine zE 10 false (i := 7) (m' := 255) rfl (qa (.bool (decide (x586 < 2))) rfl) (vb hb570) B E ?_
  refine qq (i := 8) (m' := 511) rfl (qr (.bool (decide (x586 < 2))) (vb hb570) rfl) B E ?_
  refine qq (i := 9) (m' := 1023) rfl (qa (.bool (decide (x586 < 2))) rfl) B E ?_
  refine qi [10, 14] ⟨?_, ?_, yp⟩
  ·refine qg (m' := 2047) fun I j => ?_
   refine qj rfl rfl rfl (vb hb590) ?_
   refine ql H564 (i := 5) rfl (Lens.id kBs) jy rfl ?_
   intro v690 hv691
   obtain ⟨A692, c693, rfl, hs694⟩ := qN hv691
   refine qd (j _ _ ?_)
   refine any_rnEG 16 false (i := 11) (m' := 4095) rfl (qY hs694 zJ ty5 rfl rfl hx621) (vb hb590) B E ?_
   intro a695 hp696
   refine qi [12, 14] ⟨?_, ?_, yp⟩
   ·refine qg (m' := 8191) fun I j => ?_
    refine qj rfl rfl rfl (vb hb590) ?_
    refine zd H564 hp696 (qz .u8) ty5 rfl ?_
    refine qd (j _ _ ?_)
    refine zE 16 false (i := 13) (m' := 16383) rfl (zU un5 un3 rfl) (vb hb590) B E ?_
    refine qi [14] ⟨qg (m' := 32767) fun I j => ?_, yp⟩
    refine qj rfl rfl rfl (vb hb590) ?_
    refine ql H564 (i := 5) rfl (Lens.id kBs) jy rfl ?_
    intro v697 hv698
    obtain ⟨A699, c700, rfl, hs701⟩ := qN hv698
    refine qd (j _ _ ?_)
    refine zE 16 false (i := 15) (m' := 65535) rfl (zb zJ rfl) (vb hb590) B E ?_
    exact hM674 _ _ ⟨_, _, qf _ ⟨rfl, rfl, rfl, rfl, rfl, yp⟩, GLe.refl _, (St.pk [5, 0, 1, 2, 3, 4] 6 H564 rfl (by decide))⟩
   refine qg (m' := 20479) fun I j => ?_
   refine qj rfl rfl rfl (vb hb590) ?_
   refine ql H564 (i := 5) rfl (Lens.id kBs) jy rfl ?_
   intro v702 hv703
   obtain ⟨A704, c705, rfl, hs706⟩ := qN hv703
   refine qd (j _ _ ?_)
   refine zE 16 false (i := 15) (m' := 53247) rfl (zb zJ rfl) (vb hb590) B E ?_
   exact hM668 _ _ ⟨_, _, a695, qf _ ⟨rfl, rfl, rfl, rfl, rfl, yp⟩, GLe.refl _, (St.pk [5, 0, 1, 2, 3, 4] 6 H564 rfl (by decide)), hp696⟩
  refine qg (m' := 17407) fun I j => ?_
  refine qj rfl rfl rfl (vb hb590) ?_
  refine ql H564 (i := 5) rfl (Lens.id kBs) jy rfl ?_
  intro v707 hv708
  obtain ⟨A709, c710, rfl, hs711⟩ := qN hv708
  refine qd (j _ _ ?_)
  refine zE 16 false (i := 15) (m' := 50175) rfl (zb zJ rfl) (vb hb590) B E ?_
  refine qi [10] ⟨qg (m' := 51199) fun I j => ?_, yp⟩
  refine qj rfl rfl rfl (vb hb590) ?_
  refine ql H564 (i := 5) rfl (Lens.id kBs) jy rfl ?_
  intro v712 hv713
  obtain ⟨A714, c715, rfl, hs716⟩ := qN hv713
  refine qd (j _ _ ?_)
  refine any_rnEG 16 false (i := 11) (m' := 53247) rfl (qY hs716 zJ ty5 rfl rfl hx621) (vb hb590) B E ?_
  intro a717 hp718
  exact hM668 _ _ ⟨_, _, a717, qf _ ⟨rfl, rfl, rfl, rfl, rfl, yp⟩, GLe.refl _, (St.pk [5, 0, 1, 2, 3, 4] 6 H564 rfl (by decide)), hp718⟩
 replace b := ifF b hb319
 refine qn (vb hb319) ?_
 refine wp_exit ?_
 iterate 2 refine xB ?_
 replace b := jJ b hy8
 refine blk_e ?_
 have b := yq b
 subst b
 exact end_mk rfl RV.nil ⟨_, g303, A304, c305, hG310, rfl, H311⟩

theorem opts_Read_ok {c : World} (k : Hc c) {G : qk} {w : World} {σ : List Ent} {a0 : (List Int)} {A0_ : Option Addr} {c0_ : Nat} (h0_ : SlR kB G A0_ c0_ a0) (H : St c G w (σ)) {r : ((List TOpt) × Int)} (b : opts_Read a0 = some r) :
  Calls Tryz.prog 187 ([(.slice A0_ a0.length c0_)] : List Value).toArray w (zu fun v w' => ∃ (G' : qk) (A1' : Option Addr) (c2' : Nat), GLe G G' ∧ tup [(.slice A1' r.1.length c2'), (.int .i64 r.2)] = v ∧ St c G' w' (σ) ∧ SlR qx G' A1' c2' r.1) := by
 unfold opts_Read at b
 refine calls_mkM Tryz.func187 rfl rfl rfl ?_
 refine wp_seq (qc ?_)
 refine qP H zr30 ?_
 intro b1 w4 H2
 refine qP H2 zr122 ?_
 intro b5 w8 H6
 refine qd (qe (wp_seq (qc ?_)))
 refine qP H6 zr30V ?_
 intro b9 w12 H10
 refine qd (qe (wp_seq (wp_seq (qc (qb (qa (.slice A0_ a0.length c0_) rfl) ?_)))))
 obtain ⟨r13, hr14, b⟩ := qu b
 refine qo (vs := [(.slice A0_ a0.length c0_)]) en215 rfl (opts_parts_ok k h0_ H10 hr14) ?_
 rintro v19 w18 ⟨G15, b20, hG16, rfl, H17⟩
 refine qd (qe (wp_block ?_))
 have H22 := H17.nilrow qx none 133
 refine wc_range en242 H22 rfl ?_
 intro n25 l24 D26 w27 H28
 obtain ⟨r31, hr32, b⟩ := qu b
 have H33 := (St.pk [0, 4, 2, 6, 5, 3, 1] 7 H28 rfl (by decide))
 refine calls_range (opts_parts_1_yld_ok k (hY := ?hY) H33 hr32) ?post
 case hY =>
  refine ⟨?_, ?_⟩
  ·intro Gr w σ u o g A cp x y0 y1 r hu Hr b
   unfold rd_opts_Read_t at b
   refine round_of (c := c) (G := Gr) (r := LRl true _ _ _ _ _ _ _) rfl rfl rfl ?_
   refine wpIn_seq ?_
   refine wcI_region rfl ?_
   refine qP Hr xv ?_
   intro b39 w42 H40
   refine qy (z := o) H40 (i := 0) rfl (Lens.id qx) zc rfl rfl hu ?_
   intro w44 H43
   refine qd (qi_nil (qe ?_))
   refine wcI_region rfl ?_
   refine qb (qa (.bool true) rfl) (qd (qi_nil (qe ?_)))
   refine ⟨_, 1, H43, rfl, ?_⟩
   intro w45 H46
   refine wpIn_block ?_
   iterate 2 refine wpIn_seq ?_
   refine wcI_region rfl ?_
   refine qb (qa (.bool true) rfl) (qb (qa (.bool false) rfl) (qd (qi_nil (qe ?_))))
   refine wpIn_cond_false (by rw [eval_mk]; rfl) ?_
   refine wpIn_skip ?_
   refine qe ?_
   refine wcI_region rfl ?_
   refine ql H46 (i := 2) rfl (Lens.id Kd.val) ty30 rfl ?_
   intro v47 hv48
   obtain rfl := val_V hv48
   refine ql H46 (i := 0) rfl (Lens.id qx) zc rfl ?_
   intro v49 hv50
   refine zh (K := qx) (vs := [v49]) (xs := ([o] : (List TOpt))) H46 zQ el133 rfl ⟨hv50, yp⟩ rfl (by decide) ?_
   intro g51 w53 H52
   obtain ⟨r55, hr56, b⟩ := qu b
   refine zB H52 zQ el133 (i := 4) rfl rfl rfl ((H52.okAt (i := 0) rfl).src) hr56 ?_
   intro g57 A58 c59 w60 H61
   refine qy (z := (.slice A58 r55.length c59)) H61 (i := 3) rfl (Lens.id Kd.val) ty30 rfl rfl ⟨[_], rfl, rfl, rfl⟩ ?_
   intro w63 H62
   refine qd (qi_nil (zn ?_))
   have b := yq b
   subst b
   refine round_next H62 (i := 2) rfl ?_
   intro w64 H65
   exact ⟨rfl, _, g57, A58, c59, GLe.refl _, (St.pk [2, 3, 4, 5, 6] 7 H65 rfl (by decide))⟩
  ·intro Gr w σ u o g A cp x y0 y1 r hu Hr b
   unfold rd_opts_Read_f at b
   refine round_of (c := c) (G := Gr) (r := LRl true _ _ _ _ _ _ _) rfl rfl rfl ?_
   refine wpIn_seq ?_
   refine wcI_region rfl ?_
   refine qP Hr xv ?_
   intro b71 w74 H72
   refine qy (z := o) H72 (i := 0) rfl (Lens.id qx) zc rfl rfl hu ?_
   intro w76 H75
   refine qd (qi_nil (qe ?_))
   refine wcI_region rfl ?_
   refine qb (qa (.bool false) rfl) (qd (qi_nil (qe ?_)))
   refine ⟨_, 1, H75, rfl, ?_⟩
   intro w77 H78
   refine wpIn_block ?_
   iterate 2 refine wpIn_seq ?_
   refine wcI_region rfl ?_
   refine qb (qa (.bool false) rfl) (qb (qa (.bool true) rfl) (qd (qi_nil (qe ?_))))
   refine wpIn_cond_true (by rw [eval_mk]; rfl) ?_
   refine wpIn_seq ?_
   refine wcI_region rfl ?_
   refine qy (z := []) H78 (i := 4) rfl (Lens.id (Kd.slice qx)) ty30 rfl rfl (zw (SlR.nil _ _)) ?_
   intro w80 H79
   refine qy (z := 2) H79 (i := 5) rfl (Lens.id kI) ty122 rfl rfl ((qz .i64).toV _ _) ?_
   intro w82 H81
   refine qd (qi_nil (qe ?_))
   refine wpIn_ret ?_
   refine qI (zg ?_)
   have b := yq b
   subst b
   refine round_ret H81 (i := 1) rfl ?_
   intro w83 H84
   exact ⟨rfl, _, g, A, cp, GLe.refl _, (St.pk [1, 2, 3, 4, 5] 6 H84 rfl (by decide))⟩
 case post =>
  rintro v85 w86 ⟨G87, g88, A89, c90, hG91, _, H92⟩
  rcases qm r31.1 with hb93 | hb93
  ·replace b := ifT b hb93
   refine range_none H92 (i := 0) rfl (by rw [hb93]; rfl) (by rw [hb93]; rfl) ?_
   intro w94 H95
   have H96 := H95.drop
   refine zn (qe (wp_seq ?_))
   refine wc_regionD rfl ?_
   refine ql H96 (i := 0) rfl (Lens.id Kd.val) ty30 rfl ?_
   intro v97 hv98
   obtain rfl := val_V hv98
   obtain ⟨G99, hG100, H101, hs102⟩ := H96.stay (i := 1) rfl (H96.capA (i := 1) rfl)
   refine qy (z := r31.2.1) H101 (i := 1) rfl (Lens.id (Kd.slice qx)) ty30 rfl rfl (zw hs102) ?_
   intro w104 H103
   refine qy (z := 0) H103 (i := 2) rfl (Lens.id kI) ty122 rfl rfl ((qz .i64).toV _ _) ?_
   intro w106 H105
   refine qd (qe (wp_ret ?_))
   refine ret_mkM H105 (i := 4) rfl rfl ?_
   intro w113 H114
   obtain ⟨v107, hv108, hl109⟩ := H114.loadv (i := 1) rfl ty30
   obtain ⟨A115, c116, rfl, hs117⟩ := qN hv108
   obtain ⟨v110, hv111, hl112⟩ := H114.loadv (i := 2) rfl ty122
   obtain rfl := Det.V (qz .i64) hv111
   have b := yq b
   subst b
   exact ⟨_, (RV.cell rfl hl109 (RV.cell rfl hl112 RV.nil)), ⟨_, A115, c116, ((hG16.trans hG91).trans hG100), rfl, (St.pk [] 5 H114 rfl (by decide)), hs117⟩⟩
  ·replace b := ifF b hb93
   refine range_ret H92 (i := 0) rfl (by rw [hb93]; rfl) (by rw [hb93]; rfl) ?_
   intro w118 H119
   have H120 := H119.drop
   refine zg (qI ?_)
   refine ret_mkM H120 (i := 5) rfl rfl ?_
   intro w127 H128
   obtain ⟨v121, hv122, hl123⟩ := H128.loadv (i := 2) rfl ty30
   obtain ⟨A129, c130, rfl, hs131⟩ := qN hv122
   obtain ⟨v124, hv125, hl126⟩ := H128.loadv (i := 3) rfl ty122
   obtain rfl := Det.V (qz .i64) hv125
   have b := yq b
   subst b
   exact ⟨_, (RV.cell rfl hl123 (RV.cell rfl hl126 RV.nil)), ⟨_, A129, c130, (hG16.trans hG91), rfl, (St.pk [] 6 H128 rfl (by decide)), hs131⟩⟩

theorem xK {c : World} (k : Hc c) {G : qk} {w : World} {σ : List Ent} {a0 : TRule} {v0_ : Value} (h0_ : qU.V G v0_ a0) (hk : a0.Ip = true) (H : St c G w (σ)) {r : Unit} (b : rules_kinds_k1 a0 = some r) :
  Calls Tryz.prog 206 ([v0_] : List Value).toArray w (zu fun v w' => ∃ (G' : qk) (r1' : Nat) (v2' : Value), GLe G G' ∧ tup [(.map (some r1'))] = v ∧ St c G' w' ((.mp r1' [⟨.int .u8 3, v2', 0⟩] 1) :: σ) ∧ qw.V G' v2' (Trules_kind.mk 4 (FV.rules_kinds_1 a0) a0.Addr)) := by
 unfold rules_kinds_k1 at b
 refine qG Tryz.func206 rfl rfl rfl (wp_seq (qc ?_))
 refine zp (K := qU) (x := a0) H rfl h0_ ?_
 intro b1 w4 H2
 refine qb (qa (.map none) rfl) (qd (qe (wp_seq (wp_seq (qc (qb (qh fo29_0 rfl) (qp H2 (i := 0) rfl xO dBool ty4 rfl (qd (qe (qs (vb hk) (wp_seq (qc ?_))))))))))))
 refine wl_makeMap H2 ?_
 intro r5 w6 H7
 refine qb (qa (.func (.func 235) #[] #[(pt b1)]) rfl) (qb (qh fo29_3 rfl) (qp H7 (i := 1) rfl lTRule_Addr (qz .u32) ty27 rfl ?_))
 obtain ⟨G9, hG10, H11, hp12⟩ := H7.sealbox (i := 1) rfl
 refine qR (qT (G := G9) zr219 rfl bs219 rfl (Parts.cons fo219_0 zP ((qz .i64).toV _ _) (Parts.cons fo219_1 xo (vFV_rules_kinds_1 hp12) (Parts.cons fo219_2 xD ((qz .u32).toV _ _) (Parts.nil _))))) ?_
 intro v13 hv14
 refine zz (key := (.int .u8 3)) (val := v13) H11 (i := 0) rfl mt250 un5 rfl rfl rfl (by simp [Go.MapKept.IsKey]) rfl ?_
 intro w15 H16
 have H17 : St c G9 w15 ((.mp r5 [⟨.int .u8 3, v13, 0⟩] 1) :: σ) := H16
 iterate 2 refine qb (qa (.map (some r5)) rfl) ?_
 refine qd (qe (wp_ret (qI ?_)))
 have b := yq b
 subst b
 exact qt rfl (RV.tmp rfl RV.nil) ⟨_, r5, v13, hG10, rfl, H17, hv14⟩

theorem rules_kinds_k0_ok {c : World} (k : Hc c) {G : qk} {w : World} {σ : List Ent} {a0 : TRule} {v0_ : Value} (h0_ : qU.V G v0_ a0) (hk : a0.Ip = false) (H : St c G w (σ)) {r : Unit} (b : rules_kinds_k0 a0 = some r) :
  Calls Tryz.prog 206 ([v0_] : List Value).toArray w (zu fun v w' => ∃ (G' : qk) (r1' : Nat) (v2' : Value) (v3' : Value) (v4' : Value) (v5' : Value) (v6' : Value), GLe G G' ∧ tup [(.map (some r1'))] = v ∧ St c G' w' ((.mp r1' [⟨.int .u8 1, v2', 0⟩, ⟨.int .u8 2, v3', 1⟩, ⟨.int .u8 5, v4', 2⟩, ⟨.int .u8 7, v5', 3⟩, ⟨.int .u8 8, v6', 4⟩] 5) :: σ) ∧ qw.V G' v2' (Trules_kind.mk 2 FV.rules_kinds_2 64) ∧ qw.V G' v3' (Trules_kind.mk 4 FV.rules_never 0) ∧ qw.V G' v4' (Trules_kind.mk 4 (FV.rules_kinds_3 a0) a0.Other) ∧ qw.V G' v5' (Trules_kind.mk 0 FV.rules_never 0) ∧ qw.V G' v6' (Trules_kind.mk 0 FV.rules_never 0)) := by
 unfold rules_kinds_k0 at b
 refine qG Tryz.func206 rfl rfl rfl (wp_seq (qc ?_))
 refine zp (K := qU) (x := a0) H rfl h0_ ?_
 intro b1 w4 H2
 refine qb (qa (.map none) rfl) (qd (qe (wp_seq (wp_seq (qc (qb (qh fo29_0 rfl) (qp H2 (i := 0) rfl xO dBool ty4 rfl (qd (qe (qn (vb hk) (wp_skip (qe ?_))))))))))))
 refine wp_seq (qc ?_)
 refine wl_makeMap H2 ?_
 intro r5 w6 H7
 refine qR (qT (G := G) zr219 rfl bs219 rfl (Parts.cons fo219_0 zP ((qz .i64).toV _ _) (Parts.cons fo219_1 xo (vFV_rules_kinds_2 (G := G)) (Parts.cons fo219_2 xD ((qz .u32).toV _ _) (Parts.nil _))))) ?_
 intro v9 hv10
 refine zz (key := (.int .u8 1)) (val := v9) H7 (i := 0) rfl mt250 un5 rfl rfl rfl (by simp [Go.MapKept.IsKey]) rfl ?_
 intro w11 H12
 have H13 : St c G w11 ((.mp r5 [⟨.int .u8 1, v9, 0⟩] 1) :: (.box b1 29 (qU.at_ a0)) :: σ) := H12
 refine qR (qT (G := G) zr219 rfl bs219 rfl (Parts.cons fo219_0 zP ((qz .i64).toV _ _) (Parts.cons fo219_1 xo (vFV_rules_never (G := G)) (Parts.cons fo219_2 xD ((qz .u32).toV _ _) (Parts.nil _))))) ?_
 intro v14 hv15
 refine zz (key := (.int .u8 2)) (val := v14) H13 (i := 0) rfl mt250 un5 rfl rfl rfl (by simp [Go.MapKept.IsKey]) rfl ?_
 intro w16 H17
 have H18 : St c G w16 ((.mp r5 [⟨.int .u8 1, v9, 0⟩, ⟨.int .u8 2, v14, 1⟩] 2) :: (.box b1 29 (qU.at_ a0)) :: σ) := H17
 refine qb (qa (.func (.func 238) #[] #[(pt b1)]) rfl) (qb (qh fo29_2 rfl) (qp H18 (i := 1) rfl lTRule_Other (qz .u32) ty27 rfl ?_))
 obtain ⟨G19, hG20, H21, hp22⟩ := H18.sealbox (i := 1) rfl
 refine qR (qT (G := G19) zr219 rfl bs219 rfl (Parts.cons fo219_0 zP ((qz .i64).toV _ _) (Parts.cons fo219_1 xo (vFV_rules_kinds_3 hp22) (Parts.cons fo219_2 xD ((qz .u32).toV _ _) (Parts.nil _))))) ?_
 intro v23 hv24
 refine zz (key := (.int .u8 5)) (val := v23) H21 (i := 0) rfl mt250 un5 rfl rfl rfl (by simp [Go.MapKept.IsKey]) rfl ?_
 intro w25 H26
 have H27 : St c G19 w25 ((.mp r5 [⟨.int .u8 1, v9, 0⟩, ⟨.int .u8 2, v14, 1⟩, ⟨.int .u8 5, v23, 2⟩] 3) :: σ) := H26
 refine qR (qT (G := G19) zr219 rfl bs219 rfl (Parts.cons fo219_0 zP ((qz .i64).toV _ _) (Parts.cons fo219_1 xo (vFV_rules_never (G := G19)) (Parts.cons fo219_2 xD ((qz .u32).toV _ _) (Parts.nil _))))) ?_
 intro v28 hv29
 refine zz (key := (.int .u8 7)) (val := v28) H27 (i := 0) rfl mt250 un5 rfl rfl rfl (by simp [Go.MapKept.IsKey]) rfl ?_
 intro w30 H31
 have H32 : St c G19 w30 ((.mp r5 [⟨.int .u8 1, v9, 0⟩, ⟨.int .u8 2, v14, 1⟩, ⟨.int .u8 5, v23, 2⟩, ⟨.int .u8 7, v28, 3⟩] 4) :: σ) := H31
 refine qR (qT (G := G19) zr219 rfl bs219 rfl (Parts.cons fo219_0 zP ((qz .i64).toV _ _) (Parts.cons fo219_1 xo (vFV_rules_never (G := G19)) (Parts.cons fo219_2 xD ((qz .u32).toV _ _) (Parts.nil _))))) ?_
 intro v33 hv34
 refine zz (key := (.int .u8 8)) (val := v33) H32 (i := 0) rfl mt250 un5 rfl rfl rfl (by simp [Go.MapKept.IsKey]) rfl ?_
 intro w35 H36
 have H37 : St c G19 w35 ((.mp r5 [⟨.int .u8 1, v9, 0⟩, ⟨.int .u8 2, v14, 1⟩, ⟨.int .u8 5, v23, 2⟩, ⟨.int .u8 7, v28, 3⟩, ⟨.int .u8 8, v33, 4⟩] 5) :: σ) := H36
 iterate 2 refine qb (qa (.map (some r5)) rfl) ?_
 refine qd (qe (wp_ret ?_))
 have b := yq b
 subst b
 exact qt rfl (RV.tmp rfl RV.nil) ⟨_, r5, v9, v14, v23, v28, v33, hG20, rfl, H37, (hv10.mono hG20), (hv15.mono hG20), hv24, hv29, hv34⟩

theorem rules_of_ok {c : World} (k : Hc c) {G : qk} {w : World} {σ : List Ent} {a0 : TRule} {v0_ : Value} {a1 : TOpt} {v1_ : Value} (h0_ : qU.V G v0_ a0) (h1_ : qx.V G v1_ a1) (H : St c G w (σ)) {r : (Trules_kind × Bool)} (b : rules_of a0 a1 = some r) :
  Calls Tryz.prog 171 ([v0_, v1_] : List Value).toArray w (zu fun v w' => ∃ (G' : qk) (v1' : Value), GLe G G' ∧ tup [v1', (.bool r.2)] = v ∧ St c G' w' (σ) ∧ qw.V G' v1' r.1) := by
 unfold rules_of at b
 refine qG Tryz.func171 rfl rfl rfl (wp_seq (qc ?_))
 refine zp (K := qU) (x := a0) H rfl h0_ ?_
 intro b1 w4 H2
 refine zp (K := qx) (x := a1) H2 rfl h1_ ?_
 intro b5 w8 H6
 refine qP H6 zr219 ?_
 intro b9 w12 H10
 refine qb (qa (.bool false) rfl) (qd (qe ?_))
 refine wp_seq (join (fun a w => ∃ (T0 G1 : _) (x68 : Trules_kind) (x71 : Bool) (b69 : Nat), a = mk 26 (qQ T0 [(3, (pt b5)), (4, (pt b9)), (6, (pt b69)), (7, (.bool x71))]) ∧ GLe G G1 ∧ St c G1 w ((.box b69 219 (qw.at_ x68)) :: (.box b9 219 (qw.at_ qL)) :: (.box b5 133 (qx.at_ a1)) :: σ) ∧ jB a1 x68 x71 = some r) ?_ ?_)
 ·rintro a w ⟨T0, G74, x68, x71, b69, rfl, hG72, H73, b⟩
  refine wp_seq ?_
  refine jP (f := 12) H73 mixed ?_
  intro w75 H76
  refine xW (by repeat (first | exact PF.base | apply PF.then_ | apply PF.blk)) ?_
  intro B E
  rcases qm x71 with hb79 | hb79
  ·replace b := ifT b hb79
   refine qF (fuel := 1) (m := 2047) (fun a w => ∃ T0 G1, a = mk 26 (qQ T0 [(4, (pt b9)), (25, (.bool (x68.Long == (a1.Data.length : Int))))]) ∧ GLe G74 G1 ∧ St c G1 w ((.box b9 219 (qw.at_ x68)) :: σ)) ?_ ?_
   ·rintro a w ⟨T0, G170, rfl, hG168, H169⟩
    refine qq (i := 11) (m' := 4095) rfl (qa (.bool (x68.Long == (a1.Data.length : Int))) rfl) B E ?_
    refine zA (qe (wp_ret ?_))
    obtain ⟨v171, hv172, hl173⟩ := H169.loadv (i := 0) rfl ty219
    have b := yq b
    subst b
    exact qt rfl (RV.cell rfl hl173 (RV.tmp rfl RV.nil)) ⟨_, v171, (hG72.trans hG168), rfl, (St.pk [] 1 H169 rfl (by decide)), hv172⟩
   intro hM167
   refine qF (fuel := 2) (m := 1023) (fun a w => ∃ T0 G1 v163, a = mk 26 (qQ T0 [(4, (pt b9)), (16, v163), (25, (.bool (x68.Long == (a1.Data.length : Int))))]) ∧ GLe G74 G1 ∧ St c G1 w ((.box b9 219 (qw.at_ qL)) :: σ) ∧ qw.V G1 v163 x68) ?_ ?_
   ·rintro a w ⟨T0, G162, v163, rfl, hG160, H161, hv164⟩
    refine qi [10] ⟨qg (m' := 2047) fun I j => ?_, yp⟩
    refine qy (z := x68) H161 (i := 0) rfl (Lens.id qw) ty219 rfl rfl hv164 ?_
    intro w175 H174
    refine qd (j _ _ ?_)
    exact hM167 _ _ ⟨_, _, qf _ ⟨rfl, rfl, yp⟩, hG160, H174⟩
   intro hM159
   refine qF (fuel := 3) (m := 1279) (fun a w => ∃ T0 G1, a = mk 26 (qQ T0 [(4, (pt b9)), (18, (.bool x71)), (20, (.int .i64 x68.Long)), (23, (.int .i64 (a1.Data.length : Int)))]) ∧ GLe G74 G1 ∧ St c G1 w ((.box b9 219 (qw.at_ x68)) :: σ)) ?_ ?_
   ·rintro a w ⟨T0, G158, rfl, hG156, H157⟩
    refine zE 18 true (i := 8) (m' := 1535) rfl (qa (.bool (x68.Long == (a1.Data.length : Int))) rfl) (vb hb79) B E ?_
    refine qq (i := 9) (m' := 2047) rfl (qB (.bool (x68.Long == (a1.Data.length : Int))) (vb hb79) rfl) B E ?_
    exact hM167 _ _ ⟨_, _, qf _ ⟨rfl, rfl, yp⟩, hG156, H157⟩
   intro hM155
   refine qF (fuel := 4) (m := 1263) (fun a w => ∃ T0 G1, a = mk 26 (qQ T0 [(4, (pt b9)), (18, (.bool x71)), (19, (pt b69)), (23, (.int .i64 (a1.Data.length : Int)))]) ∧ GLe G74 G1 ∧ St c G1 w ((.box b9 219 (qw.at_ x68)) :: (.box b69 219 (qw.at_ x68)) :: σ)) ?_ ?_
   ·rintro a w ⟨T0, G154, rfl, hG152, H153⟩
    refine qi [4] ⟨qg (m' := 1279) fun I j => ?_, yp⟩
    refine qj rfl rfl rfl (vb hb79) (qp H153 (i := 1) rfl zP (qz .i64) ty3 rfl (qd (j _ _ ?_)))
    exact hM155 _ _ ⟨_, _, qf _ ⟨rfl, rfl, rfl, rfl, yp⟩, hG152, (St.pk [0] 2 H153 rfl (by decide))⟩
   intro hM151
   refine qF (fuel := 4) (m := 255) (fun a w => ∃ T0 G1 v149, a = mk 26 (qQ T0 [(4, (pt b9)), (16, v149), (18, (.bool x71)), (20, (.int .i64 x68.Long)), (23, (.int .i64 (a1.Data.length : Int)))]) ∧ GLe G74 G1 ∧ St c G1 w ((.box b9 219 (qw.at_ qL)) :: σ) ∧ qw.V G1 v149 x68) ?_ ?_
   ·rintro a w ⟨T0, G148, v149, rfl, hG146, H147, hv150⟩
    refine zE 18 true (i := 8) (m' := 511) rfl (qa (.bool (x68.Long == (a1.Data.length : Int))) rfl) (vb hb79) B E ?_
    refine qq (i := 9) (m' := 1023) rfl (qB (.bool (x68.Long == (a1.Data.length : Int))) (vb hb79) rfl) B E ?_
    exact hM159 _ _ ⟨_, _, v149, qf _ ⟨rfl, rfl, rfl, yp⟩, hG146, H147, hv150⟩
   intro hM145
   refine qF (fuel := 5) (m := 254) (fun a w => ∃ T0 G1, a = mk 26 (qQ T0 [(4, (pt b9)), (6, (pt b69)), (18, (.bool x71)), (20, (.int .i64 x68.Long)), (23, (.int .i64 (a1.Data.length : Int)))]) ∧ GLe G74 G1 ∧ St c G1 w ((.box b9 219 (qw.at_ qL)) :: (.box b69 219 (qw.at_ x68)) :: σ)) ?_ ?_
   ·rintro a w ⟨T0, G144, rfl, hG142, H143⟩
    refine zE 18 true (i := 8) (m' := 510) rfl (qa (.bool (x68.Long == (a1.Data.length : Int))) rfl) (vb hb79) B E ?_
    refine qq (i := 9) (m' := 1022) rfl (qB (.bool (x68.Long == (a1.Data.length : Int))) (vb hb79) rfl) B E ?_
    refine qi [0] ⟨qg (m' := 1023) fun I j => ?_, yp⟩
    refine ql H143 (i := 1) rfl (Lens.id qw) ty219 rfl ?_
    intro v176 hv177
    refine qd (j _ _ ?_)
    exact hM159 _ _ ⟨_, _, v176, qf _ ⟨rfl, rfl, rfl, yp⟩, hG142, (St.pk [0] 2 H143 rfl (by decide)), hv177⟩
   intro hM141
   refine qF (fuel := 5) (m := 239) (fun a w => ∃ T0 G1 v137, a = mk 26 (qQ T0 [(4, (pt b9)), (16, v137), (18, (.bool x71)), (19, (pt b69)), (23, (.int .i64 (a1.Data.length : Int)))]) ∧ GLe G74 G1 ∧ St c G1 w ((.box b9 219 (qw.at_ qL)) :: (.box b69 219 (qw.at_ x68)) :: σ) ∧ qw.V G1 v137 x68) ?_ ?_
   ·rintro a w ⟨T0, G136, v137, rfl, hG134, H135, hv138⟩
    refine qi [4, 10] ⟨?_, ?_, yp⟩
    ·refine qg (m' := 255) fun I j => ?_
     refine qj rfl rfl rfl (vb hb79) (qp H135 (i := 1) rfl zP (qz .i64) ty3 rfl (qd (j _ _ ?_)))
     exact hM145 _ _ ⟨_, _, v137, qf _ ⟨rfl, rfl, rfl, rfl, rfl, yp⟩, hG134, (St.pk [0] 2 H135 rfl (by decide)), hv138⟩
    refine qg (m' := 1263) fun I j => ?_
    refine qy (z := x68) H135 (i := 0) rfl (Lens.id qw) ty219 rfl rfl hv138 ?_
    intro w179 H178
    refine qd (j _ _ ?_)
    exact hM151 _ _ ⟨_, _, qf _ ⟨rfl, rfl, rfl, rfl, yp⟩, hG134, H178⟩
   intro hM133
   refine qF (fuel := 5) (m := 1087) (fun a w => ∃ T0 G1, a = mk 26 (qQ T0 [(4, (pt b9)), (18, (.bool x71)), (20, (.int .i64 x68.Long)), (21, (pu b5 1))]) ∧ GLe G74 G1 ∧ St c G1 w ((.box b9 219 (qw.at_ x68)) :: (.box b5 133 (qx.at_ a1)) :: σ)) ?_ ?_
   ·rintro a w ⟨T0, G127, rfl, hG125, H126⟩
    refine qi [6] ⟨qg (m' := 1151) fun I j => ?_, yp⟩
    refine qj rfl rfl rfl (vb hb79) ?_
    refine ql H126 (i := 1) rfl qZ jy rfl ?_
    intro v180 hv181
    obtain ⟨A182, c183, rfl, hs184⟩ := qN hv181
    refine qd (j _ _ ?_)
    refine zE 18 true (i := 7) (m' := 1279) rfl (zb zJ rfl) (vb hb79) B E ?_
    exact hM155 _ _ ⟨_, _, qf _ ⟨rfl, rfl, rfl, rfl, yp⟩, hG125, (St.pk [0] 2 H126 rfl (by decide))⟩
   intro hM124
   refine qF (fuel := 6) (m := 63) (fun a w => ∃ T0 G1 v110, a = mk 26 (qQ T0 [(4, (pt b9)), (16, v110), (18, (.bool x71)), (20, (.int .i64 x68.Long)), (21, (pu b5 1))]) ∧ GLe G74 G1 ∧ St c G1 w ((.box b9 219 (qw.at_ qL)) :: (.box b5 133 (qx.at_ a1)) :: σ) ∧ qw.V G1 v110 x68) ?_ ?_
   ·rintro a w ⟨T0, G109, v110, rfl, hG107, H108, hv111⟩
    refine qi [6, 10] ⟨?_, ?_, yp⟩
    ·refine qg (m' := 127) fun I j => ?_
     refine qj rfl rfl rfl (vb hb79) ?_
     refine ql H108 (i := 1) rfl qZ jy rfl ?_
     intro v185 hv186
     obtain ⟨A187, c188, rfl, hs189⟩ := qN hv186
     refine qd (j _ _ ?_)
     refine zE 18 true (i := 7) (m' := 255) rfl (zb zJ rfl) (vb hb79) B E ?_
     exact hM145 _ _ ⟨_, _, v110, qf _ ⟨rfl, rfl, rfl, rfl, rfl, yp⟩, hG107, (St.pk [0] 2 H108 rfl (by decide)), hv111⟩
    refine qg (m' := 1087) fun I j => ?_
    refine qy (z := x68) H108 (i := 0) rfl (Lens.id qw) ty219 rfl rfl hv111 ?_
    intro w191 H190
    refine qd (j _ _ ?_)
    exact hM124 _ _ ⟨_, _, qf _ ⟨rfl, rfl, rfl, rfl, yp⟩, hG107, H190⟩
   intro hM106
   refine qq (i := 1) (m' := 2) rfl (qa (.bool x71) rfl) B E ?_
   refine qq (i := 2) (m' := 6) rfl (qa (.bool x71) rfl) B E ?_
   refine zE 18 true (i := 3) (m' := 14) rfl (qh fo219_0 rfl) (vb hb79) B E ?_
   refine zE 18 true (i := 5) (m' := 46) rfl (qh jp rfl) (vb hb79) B E ?_
   refine qi [0, 4, 6] ⟨?_, ?_, ?_, yp⟩
   ·refine qg (m' := 47) fun I j => ?_
    refine ql H76 (i := 0) rfl (Lens.id qw) ty219 rfl ?_
    intro v192 hv193
    refine qd (j _ _ ?_)
    refine qi [4, 6, 10] ⟨?_, ?_, ?_, yp⟩
    ·refine qg (m' := 63) fun I j => ?_
     refine qj rfl rfl rfl (vb hb79) (qp H76 (i := 0) rfl zP (qz .i64) ty3 rfl (qd (j _ _ ?_)))
     exact hM106 _ _ ⟨_, _, v192, qf _ ⟨rfl, rfl, rfl, rfl, rfl, yp⟩, GLe.refl _, (St.pk [1, 2] 3 H76 rfl (by decide)), hv193⟩
    ·refine qg (m' := 111) fun I j => ?_
     refine qj rfl rfl rfl (vb hb79) ?_
     refine ql H76 (i := 2) rfl qZ jy rfl ?_
     intro v194 hv195
     obtain ⟨A196, c197, rfl, hs198⟩ := qN hv195
     refine qd (j _ _ ?_)
     refine zE 18 true (i := 7) (m' := 239) rfl (zb zJ rfl) (vb hb79) B E ?_
     exact hM133 _ _ ⟨_, _, v192, qf _ ⟨rfl, rfl, rfl, rfl, rfl, yp⟩, GLe.refl _, (St.pk [1, 0] 3 H76 rfl (by decide)), hv193⟩
    refine qg (m' := 1071) fun I j => ?_
    refine qy (z := x68) H76 (i := 1) rfl (Lens.id qw) ty219 rfl rfl hv193 ?_
    intro w200 H199
    refine qd (j _ _ ?_)
    refine qi [4, 6] ⟨?_, ?_, yp⟩
    ·refine qg (m' := 1087) fun I j => ?_
     refine qj rfl rfl rfl (vb hb79) (qp H199 (i := 0) rfl zP (qz .i64) ty3 rfl (qd (j _ _ ?_)))
     exact hM124 _ _ ⟨_, _, qf _ ⟨rfl, rfl, rfl, rfl, yp⟩, GLe.refl _, (St.pk [1, 2] 3 H199 rfl (by decide))⟩
    refine qg (m' := 1135) fun I j => ?_
    refine qj rfl rfl rfl (vb hb79) ?_
    refine ql H199 (i := 2) rfl qZ jy rfl ?_
    intro v201 hv202
    obtain ⟨A203, c204, rfl, hs205⟩ := qN hv202
    refine qd (j _ _ ?_)
    refine zE 18 true (i := 7) (m' := 1263) rfl (zb zJ rfl) (vb hb79) B E ?_
    exact hM151 _ _ ⟨_, _, qf _ ⟨rfl, rfl, rfl, rfl, yp⟩, GLe.refl _, (St.pk [1, 0] 3 H199 rfl (by decide))⟩
   ·refine qg (m' := 62) fun I j => ?_
    refine qj rfl rfl rfl (vb hb79) (qp H76 (i := 0) rfl zP (qz .i64) ty3 rfl (qd (j _ _ ?_)))
    refine qi [0, 6] ⟨?_, ?_, yp⟩
    ·refine qg (m' := 63) fun I j => ?_
     refine ql H76 (i := 0) rfl (Lens.id qw) ty219 rfl ?_
     intro v206 hv207
     refine qd (j _ _ ?_)
     exact hM106 _ _ ⟨_, _, v206, qf _ ⟨rfl, rfl, rfl, rfl, rfl, yp⟩, GLe.refl _, (St.pk [1, 2] 3 H76 rfl (by decide)), hv207⟩
    refine qg (m' := 126) fun I j => ?_
    refine qj rfl rfl rfl (vb hb79) ?_
    refine ql H76 (i := 2) rfl qZ jy rfl ?_
    intro v208 hv209
    obtain ⟨A210, c211, rfl, hs212⟩ := qN hv209
    refine qd (j _ _ ?_)
    refine zE 18 true (i := 7) (m' := 254) rfl (zb zJ rfl) (vb hb79) B E ?_
    exact hM141 _ _ ⟨_, _, qf _ ⟨rfl, rfl, rfl, rfl, rfl, yp⟩, GLe.refl _, (St.pk [1, 0] 3 H76 rfl (by decide))⟩
   refine qg (m' := 110) fun I j => ?_
   refine qj rfl rfl rfl (vb hb79) ?_
   refine ql H76 (i := 2) rfl qZ jy rfl ?_
   intro v213 hv214
   obtain ⟨A215, c216, rfl, hs217⟩ := qN hv214
   refine qd (j _ _ ?_)
   refine zE 18 true (i := 7) (m' := 238) rfl (zb zJ rfl) (vb hb79) B E ?_
   refine qi [0, 4] ⟨?_, ?_, yp⟩
   ·refine qg (m' := 239) fun I j => ?_
    refine ql H76 (i := 0) rfl (Lens.id qw) ty219 rfl ?_
    intro v218 hv219
    refine qd (j _ _ ?_)
    exact hM133 _ _ ⟨_, _, v218, qf _ ⟨rfl, rfl, rfl, rfl, rfl, yp⟩, GLe.refl _, (St.pk [1, 0] 3 H76 rfl (by decide)), hv219⟩
   refine qg (m' := 254) fun I j => ?_
   refine qj rfl rfl rfl (vb hb79) (qp H76 (i := 0) rfl zP (qz .i64) ty3 rfl (qd (j _ _ ?_)))
   exact hM141 _ _ ⟨_, _, qf _ ⟨rfl, rfl, rfl, rfl, rfl, yp⟩, GLe.refl _, (St.pk [1, 0] 3 H76 rfl (by decide))⟩
  replace b := ifF b hb79
  refine qq (i := 1) (m' := 2) rfl (qa (.bool x71) rfl) B E ?_
  refine qq (i := 2) (m' := 6) rfl (qa (.bool x71) rfl) B E ?_
  refine qS (i := 3) (m' := 14) 18 true rfl (vb hb79) B E ?_
  refine qS (i := 4) (m' := 30) 18 true rfl (vb hb79) B E ?_
  refine qS (i := 5) (m' := 62) 18 true rfl (vb hb79) B E ?_
  refine qS (i := 6) (m' := 126) 18 true rfl (vb hb79) B E ?_
  refine qS (i := 7) (m' := 254) 18 true rfl (vb hb79) B E ?_
  refine qS (i := 8) (m' := 510) 18 true rfl (vb hb79) B E ?_
  refine qq (i := 9) (m' := 1022) rfl (qr (.bool false) (vb hb79) rfl) B E ?_
  refine qi [0] ⟨qg (m' := 1023) fun I j => ?_, yp⟩
  refine ql H76 (i := 0) rfl (Lens.id qw) ty219 rfl ?_
  intro v226 hv227
  refine qd (j _ _ ?_)
  refine qi [10] ⟨qg (m' := 2047) fun I j => ?_, yp⟩
  refine qy (z := x68) H76 (i := 1) rfl (Lens.id qw) ty219 rfl rfl hv227 ?_
  intro w229 H228
  refine qd (j _ _ ?_)
  refine qq (i := 11) (m' := 4095) rfl (qa (.bool false) rfl) B E ?_
  refine zA (qe (wp_ret ?_))
  obtain ⟨v230, hv231, hl232⟩ := H228.loadv (i := 1) rfl ty219
  have b := yq b
  subst b
  exact qt rfl (RV.cell rfl hl232 (RV.tmp rfl RV.nil)) ⟨_, v230, hG72, rfl, (St.pk [] 3 H228 rfl (by decide)), hv231⟩
 refine jP (f := 11) H10 mixed ?_
 intro w233 H234
 refine xW (by repeat (first | exact PF.base | apply PF.then_ | apply PF.blk)) ?_
 intro B E
 rcases qm a0.Ip with hb237 | hb237
 ·replace b := ifT b hb237
  obtain ⟨r238, hr239, b⟩ := qu b
  rcases qm (a1.Typ == 3) with hb249 | hb249
  ·replace b := ifT b hb249
   refine qF (fuel := 2) (m := 511) (fun a w => ∃ (T0 G1 : _) (b347 : Nat) (v348 : _), a = mk 26 (qQ T0 [(3, (pt b5)), (4, (pt b9)), (6, (pt b347)), (14, v348), (15, (.bool true))]) ∧ GLe G G1 ∧ St c G1 w ((.box b5 133 (qx.at_ a1)) :: (.box b9 219 (qw.at_ qL)) :: (.box b347 219 (qw.at_ qL)) :: σ) ∧ qw.V G1 v348 (Trules_kind.mk 4 (FV.rules_kinds_1 a0) a0.Addr)) ?_ ?_
   ·rintro a w ⟨T0, G346, b347, v348, rfl, hG344, H345, hv349⟩
    refine qi [9] ⟨qg (m' := 1023) fun I j => ?_, yp⟩
    refine qy (z := (Trules_kind.mk 4 (FV.rules_kinds_1 a0) a0.Addr)) H345 (i := 2) rfl (Lens.id qw) ty219 rfl rfl hv349 ?_
    intro w353 H352
    refine qd (j _ _ ?_)
    refine qq (i := 10) (m' := 2047) rfl (qa (.bool true) rfl) B E ?_
    refine zA (qe ?_)
    exact ⟨_, _, (Trules_kind.mk 4 (FV.rules_kinds_1 a0) a0.Addr), true, b347, qf _ ⟨rfl, rfl, rfl, rfl, yp⟩, hG344, (St.pk [2, 1, 0] 3 H352 rfl (by decide)), b⟩
   intro hM343
   refine qF (fuel := 6) (m := 271) (fun a w => ∃ (T0 G1 : _) (b335 : Nat) (r336 : Nat) (v337 : _), a = mk 26 (qQ T0 [(3, (pt b5)), (4, (pt b9)), (6, (pt b335)), (10, (.map (some r336))), (12, (.int .u8 a1.Typ))]) ∧ GLe G G1 ∧ St c G1 w ((.box b5 133 (qx.at_ a1)) :: (.box b9 219 (qw.at_ qL)) :: (.box b335 219 (qw.at_ qL)) :: (.mp r336 [⟨.int .u8 3, v337, 0⟩] 1) :: σ) ∧ qw.V G1 v337 (Trules_kind.mk 4 (FV.rules_kinds_1 a0) a0.Addr)) ?_ ?_
   ·rintro a w ⟨T0, G334, b335, r336, v337, rfl, hG332, H333, hv338⟩
    refine qi [4] ⟨qg (m' := 287) fun I j => ?_, yp⟩
    refine jA (key := (.int .u8 a1.Typ)) (val := v337) (ok := true) H333 (i := 3) rfl mt250 un5 rfl rfl (by simp [Go.MapKept.IsKey]) ⟨_, (fnd_yes hb249), .inl ⟨_, rfl, rfl⟩⟩ ?_
    refine qd (j _ _ ?_)
    refine qq (i := 5) (m' := 319) rfl (qa (.tuple #[v337, (.bool true)]) rfl) B E ?_
    refine qq (i := 6) (m' := 383) rfl (qa v337 rfl) B E ?_
    refine qq (i := 7) (m' := 511) rfl (qa (.bool true) rfl) B E ?_
    exact hM343 _ _ ⟨_, _, b335, v337, qf _ ⟨rfl, rfl, rfl, rfl, rfl, yp⟩, hG332, (St.pk [0, 1, 2] 4 H333 rfl (by decide)), hv338⟩
   intro hM331
   refine qF (fuel := 7) (m := 269) (fun a w => ∃ (T0 G1 : _) (b328 : Nat) (v329 : _), a = mk 26 (qQ T0 [(3, (pt b5)), (4, (pt b9)), (6, (pt b328)), (9, v329), (12, (.int .u8 a1.Typ))]) ∧ GLe G G1 ∧ St c G1 w ((.box b5 133 (qx.at_ a1)) :: (.box b9 219 (qw.at_ qL)) :: (.box b328 219 (qw.at_ qL)) :: σ) ∧ qU.V G1 v329 a0) ?_ ?_
   ·rintro a w ⟨T0, G327, b328, v329, rfl, hG325, H326, hv330⟩
    refine qi [1] ⟨qg (m' := 271) fun I j => ?_, yp⟩
    refine qo (vs := [v329]) en206 rfl (xK k hv330 hb237 H326 hr239) ?_
    rintro v358 w357 ⟨G354, r359, v361, hG355, rfl, H356, hv362⟩
    refine qd (j _ _ ?_)
    exact hM331 _ _ ⟨_, _, b328, r359, v361, qf _ ⟨rfl, rfl, rfl, rfl, rfl, yp⟩, (hG325.trans hG355), (St.pk [1, 2, 3, 0] 4 H356 rfl (by decide)), hv362⟩
   intro hM324
   refine qF (fuel := 7) (m := 263) (fun a w => ∃ (T0 G1 : _) (b320 : Nat) (r321 : Nat) (v322 : _), a = mk 26 (qQ T0 [(3, (pt b5)), (4, (pt b9)), (6, (pt b320)), (10, (.map (some r321))), (11, (pt b5))]) ∧ GLe G G1 ∧ St c G1 w ((.box b5 133 (qx.at_ a1)) :: (.box b9 219 (qw.at_ qL)) :: (.box b320 219 (qw.at_ qL)) :: (.mp r321 [⟨.int .u8 3, v322, 0⟩] 1) :: σ) ∧ qw.V G1 v322 (Trules_kind.mk 4 (FV.rules_kinds_1 a0) a0.Addr)) ?_ ?_
   ·rintro a w ⟨T0, G319, b320, r321, v322, rfl, hG317, H318, hv323⟩
    refine qi [3] ⟨qg (m' := 271) fun I j => ?_, yp⟩
    refine qp H318 (i := 0) rfl qX (qz .u8) ty5 rfl (qd (j _ _ ?_))
    exact hM331 _ _ ⟨_, _, b320, r321, v322, qf _ ⟨rfl, rfl, rfl, rfl, rfl, yp⟩, hG317, H318, hv323⟩
   intro hM316
   refine qF (fuel := 7) (m := 15) (fun a w => ∃ (T0 G1 : _) (r309 : Nat) (v310 : _), a = mk 26 (qQ T0 [(3, (pt b5)), (4, (pt b9)), (10, (.map (some r309))), (12, (.int .u8 a1.Typ))]) ∧ GLe G G1 ∧ St c G1 w ((.box b5 133 (qx.at_ a1)) :: (.box b9 219 (qw.at_ qL)) :: (.mp r309 [⟨.int .u8 3, v310, 0⟩] 1) :: σ) ∧ qw.V G1 v310 (Trules_kind.mk 4 (FV.rules_kinds_1 a0) a0.Addr)) ?_ ?_
   ·rintro a w ⟨T0, G308, r309, v310, rfl, hG306, H307, hv311⟩
    refine qi [4, 8] ⟨?_, ?_, yp⟩
    ·refine qg (m' := 31) fun I j => ?_
     refine jA (key := (.int .u8 a1.Typ)) (val := v310) (ok := true) H307 (i := 2) rfl mt250 un5 rfl rfl (by simp [Go.MapKept.IsKey]) ⟨_, (fnd_yes hb249), .inl ⟨_, rfl, rfl⟩⟩ ?_
     refine qd (j _ _ ?_)
     refine qq (i := 5) (m' := 63) rfl (qa (.tuple #[v310, (.bool true)]) rfl) B E ?_
     refine qq (i := 6) (m' := 127) rfl (qa v310 rfl) B E ?_
     refine qq (i := 7) (m' := 255) rfl (qa (.bool true) rfl) B E ?_
     refine qi [8] ⟨qg (m' := 511) fun I j => ?_, yp⟩
     refine qP H307 zr219 ?_
     intro b363 w366 H364
     refine qd (j _ _ ?_)
     exact hM343 _ _ ⟨_, _, b363, v310, qf _ ⟨rfl, rfl, rfl, rfl, rfl, yp⟩, hG306, (St.pk [1, 2, 0] 4 H364 rfl (by decide)), hv311⟩
    refine qg (m' := 271) fun I j => ?_
    refine qP H307 zr219 ?_
    intro b367 w370 H368
    refine qd (j _ _ ?_)
    exact hM331 _ _ ⟨_, _, b367, r309, v310, qf _ ⟨rfl, rfl, rfl, rfl, rfl, yp⟩, hG306, (St.pk [1, 2, 0, 3] 4 H368 rfl (by decide)), hv311⟩
   intro hM305
   refine qF (fuel := 8) (m := 268) (fun a w => ∃ (T0 G1 : _) (b304 : Nat), a = mk 26 (qQ T0 [(2, (pt b1)), (3, (pt b5)), (4, (pt b9)), (6, (pt b304)), (12, (.int .u8 a1.Typ))]) ∧ GLe G G1 ∧ St c G1 w ((.box b1 29 (qU.at_ a0)) :: (.box b5 133 (qx.at_ a1)) :: (.box b9 219 (qw.at_ qL)) :: (.box b304 219 (qw.at_ qL)) :: σ)) ?_ ?_
   ·rintro a w ⟨T0, G303, b304, rfl, hG301, H302⟩
    refine qi [0] ⟨qg (m' := 269) fun I j => ?_, yp⟩
    refine ql H302 (i := 0) rfl (Lens.id qU) ty29 rfl ?_
    intro v371 hv372
    refine qd (j _ _ ?_)
    exact hM324 _ _ ⟨_, _, b304, v371, qf _ ⟨rfl, rfl, rfl, rfl, rfl, yp⟩, hG301, (St.pk [1, 2, 3] 4 H302 rfl (by decide)), hv372⟩
   intro hM300
   refine qF (fuel := 8) (m := 261) (fun a w => ∃ (T0 G1 : _) (b297 : Nat) (v298 : _), a = mk 26 (qQ T0 [(3, (pt b5)), (4, (pt b9)), (6, (pt b297)), (9, v298), (11, (pt b5))]) ∧ GLe G G1 ∧ St c G1 w ((.box b5 133 (qx.at_ a1)) :: (.box b9 219 (qw.at_ qL)) :: (.box b297 219 (qw.at_ qL)) :: σ) ∧ qU.V G1 v298 a0) ?_ ?_
   ·rintro a w ⟨T0, G296, b297, v298, rfl, hG294, H295, hv299⟩
    refine qi [1, 3] ⟨?_, ?_, yp⟩
    ·refine qg (m' := 263) fun I j => ?_
     refine qo (vs := [v298]) en206 rfl (xK k hv299 hb237 H295 hr239) ?_
     rintro v377 w376 ⟨G373, r378, v380, hG374, rfl, H375, hv381⟩
     refine qd (j _ _ ?_)
     exact hM316 _ _ ⟨_, _, b297, r378, v380, qf _ ⟨rfl, rfl, rfl, rfl, rfl, yp⟩, (hG294.trans hG374), (St.pk [1, 2, 3, 0] 4 H375 rfl (by decide)), hv381⟩
    refine qg (m' := 269) fun I j => ?_
    refine qp H295 (i := 0) rfl qX (qz .u8) ty5 rfl (qd (j _ _ ?_))
    exact hM324 _ _ ⟨_, _, b297, v298, qf _ ⟨rfl, rfl, rfl, rfl, rfl, yp⟩, hG294, H295, hv299⟩
   intro hM293
   refine qF (fuel := 8) (m := 13) (fun a w => ∃ T0 G1 v287, a = mk 26 (qQ T0 [(3, (pt b5)), (4, (pt b9)), (9, v287), (12, (.int .u8 a1.Typ))]) ∧ GLe G G1 ∧ St c G1 w ((.box b5 133 (qx.at_ a1)) :: (.box b9 219 (qw.at_ qL)) :: σ) ∧ qU.V G1 v287 a0) ?_ ?_
   ·rintro a w ⟨T0, G286, v287, rfl, hG284, H285, hv288⟩
    refine qi [1, 8] ⟨?_, ?_, yp⟩
    ·refine qg (m' := 15) fun I j => ?_
     refine qo (vs := [v287]) en206 rfl (xK k hv288 hb237 H285 hr239) ?_
     rintro v386 w385 ⟨G382, r387, v389, hG383, rfl, H384, hv390⟩
     refine qd (j _ _ ?_)
     exact hM305 _ _ ⟨_, _, r387, v389, qf _ ⟨rfl, rfl, rfl, rfl, yp⟩, (hG284.trans hG383), (St.pk [1, 2, 0] 3 H384 rfl (by decide)), hv390⟩
    refine qg (m' := 269) fun I j => ?_
    refine qP H285 zr219 ?_
    intro b391 w394 H392
    refine qd (j _ _ ?_)
    exact hM324 _ _ ⟨_, _, b391, v287, qf _ ⟨rfl, rfl, rfl, rfl, rfl, yp⟩, hG284, (St.pk [1, 2, 0] 3 H392 rfl (by decide)), hv288⟩
   intro hM283
   refine qq (i := 2) (m' := 4) rfl (qh jc rfl) B E ?_
   refine qi [0, 3, 8] ⟨?_, ?_, ?_, yp⟩
   ·refine qg (m' := 5) fun I j => ?_
    refine ql H234 (i := 2) rfl (Lens.id qU) ty29 rfl ?_
    intro v395 hv396
    refine qd (j _ _ ?_)
    refine qi [1, 3, 8] ⟨?_, ?_, ?_, yp⟩
    ·refine qg (m' := 7) fun I j => ?_
     refine qo (vs := [v395]) en206 rfl (xK k hv396 hb237 H234 hr239) ?_
     rintro v401 w400 ⟨G397, r402, v404, hG398, rfl, H399, hv405⟩
     refine qd (j _ _ ?_)
     refine qi [3, 8] ⟨?_, ?_, yp⟩
     ·refine qg (m' := 15) fun I j => ?_
      refine qp H399 (i := 2) rfl qX (qz .u8) ty5 rfl (qd (j _ _ ?_))
      exact hM305 _ _ ⟨_, _, r402, v404, qf _ ⟨rfl, rfl, rfl, rfl, yp⟩, hG398, (St.pk [2, 1, 0] 4 H399 rfl (by decide)), hv405⟩
     refine qg (m' := 263) fun I j => ?_
     refine qP H399 zr219 ?_
     intro b406 w409 H407
     refine qd (j _ _ ?_)
     exact hM316 _ _ ⟨_, _, b406, r402, v404, qf _ ⟨rfl, rfl, rfl, rfl, rfl, yp⟩, hG398, (St.pk [3, 2, 0, 1] 5 H407 rfl (by decide)), hv405⟩
    ·refine qg (m' := 13) fun I j => ?_
     refine qp H234 (i := 1) rfl qX (qz .u8) ty5 rfl (qd (j _ _ ?_))
     exact hM283 _ _ ⟨_, _, v395, qf _ ⟨rfl, rfl, rfl, rfl, yp⟩, GLe.refl _, (St.pk [1, 0] 3 H234 rfl (by decide)), hv396⟩
    refine qg (m' := 261) fun I j => ?_
    refine qP H234 zr219 ?_
    intro b410 w413 H411
    refine qd (j _ _ ?_)
    exact hM293 _ _ ⟨_, _, b410, v395, qf _ ⟨rfl, rfl, rfl, rfl, rfl, yp⟩, GLe.refl _, (St.pk [2, 1, 0] 4 H411 rfl (by decide)), hv396⟩
   ·refine qg (m' := 12) fun I j => ?_
    refine qp H234 (i := 1) rfl qX (qz .u8) ty5 rfl (qd (j _ _ ?_))
    refine qi [0, 8] ⟨?_, ?_, yp⟩
    ·refine qg (m' := 13) fun I j => ?_
     refine ql H234 (i := 2) rfl (Lens.id qU) ty29 rfl ?_
     intro v414 hv415
     refine qd (j _ _ ?_)
     exact hM283 _ _ ⟨_, _, v414, qf _ ⟨rfl, rfl, rfl, rfl, yp⟩, GLe.refl _, (St.pk [1, 0] 3 H234 rfl (by decide)), hv415⟩
    refine qg (m' := 268) fun I j => ?_
    refine qP H234 zr219 ?_
    intro b416 w419 H417
    refine qd (j _ _ ?_)
    exact hM300 _ _ ⟨_, _, b416, qf _ ⟨rfl, rfl, rfl, rfl, rfl, yp⟩, GLe.refl _, (St.pk [3, 2, 1, 0] 4 H417 rfl (by decide))⟩
   refine qg (m' := 260) fun I j => ?_
   refine qP H234 zr219 ?_
   intro b420 w423 H421
   refine qd (j _ _ ?_)
   refine qi [0, 3] ⟨?_, ?_, yp⟩
   ·refine qg (m' := 261) fun I j => ?_
    refine ql H421 (i := 3) rfl (Lens.id qU) ty29 rfl ?_
    intro v424 hv425
    refine qd (j _ _ ?_)
    exact hM293 _ _ ⟨_, _, b420, v424, qf _ ⟨rfl, rfl, rfl, rfl, rfl, yp⟩, GLe.refl _, (St.pk [2, 1, 0] 4 H421 rfl (by decide)), hv425⟩
   refine qg (m' := 268) fun I j => ?_
   refine qp H421 (i := 2) rfl qX (qz .u8) ty5 rfl (qd (j _ _ ?_))
   exact hM300 _ _ ⟨_, _, b420, qf _ ⟨rfl, rfl, rfl, rfl, rfl, yp⟩, GLe.refl _, (St.pk [3, 2, 1, 0] 4 H421 rfl (by decide))⟩
  replace b := ifF b hb249
  refine qF (fuel := 2) (m := 511) (fun a w => ∃ (T0 G1 : _) (b526 : Nat) (v527 : _), a = mk 26 (qQ T0 [(3, (pt b5)), (4, (pt b9)), (6, (pt b526)), (14, v527), (15, (.bool false))]) ∧ GLe G G1 ∧ St c G1 w ((.box b5 133 (qx.at_ a1)) :: (.box b9 219 (qw.at_ qL)) :: (.box b526 219 (qw.at_ qL)) :: σ) ∧ qw.V G1 v527 qL) ?_ ?_
  ·rintro a w ⟨T0, G525, b526, v527, rfl, hG523, H524, hv528⟩
   refine qi [9] ⟨qg (m' := 1023) fun I j => ?_, yp⟩
   refine qy (z := qL) H524 (i := 2) rfl (Lens.id qw) ty219 rfl rfl hv528 ?_
   intro w532 H531
   refine qd (j _ _ ?_)
   refine qq (i := 10) (m' := 2047) rfl (qa (.bool false) rfl) B E ?_
   refine zA (qe ?_)
   exact ⟨_, _, qL, false, b526, qf _ ⟨rfl, rfl, rfl, rfl, yp⟩, hG523, (St.pk [2, 1, 0] 3 H531 rfl (by decide)), b⟩
  intro hM522
  refine qF (fuel := 6) (m := 271) (fun a w => ∃ (T0 G1 : _) (b513 : Nat) (r514 : Nat) (v515 : _), a = mk 26 (qQ T0 [(3, (pt b5)), (4, (pt b9)), (6, (pt b513)), (10, (.map (some r514))), (12, (.int .u8 a1.Typ))]) ∧ GLe G G1 ∧ St c G1 w ((.box b5 133 (qx.at_ a1)) :: (.box b9 219 (qw.at_ qL)) :: (.box b513 219 (qw.at_ qL)) :: (.mp r514 [⟨.int .u8 3, v515, 0⟩] 1) :: σ) ∧ qw.V G1 v515 (Trules_kind.mk 4 (FV.rules_kinds_1 a0) a0.Addr)) ?_ ?_
  ·rintro a w ⟨T0, G512, b513, r514, v515, rfl, hG510, H511, hv516⟩
   refine qi [4] ⟨qg (m' := 287) fun I j => ?_, yp⟩
   have hv533 : qw.V G512 (.agg #[(.int .i64 0), (.nilFunc), (.int .u32 0)]) qL := ⟨[(.int .i64 0), (.nilFunc), (.int .u32 0)], rfl, (zcTrules_kind _)⟩
   refine jA (key := (.int .u8 a1.Typ)) (val := (.agg #[(.int .i64 0), (.nilFunc), (.int .u32 0)])) (ok := false) H511 (i := 3) rfl mt250 un5 rfl rfl (by simp [Go.MapKept.IsKey]) ⟨_, (zx hb249 rfl), .inr ⟨rfl, rfl, mz219⟩⟩ ?_
   refine qd (j _ _ ?_)
   refine qq (i := 5) (m' := 319) rfl (qa (.tuple #[(.agg #[(.int .i64 0), (.nilFunc), (.int .u32 0)]), (.bool false)]) rfl) B E ?_
   refine qq (i := 6) (m' := 383) rfl (qa (.agg #[(.int .i64 0), (.nilFunc), (.int .u32 0)]) rfl) B E ?_
   refine qq (i := 7) (m' := 511) rfl (qa (.bool false) rfl) B E ?_
   exact hM522 _ _ ⟨_, _, b513, (.agg #[(.int .i64 0), (.nilFunc), (.int .u32 0)]), qf _ ⟨rfl, rfl, rfl, rfl, rfl, yp⟩, hG510, (St.pk [0, 1, 2] 4 H511 rfl (by decide)), hv533⟩
  intro hM509
  refine qF (fuel := 7) (m := 269) (fun a w => ∃ (T0 G1 : _) (b506 : Nat) (v507 : _), a = mk 26 (qQ T0 [(3, (pt b5)), (4, (pt b9)), (6, (pt b506)), (9, v507), (12, (.int .u8 a1.Typ))]) ∧ GLe G G1 ∧ St c G1 w ((.box b5 133 (qx.at_ a1)) :: (.box b9 219 (qw.at_ qL)) :: (.box b506 219 (qw.at_ qL)) :: σ) ∧ qU.V G1 v507 a0) ?_ ?_
  ·rintro a w ⟨T0, G505, b506, v507, rfl, hG503, H504, hv508⟩
   refine qi [1] ⟨qg (m' := 271) fun I j => ?_, yp⟩
   refine qo (vs := [v507]) en206 rfl (xK k hv508 hb237 H504 hr239) ?_
   rintro v538 w537 ⟨G534, r539, v541, hG535, rfl, H536, hv542⟩
   refine qd (j _ _ ?_)
   exact hM509 _ _ ⟨_, _, b506, r539, v541, qf _ ⟨rfl, rfl, rfl, rfl, rfl, yp⟩, (hG503.trans hG535), (St.pk [1, 2, 3, 0] 4 H536 rfl (by decide)), hv542⟩
  intro hM502
  refine qF (fuel := 7) (m := 263) (fun a w => ∃ (T0 G1 : _) (b498 : Nat) (r499 : Nat) (v500 : _), a = mk 26 (qQ T0 [(3, (pt b5)), (4, (pt b9)), (6, (pt b498)), (10, (.map (some r499))), (11, (pt b5))]) ∧ GLe G G1 ∧ St c G1 w ((.box b5 133 (qx.at_ a1)) :: (.box b9 219 (qw.at_ qL)) :: (.box b498 219 (qw.at_ qL)) :: (.mp r499 [⟨.int .u8 3, v500, 0⟩] 1) :: σ) ∧ qw.V G1 v500 (Trules_kind.mk 4 (FV.rules_kinds_1 a0) a0.Addr)) ?_ ?_
  ·rintro a w ⟨T0, G497, b498, r499, v500, rfl, hG495, H496, hv501⟩
   refine qi [3] ⟨qg (m' := 271) fun I j => ?_, yp⟩
   refine qp H496 (i := 0) rfl qX (qz .u8) ty5 rfl (qd (j _ _ ?_))
   exact hM509 _ _ ⟨_, _, b498, r499, v500, qf _ ⟨rfl, rfl, rfl, rfl, rfl, yp⟩, hG495, H496, hv501⟩
  intro hM494
  refine qF (fuel := 7) (m := 15) (fun a w => ∃ (T0 G1 : _) (r486 : Nat) (v487 : _), a = mk 26 (qQ T0 [(3, (pt b5)), (4, (pt b9)), (10, (.map (some r486))), (12, (.int .u8 a1.Typ))]) ∧ GLe G G1 ∧ St c G1 w ((.box b5 133 (qx.at_ a1)) :: (.box b9 219 (qw.at_ qL)) :: (.mp r486 [⟨.int .u8 3, v487, 0⟩] 1) :: σ) ∧ qw.V G1 v487 (Trules_kind.mk 4 (FV.rules_kinds_1 a0) a0.Addr)) ?_ ?_
  ·rintro a w ⟨T0, G485, r486, v487, rfl, hG483, H484, hv488⟩
   refine qi [4, 8] ⟨?_, ?_, yp⟩
   ·refine qg (m' := 31) fun I j => ?_
    have hv543 : qw.V G485 (.agg #[(.int .i64 0), (.nilFunc), (.int .u32 0)]) qL := ⟨[(.int .i64 0), (.nilFunc), (.int .u32 0)], rfl, (zcTrules_kind _)⟩
    refine jA (key := (.int .u8 a1.Typ)) (val := (.agg #[(.int .i64 0), (.nilFunc), (.int .u32 0)])) (ok := false) H484 (i := 2) rfl mt250 un5 rfl rfl (by simp [Go.MapKept.IsKey]) ⟨_, (zx hb249 rfl), .inr ⟨rfl, rfl, mz219⟩⟩ ?_
    refine qd (j _ _ ?_)
    refine qq (i := 5) (m' := 63) rfl (qa (.tuple #[(.agg #[(.int .i64 0), (.nilFunc), (.int .u32 0)]), (.bool false)]) rfl) B E ?_
    refine qq (i := 6) (m' := 127) rfl (qa (.agg #[(.int .i64 0), (.nilFunc), (.int .u32 0)]) rfl) B E ?_
    refine qq (i := 7) (m' := 255) rfl (qa (.bool false) rfl) B E ?_
    refine qi [8] ⟨qg (m' := 511) fun I j => ?_, yp⟩
    refine qP H484 zr219 ?_
    intro b544 w547 H545
    refine qd (j _ _ ?_)
    exact hM522 _ _ ⟨_, _, b544, (.agg #[(.int .i64 0), (.nilFunc), (.int .u32 0)]), qf _ ⟨rfl, rfl, rfl, rfl, rfl, yp⟩, hG483, (St.pk [1, 2, 0] 4 H545 rfl (by decide)), hv543⟩
   refine qg (m' := 271) fun I j => ?_
   refine qP H484 zr219 ?_
   intro b548 w551 H549
   refine qd (j _ _ ?_)
   exact hM509 _ _ ⟨_, _, b548, r486, v487, qf _ ⟨rfl, rfl, rfl, rfl, rfl, yp⟩, hG483, (St.pk [1, 2, 0, 3] 4 H549 rfl (by decide)), hv488⟩
  intro hM482
  refine qF (fuel := 8) (m := 268) (fun a w => ∃ (T0 G1 : _) (b481 : Nat), a = mk 26 (qQ T0 [(2, (pt b1)), (3, (pt b5)), (4, (pt b9)), (6, (pt b481)), (12, (.int .u8 a1.Typ))]) ∧ GLe G G1 ∧ St c G1 w ((.box b1 29 (qU.at_ a0)) :: (.box b5 133 (qx.at_ a1)) :: (.box b9 219 (qw.at_ qL)) :: (.box b481 219 (qw.at_ qL)) :: σ)) ?_ ?_
  ·rintro a w ⟨T0, G480, b481, rfl, hG478, H479⟩
   refine qi [0] ⟨qg (m' := 269) fun I j => ?_, yp⟩
   refine ql H479 (i := 0) rfl (Lens.id qU) ty29 rfl ?_
   intro v552 hv553
   refine qd (j _ _ ?_)
   exact hM502 _ _ ⟨_, _, b481, v552, qf _ ⟨rfl, rfl, rfl, rfl, rfl, yp⟩, hG478, (St.pk [1, 2, 3] 4 H479 rfl (by decide)), hv553⟩
  intro hM477
  refine qF (fuel := 8) (m := 261) (fun a w => ∃ (T0 G1 : _) (b474 : Nat) (v475 : _), a = mk 26 (qQ T0 [(3, (pt b5)), (4, (pt b9)), (6, (pt b474)), (9, v475), (11, (pt b5))]) ∧ GLe G G1 ∧ St c G1 w ((.box b5 133 (qx.at_ a1)) :: (.box b9 219 (qw.at_ qL)) :: (.box b474 219 (qw.at_ qL)) :: σ) ∧ qU.V G1 v475 a0) ?_ ?_
  ·rintro a w ⟨T0, G473, b474, v475, rfl, hG471, H472, hv476⟩
   refine qi [1, 3] ⟨?_, ?_, yp⟩
   ·refine qg (m' := 263) fun I j => ?_
    refine qo (vs := [v475]) en206 rfl (xK k hv476 hb237 H472 hr239) ?_
    rintro v558 w557 ⟨G554, r559, v561, hG555, rfl, H556, hv562⟩
    refine qd (j _ _ ?_)
    exact hM494 _ _ ⟨_, _, b474, r559, v561, qf _ ⟨rfl, rfl, rfl, rfl, rfl, yp⟩, (hG471.trans hG555), (St.pk [1, 2, 3, 0] 4 H556 rfl (by decide)), hv562⟩
   refine qg (m' := 269) fun I j => ?_
   refine qp H472 (i := 0) rfl qX (qz .u8) ty5 rfl (qd (j _ _ ?_))
   exact hM502 _ _ ⟨_, _, b474, v475, qf _ ⟨rfl, rfl, rfl, rfl, rfl, yp⟩, hG471, H472, hv476⟩
  intro hM470
  refine qF (fuel := 8) (m := 13) (fun a w => ∃ T0 G1 v464, a = mk 26 (qQ T0 [(3, (pt b5)), (4, (pt b9)), (9, v464), (12, (.int .u8 a1.Typ))]) ∧ GLe G G1 ∧ St c G1 w ((.box b5 133 (qx.at_ a1)) :: (.box b9 219 (qw.at_ qL)) :: σ) ∧ qU.V G1 v464 a0) ?_ ?_
  ·rintro a w ⟨T0, G463, v464, rfl, hG461, H462, hv465⟩
   refine qi [1, 8] ⟨?_, ?_, yp⟩
   ·refine qg (m' := 15) fun I j => ?_
    refine qo (vs := [v464]) en206 rfl (xK k hv465 hb237 H462 hr239) ?_
    rintro v567 w566 ⟨G563, r568, v570, hG564, rfl, H565, hv571⟩
    refine qd (j _ _ ?_)
    exact hM482 _ _ ⟨_, _, r568, v570, qf _ ⟨rfl, rfl, rfl, rfl, yp⟩, (hG461.trans hG564), (St.pk [1, 2, 0] 3 H565 rfl (by decide)), hv571⟩
   refine qg (m' := 269) fun I j => ?_
   refine qP H462 zr219 ?_
   intro b572 w575 H573
   refine qd (j _ _ ?_)
   exact hM502 _ _ ⟨_, _, b572, v464, qf _ ⟨rfl, rfl, rfl, rfl, rfl, yp⟩, hG461, (St.pk [1, 2, 0] 3 H573 rfl (by decide)), hv465⟩
  intro hM460
  refine qq (i := 2) (m' := 4) rfl (qh jc rfl) B E ?_
  refine qi [0, 3, 8] ⟨?_, ?_, ?_, yp⟩
  ·refine qg (m' := 5) fun I j => ?_
   refine ql H234 (i := 2) rfl (Lens.id qU) ty29 rfl ?_
   intro v576 hv577
   refine qd (j _ _ ?_)
   refine qi [1, 3, 8] ⟨?_, ?_, ?_, yp⟩
   ·refine qg (m' := 7) fun I j => ?_
    refine qo (vs := [v576]) en206 rfl (xK k hv577 hb237 H234 hr239) ?_
    rintro v582 w581 ⟨G578, r583, v585, hG579, rfl, H580, hv586⟩
    refine qd (j _ _ ?_)
    refine qi [3, 8] ⟨?_, ?_, yp⟩
    ·refine qg (m' := 15) fun I j => ?_
     refine qp H580 (i := 2) rfl qX (qz .u8) ty5 rfl (qd (j _ _ ?_))
     exact hM482 _ _ ⟨_, _, r583, v585, qf _ ⟨rfl, rfl, rfl, rfl, yp⟩, hG579, (St.pk [2, 1, 0] 4 H580 rfl (by decide)), hv586⟩
    refine qg (m' := 263) fun I j => ?_
    refine qP H580 zr219 ?_
    intro b587 w590 H588
    refine qd (j _ _ ?_)
    exact hM494 _ _ ⟨_, _, b587, r583, v585, qf _ ⟨rfl, rfl, rfl, rfl, rfl, yp⟩, hG579, (St.pk [3, 2, 0, 1] 5 H588 rfl (by decide)), hv586⟩
   ·refine qg (m' := 13) fun I j => ?_
    refine qp H234 (i := 1) rfl qX (qz .u8) ty5 rfl (qd (j _ _ ?_))
    exact hM460 _ _ ⟨_, _, v576, qf _ ⟨rfl, rfl, rfl, rfl, yp⟩, GLe.refl _, (St.pk [1, 0] 3 H234 rfl (by decide)), hv577⟩
   refine qg (m' := 261) fun I j => ?_
   refine qP H234 zr219 ?_
   intro b591 w594 H592
   refine qd (j _ _ ?_)
   exact hM470 _ _ ⟨_, _, b591, v576, qf _ ⟨rfl, rfl, rfl, rfl, rfl, yp⟩, GLe.refl _, (St.pk [2, 1, 0] 4 H592 rfl (by decide)), hv577⟩
  ·refine qg (m' := 12) fun I j => ?_
   refine qp H234 (i := 1) rfl qX (qz .u8) ty5 rfl (qd (j _ _ ?_))
   refine qi [0, 8] ⟨?_, ?_, yp⟩
   ·refine qg (m' := 13) fun I j => ?_
    refine ql H234 (i := 2) rfl (Lens.id qU) ty29 rfl ?_
    intro v595 hv596
    refine qd (j _ _ ?_)
    exact hM460 _ _ ⟨_, _, v595, qf _ ⟨rfl, rfl, rfl, rfl, yp⟩, GLe.refl _, (St.pk [1, 0] 3 H234 rfl (by decide)), hv596⟩
   refine qg (m' := 268) fun I j => ?_
   refine qP H234 zr219 ?_
   intro b597 w600 H598
   refine qd (j _ _ ?_)
   exact hM477 _ _ ⟨_, _, b597, qf _ ⟨rfl, rfl, rfl, rfl, rfl, yp⟩, GLe.refl _, (St.pk [3, 2, 1, 0] 4 H598 rfl (by decide))⟩
  refine qg (m' := 260) fun I j => ?_
  refine qP H234 zr219 ?_
  intro b601 w604 H602
  refine qd (j _ _ ?_)
  refine qi [0, 3] ⟨?_, ?_, yp⟩
  ·refine qg (m' := 261) fun I j => ?_
   refine ql H602 (i := 3) rfl (Lens.id qU) ty29 rfl ?_
   intro v605 hv606
   refine qd (j _ _ ?_)
   exact hM470 _ _ ⟨_, _, b601, v605, qf _ ⟨rfl, rfl, rfl, rfl, rfl, yp⟩, GLe.refl _, (St.pk [2, 1, 0] 4 H602 rfl (by decide)), hv606⟩
  refine qg (m' := 268) fun I j => ?_
  refine qp H602 (i := 2) rfl qX (qz .u8) ty5 rfl (qd (j _ _ ?_))
  exact hM477 _ _ ⟨_, _, b601, qf _ ⟨rfl, rfl, rfl, rfl, rfl, yp⟩, GLe.refl _, (St.pk [3, 2, 1, 0] 4 H602 rfl (by decide))⟩
 replace b := ifF b hb237
 obtain ⟨r607, hr608, b⟩ := qu b
 refine qF (fuel := 2) (m := 511) (fun a w => ∃ (T0 G1 : _) (b761 : Nat) (v762 : _), a = mk 26 (qQ T0 [(3, (pt b5)), (4, (pt b9)), (6, (pt b761)), (14, v762), (15, (.bool ((lkK ([(1, (Trules_kind.mk 2 FV.rules_kinds_2 64)), (2, (Trules_kind.mk 4 FV.rules_never 0)), (5, (Trules_kind.mk 4 (FV.rules_kinds_3 a0) a0.Other)), (7, (Trules_kind.mk 0 FV.rules_never 0)), (8, (Trules_kind.mk 0 FV.rules_never 0))] : List (Int × Trules_kind)) a1.Typ).isSome)))]) ∧ GLe G G1 ∧ St c G1 w ((.box b5 133 (qx.at_ a1)) :: (.box b9 219 (qw.at_ qL)) :: (.box b761 219 (qw.at_ qL)) :: σ) ∧ qw.V G1 v762 ((lkK ([(1, (Trules_kind.mk 2 FV.rules_kinds_2 64)), (2, (Trules_kind.mk 4 FV.rules_never 0)), (5, (Trules_kind.mk 4 (FV.rules_kinds_3 a0) a0.Other)), (7, (Trules_kind.mk 0 FV.rules_never 0)), (8, (Trules_kind.mk 0 FV.rules_never 0))] : List (Int × Trules_kind)) a1.Typ).getD qL)) ?_ ?_
 ·rintro a w ⟨T0, G760, b761, v762, rfl, hG758, H759, hv763⟩
  refine qi [9] ⟨qg (m' := 1023) fun I j => ?_, yp⟩
  refine qy (z := ((lkK ([(1, (Trules_kind.mk 2 FV.rules_kinds_2 64)), (2, (Trules_kind.mk 4 FV.rules_never 0)), (5, (Trules_kind.mk 4 (FV.rules_kinds_3 a0) a0.Other)), (7, (Trules_kind.mk 0 FV.rules_never 0)), (8, (Trules_kind.mk 0 FV.rules_never 0))] : List (Int × Trules_kind)) a1.Typ).getD qL)) H759 (i := 2) rfl (Lens.id qw) ty219 rfl rfl hv763 ?_
  intro w767 H766
  refine qd (j _ _ ?_)
  refine qq (i := 10) (m' := 2047) rfl (qa (.bool ((lkK ([(1, (Trules_kind.mk 2 FV.rules_kinds_2 64)), (2, (Trules_kind.mk 4 FV.rules_never 0)), (5, (Trules_kind.mk 4 (FV.rules_kinds_3 a0) a0.Other)), (7, (Trules_kind.mk 0 FV.rules_never 0)), (8, (Trules_kind.mk 0 FV.rules_never 0))] : List (Int × Trules_kind)) a1.Typ).isSome)) rfl) B E ?_
  refine zA (qe ?_)
  exact ⟨_, _, ((lkK ([(1, (Trules_kind.mk 2 FV.rules_kinds_2 64)), (2, (Trules_kind.mk 4 FV.rules_never 0)), (5, (Trules_kind.mk 4 (FV.rules_kinds_3 a0) a0.Other)), (7, (Trules_kind.mk 0 FV.rules_never 0)), (8, (Trules_kind.mk 0 FV.rules_never 0))] : List (Int × Trules_kind)) a1.Typ).getD qL), ((lkK ([(1, (Trules_kind.mk 2 FV.rules_kinds_2 64)), (2, (Trules_kind.mk 4 FV.rules_never 0)), (5, (Trules_kind.mk 4 (FV.rules_kinds_3 a0) a0.Other)), (7, (Trules_kind.mk 0 FV.rules_never 0)), (8, (Trules_kind.mk 0 FV.rules_never 0))] : List (Int × Trules_kind)) a1.Typ).isSome), b761, qf _ ⟨rfl, rfl, rfl, rfl, yp⟩, hG758, (St.pk [2, 1, 0] 3 H766 rfl (by decide)), b⟩
 intro hM757
 refine qF (fuel := 6) (m := 271) (fun a w => ∃ (T0 G1 : _) (b739 : Nat) (r740 : Nat) (v741 v743 v745 v747 v749 : _), a = mk 26 (qQ T0 [(3, (pt b5)), (4, (pt b9)), (6, (pt b739)), (10, (.map (some r740))), (12, (.int .u8 a1.Typ))]) ∧ GLe G G1 ∧ St c G1 w ((.box b5 133 (qx.at_ a1)) :: (.box b9 219 (qw.at_ qL)) :: (.box b739 219 (qw.at_ qL)) :: (.mp r740 [⟨.int .u8 1, v741, 0⟩, ⟨.int .u8 2, v743, 1⟩, ⟨.int .u8 5, v745, 2⟩, ⟨.int .u8 7, v747, 3⟩, ⟨.int .u8 8, v749, 4⟩] 5) :: σ) ∧ qw.V G1 v741 (Trules_kind.mk 2 FV.rules_kinds_2 64) ∧ qw.V G1 v743 (Trules_kind.mk 4 FV.rules_never 0) ∧ qw.V G1 v745 (Trules_kind.mk 4 (FV.rules_kinds_3 a0) a0.Other) ∧ qw.V G1 v747 (Trules_kind.mk 0 FV.rules_never 0) ∧ qw.V G1 v749 (Trules_kind.mk 0 FV.rules_never 0)) ?_ ?_
 ·rintro a w ⟨T0, G738, b739, r740, v741, v743, v745, v747, v749, rfl, hG736, H737, hv742, hv744, hv746, hv748, hv750⟩
  refine qi [4] ⟨qg (m' := 287) fun I j => ?_, yp⟩
  refine wl_lookupK (K := qw) (vs := [v741, v743, v745, v747, v749]) (xs := [(1, (Trules_kind.mk 2 FV.rules_kinds_2 64)), (2, (Trules_kind.mk 4 FV.rules_never 0)), (5, (Trules_kind.mk 4 (FV.rules_kinds_3 a0) a0.Other)), (7, (Trules_kind.mk 0 FV.rules_never 0)), (8, (Trules_kind.mk 0 FV.rules_never 0))]) H737 ⟨hv742, hv744, hv746, hv748, hv750, yp⟩ (i := 3) rfl mt250 un5 rfl rfl zr219 ?_
  intro v768 hv769
  refine qd (j _ _ ?_)
  refine qq (i := 5) (m' := 319) rfl (qa (.tuple #[v768, (.bool ((lkK ([(1, (Trules_kind.mk 2 FV.rules_kinds_2 64)), (2, (Trules_kind.mk 4 FV.rules_never 0)), (5, (Trules_kind.mk 4 (FV.rules_kinds_3 a0) a0.Other)), (7, (Trules_kind.mk 0 FV.rules_never 0)), (8, (Trules_kind.mk 0 FV.rules_never 0))] : List (Int × Trules_kind)) a1.Typ).isSome))]) rfl) B E ?_
  refine qq (i := 6) (m' := 383) rfl (qa v768 rfl) B E ?_
  refine qq (i := 7) (m' := 511) rfl (qa (.bool ((lkK ([(1, (Trules_kind.mk 2 FV.rules_kinds_2 64)), (2, (Trules_kind.mk 4 FV.rules_never 0)), (5, (Trules_kind.mk 4 (FV.rules_kinds_3 a0) a0.Other)), (7, (Trules_kind.mk 0 FV.rules_never 0)), (8, (Trules_kind.mk 0 FV.rules_never 0))] : List (Int × Trules_kind)) a1.Typ).isSome)) rfl) B E ?_
  exact hM757 _ _ ⟨_, _, b739, v768, qf _ ⟨rfl, rfl, rfl, rfl, rfl, yp⟩, hG736, (St.pk [0, 1, 2] 4 H737 rfl (by decide)), hv769⟩
 intro hM735
 refine qF (fuel := 7) (m := 269) (fun a w => ∃ (T0 G1 : _) (b732 : Nat) (v733 : _), a = mk 26 (qQ T0 [(3, (pt b5)), (4, (pt b9)), (6, (pt b732)), (9, v733), (12, (.int .u8 a1.Typ))]) ∧ GLe G G1 ∧ St c G1 w ((.box b5 133 (qx.at_ a1)) :: (.box b9 219 (qw.at_ qL)) :: (.box b732 219 (qw.at_ qL)) :: σ) ∧ qU.V G1 v733 a0) ?_ ?_
 ·rintro a w ⟨T0, G731, b732, v733, rfl, hG729, H730, hv734⟩
  refine qi [1] ⟨qg (m' := 271) fun I j => ?_, yp⟩
  refine qo (vs := [v733]) en206 rfl (rules_kinds_k0_ok k hv734 hb237 H730 hr608) ?_
  rintro v774 w773 ⟨G770, r775, v777, v779, v781, v783, v785, hG771, rfl, H772, hv778, hv780, hv782, hv784, hv786⟩
  refine qd (j _ _ ?_)
  exact hM735 _ _ ⟨_, _, b732, r775, v777, v779, v781, v783, v785, qf _ ⟨rfl, rfl, rfl, rfl, rfl, yp⟩, (hG729.trans hG771), (St.pk [1, 2, 3, 0] 4 H772 rfl (by decide)), hv778, hv780, hv782, hv784, hv786⟩
 intro hM728
 refine qF (fuel := 7) (m := 263) (fun a w => ∃ (T0 G1 : _) (b716 : Nat) (r717 : Nat) (v718 v720 v722 v724 v726 : _), a = mk 26 (qQ T0 [(3, (pt b5)), (4, (pt b9)), (6, (pt b716)), (10, (.map (some r717))), (11, (pt b5))]) ∧ GLe G G1 ∧ St c G1 w ((.box b5 133 (qx.at_ a1)) :: (.box b9 219 (qw.at_ qL)) :: (.box b716 219 (qw.at_ qL)) :: (.mp r717 [⟨.int .u8 1, v718, 0⟩, ⟨.int .u8 2, v720, 1⟩, ⟨.int .u8 5, v722, 2⟩, ⟨.int .u8 7, v724, 3⟩, ⟨.int .u8 8, v726, 4⟩] 5) :: σ) ∧ qw.V G1 v718 (Trules_kind.mk 2 FV.rules_kinds_2 64) ∧ qw.V G1 v720 (Trules_kind.mk 4 FV.rules_never 0) ∧ qw.V G1 v722 (Trules_kind.mk 4 (FV.rules_kinds_3 a0) a0.Other) ∧ qw.V G1 v724 (Trules_kind.mk 0 FV.rules_never 0) ∧ qw.V G1 v726 (Trules_kind.mk 0 FV.rules_never 0)) ?_ ?_
 ·rintro a w ⟨T0, G715, b716, r717, v718, v720, v722, v724, v726, rfl, hG713, H714, hv719, hv721, hv723, hv725, hv727⟩
  refine qi [3] ⟨qg (m' := 271) fun I j => ?_, yp⟩
  refine qp H714 (i := 0) rfl qX (qz .u8) ty5 rfl (qd (j _ _ ?_))
  exact hM735 _ _ ⟨_, _, b716, r717, v718, v720, v722, v724, v726, qf _ ⟨rfl, rfl, rfl, rfl, rfl, yp⟩, hG713, H714, hv719, hv721, hv723, hv725, hv727⟩
 intro hM712
 refine qF (fuel := 7) (m := 15) (fun a w => ∃ (T0 G1 : _) (r695 : Nat) (v696 v698 v700 v702 v704 : _), a = mk 26 (qQ T0 [(3, (pt b5)), (4, (pt b9)), (10, (.map (some r695))), (12, (.int .u8 a1.Typ))]) ∧ GLe G G1 ∧ St c G1 w ((.box b5 133 (qx.at_ a1)) :: (.box b9 219 (qw.at_ qL)) :: (.mp r695 [⟨.int .u8 1, v696, 0⟩, ⟨.int .u8 2, v698, 1⟩, ⟨.int .u8 5, v700, 2⟩, ⟨.int .u8 7, v702, 3⟩, ⟨.int .u8 8, v704, 4⟩] 5) :: σ) ∧ qw.V G1 v696 (Trules_kind.mk 2 FV.rules_kinds_2 64) ∧ qw.V G1 v698 (Trules_kind.mk 4 FV.rules_never 0) ∧ qw.V G1 v700 (Trules_kind.mk 4 (FV.rules_kinds_3 a0) a0.Other) ∧ qw.V G1 v702 (Trules_kind.mk 0 FV.rules_never 0) ∧ qw.V G1 v704 (Trules_kind.mk 0 FV.rules_never 0)) ?_ ?_
 ·rintro a w ⟨T0, G694, r695, v696, v698, v700, v702, v704, rfl, hG692, H693, hv697, hv699, hv701, hv703, hv705⟩
  refine qi [4, 8] ⟨?_, ?_, yp⟩
  ·refine qg (m' := 31) fun I j => ?_
   refine wl_lookupK (K := qw) (vs := [v696, v698, v700, v702, v704]) (xs := [(1, (Trules_kind.mk 2 FV.rules_kinds_2 64)), (2, (Trules_kind.mk 4 FV.rules_never 0)), (5, (Trules_kind.mk 4 (FV.rules_kinds_3 a0) a0.Other)), (7, (Trules_kind.mk 0 FV.rules_never 0)), (8, (Trules_kind.mk 0 FV.rules_never 0))]) H693 ⟨hv697, hv699, hv701, hv703, hv705, yp⟩ (i := 2) rfl mt250 un5 rfl rfl zr219 ?_
   intro v787 hv788
   refine qd (j _ _ ?_)
   refine qq (i := 5) (m' := 63) rfl (qa (.tuple #[v787, (.bool ((lkK ([(1, (Trules_kind.mk 2 FV.rules_kinds_2 64)), (2, (Trules_kind.mk 4 FV.rules_never 0)), (5, (Trules_kind.mk 4 (FV.rules_kinds_3 a0) a0.Other)), (7, (Trules_kind.mk 0 FV.rules_never 0)), (8, (Trules_kind.mk 0 FV.rules_never 0))] : List (Int × Trules_kind)) a1.Typ).isSome))]) rfl) B E ?_
   refine qq (i := 6) (m' := 127) rfl (qa v787 rfl) B E ?_
   refine qq (i := 7) (m' := 255) rfl (qa (.bool ((lkK ([(1, (Trules_kind.mk 2 FV.rules_kinds_2 64)), (2, (Trules_kind.mk 4 FV.rules_never 0)), (5, (Trules_kind.mk 4 (FV.rules_kinds_3 a0) a0.Other)), (7, (Trules_kind.mk 0 FV.rules_never 0)), (8, (Trules_kind.mk 0 FV.rules_never 0))] : List (Int × Trules_kind)) a1.Typ).isSome)) rfl) B E ?_
   refine qi [8] ⟨qg (m' := 511) fun I j => ?_, yp⟩
   refine qP H693 zr219 ?_
   intro b789 w792 H790
   refine qd (j _ _ ?_)
   exact hM757 _ _ ⟨_, _, b789, v787, qf _ ⟨rfl, rfl, rfl, rfl, rfl, yp⟩, hG692, (St.pk [1, 2, 0] 4 H790 rfl (by decide)), hv788⟩
  refine qg (m' := 271) fun I j => ?_
  refine qP H693 zr219 ?_
  intro b793 w796 H794
  refine qd (j _ _ ?_)
  exact hM735 _ _ ⟨_, _, b793, r695, v696, v698, v700, v702, v704, qf _ ⟨rfl, rfl, rfl, rfl, rfl, yp⟩, hG692, (St.pk [1, 2, 0, 3] 4 H794 rfl (by decide)), hv697, hv699, hv701, hv703, hv705⟩
 intro hM691
 refine qF (fuel := 8) (m := 268) (fun a w => ∃ (T0 G1 : _) (b690 : Nat), a = mk 26 (qQ T0 [(2, (pt b1)), (3, (pt b5)), (4, (pt b9)), (6, (pt b690)), (12, (.int .u8 a1.Typ))]) ∧ GLe G G1 ∧ St c G1 w ((.box b1 29 (qU.at_ a0)) :: (.box b5 133 (qx.at_ a1)) :: (.box b9 219 (qw.at_ qL)) :: (.box b690 219 (qw.at_ qL)) :: σ)) ?_ ?_
 ·rintro a w ⟨T0, G689, b690, rfl, hG687, H688⟩
  refine qi [0] ⟨qg (m' := 269) fun I j => ?_, yp⟩
  refine ql H688 (i := 0) rfl (Lens.id qU) ty29 rfl ?_
  intro v797 hv798
  refine qd (j _ _ ?_)
  exact hM728 _ _ ⟨_, _, b690, v797, qf _ ⟨rfl, rfl, rfl, rfl, rfl, yp⟩, hG687, (St.pk [1, 2, 3] 4 H688 rfl (by decide)), hv798⟩
 intro hM686
 refine qF (fuel := 8) (m := 261) (fun a w => ∃ (T0 G1 : _) (b683 : Nat) (v684 : _), a = mk 26 (qQ T0 [(3, (pt b5)), (4, (pt b9)), (6, (pt b683)), (9, v684), (11, (pt b5))]) ∧ GLe G G1 ∧ St c G1 w ((.box b5 133 (qx.at_ a1)) :: (.box b9 219 (qw.at_ qL)) :: (.box b683 219 (qw.at_ qL)) :: σ) ∧ qU.V G1 v684 a0) ?_ ?_
 ·rintro a w ⟨T0, G682, b683, v684, rfl, hG680, H681, hv685⟩
  refine qi [1, 3] ⟨?_, ?_, yp⟩
  ·refine qg (m' := 263) fun I j => ?_
   refine qo (vs := [v684]) en206 rfl (rules_kinds_k0_ok k hv685 hb237 H681 hr608) ?_
   rintro v803 w802 ⟨G799, r804, v806, v808, v810, v812, v814, hG800, rfl, H801, hv807, hv809, hv811, hv813, hv815⟩
   refine qd (j _ _ ?_)
   exact hM712 _ _ ⟨_, _, b683, r804, v806, v808, v810, v812, v814, qf _ ⟨rfl, rfl, rfl, rfl, rfl, yp⟩, (hG680.trans hG800), (St.pk [1, 2, 3, 0] 4 H801 rfl (by decide)), hv807, hv809, hv811, hv813, hv815⟩
  refine qg (m' := 269) fun I j => ?_
  refine qp H681 (i := 0) rfl qX (qz .u8) ty5 rfl (qd (j _ _ ?_))
  exact hM728 _ _ ⟨_, _, b683, v684, qf _ ⟨rfl, rfl, rfl, rfl, rfl, yp⟩, hG680, H681, hv685⟩
 intro hM679
 refine qF (fuel := 8) (m := 13) (fun a w => ∃ T0 G1 v673, a = mk 26 (qQ T0 [(3, (pt b5)), (4, (pt b9)), (9, v673), (12, (.int .u8 a1.Typ))]) ∧ GLe G G1 ∧ St c G1 w ((.box b5 133 (qx.at_ a1)) :: (.box b9 219 (qw.at_ qL)) :: σ) ∧ qU.V G1 v673 a0) ?_ ?_
 ·rintro a w ⟨T0, G672, v673, rfl, hG670, H671, hv674⟩
  refine qi [1, 8] ⟨?_, ?_, yp⟩
  ·refine qg (m' := 15) fun I j => ?_
   refine qo (vs := [v673]) en206 rfl (rules_kinds_k0_ok k hv674 hb237 H671 hr608) ?_
   rintro v820 w819 ⟨G816, r821, v823, v825, v827, v829, v831, hG817, rfl, H818, hv824, hv826, hv828, hv830, hv832⟩
   refine qd (j _ _ ?_)
   exact hM691 _ _ ⟨_, _, r821, v823, v825, v827, v829, v831, qf _ ⟨rfl, rfl, rfl, rfl, yp⟩, (hG670.trans hG817), (St.pk [1, 2, 0] 3 H818 rfl (by decide)), hv824, hv826, hv828, hv830, hv832⟩
  refine qg (m' := 269) fun I j => ?_
  refine qP H671 zr219 ?_
  intro b833 w836 H834
  refine qd (j _ _ ?_)
  exact hM728 _ _ ⟨_, _, b833, v673, qf _ ⟨rfl, rfl, rfl, rfl, rfl, yp⟩, hG670, (St.pk [1, 2, 0] 3 H834 rfl (by decide)), hv674⟩
 intro hM669
 refine qq (i := 2) (m' := 4) rfl (qh jc rfl) B E ?_
 refine qi [0, 3, 8] ⟨?_, ?_, ?_, yp⟩
 ·refine qg (m' := 5) fun I j => ?_
  refine ql H234 (i := 2) rfl (Lens.id qU) ty29 rfl ?_
  intro v837 hv838
  refine qd (j _ _ ?_)
  refine qi [1, 3, 8] ⟨?_, ?_, ?_, yp⟩
  ·refine qg (m' := 7) fun I j => ?_
   refine qo (vs := [v837]) en206 rfl (rules_kinds_k0_ok k hv838 hb237 H234 hr608) ?_
   rintro v843 w842 ⟨G839, r844, v846, v848, v850, v852, v854, hG840, rfl, H841, hv847, hv849, hv851, hv853, hv855⟩
   refine qd (j _ _ ?_)
   refine qi [3, 8] ⟨?_, ?_, yp⟩
   ·refine qg (m' := 15) fun I j => ?_
    refine qp H841 (i := 2) rfl qX (qz .u8) ty5 rfl (qd (j _ _ ?_))
    exact hM691 _ _ ⟨_, _, r844, v846, v848, v850, v852, v854, qf _ ⟨rfl, rfl, rfl, rfl, yp⟩, hG840, (St.pk [2, 1, 0] 4 H841 rfl (by decide)), hv847, hv849, hv851, hv853, hv855⟩
   refine qg (m' := 263) fun I j => ?_
   refine qP H841 zr219 ?_
   intro b856 w859 H857
   refine qd (j _ _ ?_)
   exact hM712 _ _ ⟨_, _, b856, r844, v846, v848, v850, v852, v854, qf _ ⟨rfl, rfl, rfl, rfl, rfl, yp⟩, hG840, (St.pk [3, 2, 0, 1] 5 H857 rfl (by decide)), hv847, hv849, hv851, hv853, hv855⟩
  ·refine qg (m' := 13) fun I j => ?_
   refine qp H234 (i := 1) rfl qX (qz .u8) ty5 rfl (qd (j _ _ ?_))
   exact hM669 _ _ ⟨_, _, v837, qf _ ⟨rfl, rfl, rfl, rfl, yp⟩, GLe.refl _, (St.pk [1, 0] 3 H234 rfl (by decide)), hv838⟩
  refine qg (m' := 261) fun I j => ?_
  refine qP H234 zr219 ?_
  intro b860 w863 H861
  refine qd (j _ _ ?_)
  exact hM679 _ _ ⟨_, _, b860, v837, qf _ ⟨rfl, rfl, rfl, rfl, rfl, yp⟩, GLe.refl _, (St.pk [2, 1, 0] 4 H861 rfl (by decide)), hv838⟩
 ·refine qg (m' := 12) fun I j => ?_
  refine qp H234 (i := 1) rfl qX (qz .u8) ty5 rfl (qd (j _ _ ?_))
  refine qi [0, 8] ⟨?_, ?_, yp⟩
  ·refine qg (m' := 13) fun I j => ?_
   refine ql H234 (i := 2) rfl (Lens.id qU) ty29 rfl ?_
   intro v864 hv865
   refine qd (j _ _ ?_)
   exact hM669 _ _ ⟨_, _, v864, qf _ ⟨rfl, rfl, rfl, rfl, yp⟩, GLe.refl _, (St.pk [1, 0] 3 H234 rfl (by decide)), hv865⟩
  refine qg (m' := 268) fun I j => ?_
  refine qP H234 zr219 ?_
  intro b866 w869 H867
  refine qd (j _ _ ?_)
  exact hM686 _ _ ⟨_, _, b866, qf _ ⟨rfl, rfl, rfl, rfl, rfl, yp⟩, GLe.refl _, (St.pk [3, 2, 1, 0] 4 H867 rfl (by decide))⟩
 refine qg (m' := 260) fun I j => ?_
 refine qP H234 zr219 ?_
 intro b870 w873 H871
 refine qd (j _ _ ?_)
 refine qi [0, 3] ⟨?_, ?_, yp⟩
 ·refine qg (m' := 261) fun I j => ?_
  refine ql H871 (i := 3) rfl (Lens.id qU) ty29 rfl ?_
  intro v874 hv875
  refine qd (j _ _ ?_)
  exact hM679 _ _ ⟨_, _, b870, v874, qf _ ⟨rfl, rfl, rfl, rfl, rfl, yp⟩, GLe.refl _, (St.pk [2, 1, 0] 4 H871 rfl (by decide)), hv875⟩
 refine qg (m' := 268) fun I j => ?_
 refine qp H871 (i := 2) rfl qX (qz .u8) ty5 rfl (qd (j _ _ ?_))
 exact hM686 _ _ ⟨_, _, b870, qf _ ⟨rfl, rfl, rfl, rfl, rfl, yp⟩, GLe.refl _, (St.pk [3, 2, 1, 0] 4 H871 rfl (by decide))⟩

theorem opts_Number_ok {c : World} (k : Hc c) {G : qk} {w : World} {σ : List Ent} {a0 : (List Int)} {A0_ : Option Addr} {c0_ : Nat} (h0_ : SlR kB G A0_ c0_ a0) (H : St c G w (σ)) {r : Int} (b : opts_Number a0 = some r) :
  Calls Tryz.prog 128 ([(.slice A0_ a0.length c0_)] : List Value).toArray w (zu fun v w' => ∃ (G' : qk), GLe G G' ∧ tup [(.int .u32 r)] = v ∧ St c G' w' (σ)) := by
 unfold opts_Number at b
 refine qG Tryz.func128 rfl rfl rfl (wp_seq (qc (qb (qa (.int .u32 0) rfl) (qd (qe (wp_seq (qc (qb (qa (.int .u32 0) rfl) (qd (qe (wp_seq (wp_seq (qc (qb (qa (.slice A0_ a0.length c0_) rfl) (qb (zb zJ rfl) ?_)))))))))))))))
 refine qb (qa (.int .i64 0) rfl) (qd (qe (wp_block ?_)))
 refine ja (fun (s : (Int × Int)) a w => ∃ (T0 : Fr) (G1 : qk), a = mk 19 (qQ T0 [(3, (.int .u32 s.1)), (6, (.slice A0_ a0.length c0_)), (7, (.int .i64 (a0.length : Int))), (8, (.int .i64 s.2))]) ∧ GLe G G1 ∧ St c G1 w (σ)) b ?_ ?_
 ·exact ⟨_, _, qf _ ⟨rfl, rfl, rfl, rfl, yp⟩, GLe.refl _, H⟩
 rintro ⟨x9, x10⟩ a w y13 ⟨T0, G14, rfl, hG11, H12⟩ b hy1
 refine wp_seq (qc (qb (qa (.bool (decide (x10 < (a0.length : Int)))) rfl) (qd (qe (wp_seq ?_)))))
 rcases qm (decide (x10 < (a0.length : Int))) with hb15 | hb15
 ·replace b := ifT b hb15
  refine qs (vb hb15) (wp_skip (qe (wp_seq (wp_block (wp_seq (qc ?_))))))
  obtain ⟨x16, hx17, b⟩ := qu b
  refine qR (qY (h0_.mono hG11) zJ ty5 rfl rfl hx17) ?_
  intro a18 hp19
  refine zd H12 hp19 (qz .u8) ty5 rfl ?_
  refine qb (qa (.int .u8 x16) rfl) (qd (qe (qc (qb (qa (.int .u32 x9) rfl) (qb (qa (.int .u32 (sShl .u32 x9 8)) rfl) (qb (qa (.int .u8 x16) rfl) (qb (zU un5 un27 rfl) ?_)))))))
  iterate 2 refine qb (qa (.int .u32 (bOr .u32 (sShl .u32 x9 8) (IntKind.u32.wrap (x16)))) rfl) ?_
  refine qd (zn (qe (qc ?_)))
  iterate 2 refine qb (qa (.int .i64 (IntKind.i64.wrap (x10 + 1))) rfl) ?_
  refine qd (qe ?_)
  exact ⟨_, (yq b).symm, _, _, qf _ ⟨rfl, rfl, rfl, rfl, yp⟩, hG11, H12⟩
 replace b := ifF b hb15
 refine qn (vb hb15) ?_
 refine wp_exit ?_
 iterate 2 refine xB ?_
 replace b := jJ b hy1
 refine blk_e ?_
 refine qe (wp_seq (qc ?_))
 iterate 2 refine qb (qa (.int .u32 x9) rfl) ?_
 refine qd (qe (wp_ret ?_))
 have b := yq b
 subst b
 exact qt rfl (RV.tmp rfl RV.nil) ⟨_, hG11, rfl, H12⟩

theorem rules_kinds_1_ok {c : World} (k : Hc c) {G : qk} {w : World} {σ : List Ent} {a0 : Int} {p1_ : Addr} {a1 : TRule} (h1_ : PtR qU G p1_ a1) (H : St c G w (σ)) {r : Bool} (b : rules_kinds_1 a0 a1 = some r) :
  Calls Tryz.prog 235 ([(.int .u32 a0), (.pointer (some p1_))] : List Value).toArray w (zu fun v w' => ∃ (G' : qk), GLe G G' ∧ tup [(.bool r)] = v ∧ St c G' w' (σ)) := by
 unfold rules_kinds_1 at b
 refine qG Tryz.func235 rfl rfl rfl (wp_seq (qc (qb (qa (.bool false) rfl) (qd (qe (wp_seq (qc (qb (qa (.int .u32 a0) rfl) (qb (jW fo29_3 rfl) ?_)))))))))
 refine zd H (h1_.lens lTRule_Addr) (qz .u32) ty27 rfl ?_
 iterate 2 refine qb (qa (.bool (a0 != a1.Addr)) rfl) ?_
 refine qd (qe (wp_ret ?_))
 have b := yq b
 subst b
 exact qt rfl (RV.tmp rfl RV.nil) ⟨_, GLe.refl _, rfl, H⟩

theorem rules_kinds_2_ok {c : World} (k : Hc c) {G : qk} {w : World} {σ : List Ent} {a0 : Int}  (H : St c G w (σ)) {r : Bool} (b : rules_kinds_2 a0 = some r) :
  Calls Tryz.prog 236 ([(.int .u32 a0)] : List Value).toArray w (zu fun v w' => ∃ (G' : qk), GLe G G' ∧ tup [(.bool r)] = v ∧ St c G' w' (σ)) := by
 unfold rules_kinds_2 at b
 refine qG Tryz.func236 rfl rfl rfl (wp_seq (qc (qb (qa (.bool false) rfl) (qd (qe (wp_seq (qc (qb (qa (.int .u32 a0) rfl) ?_))))))))
 iterate 2 refine qb (qa (.bool (decide (a0 < 64))) rfl) ?_
 refine qd (qe (wp_ret ?_))
 have b := yq b
 subst b
 exact qt rfl (RV.tmp rfl RV.nil) ⟨_, GLe.refl _, rfl, H⟩

theorem rules_never_ok {c : World} (k : Hc c) {G : qk} {w : World} {σ : List Ent} {a0 : Int}  (H : St c G w (σ)) {r : Bool} (b : rules_never a0 = some r) :
  Calls Tryz.prog 237 ([(.int .u32 a0)] : List Value).toArray w (zu fun v w' => ∃ (G' : qk), GLe G G' ∧ tup [(.bool r)] = v ∧ St c G' w' (σ)) := by
 unfold rules_never at b
 refine qG Tryz.func237 rfl rfl rfl (wp_seq (qc (qb (qa (.bool false) rfl) (qd (qe (wp_seq (qc (qb (qa (.bool false) rfl) (qd (qe (wp_ret ?_)))))))))))
 have b := yq b
 subst b
 exact qt rfl (RV.tmp rfl RV.nil) ⟨_, GLe.refl _, rfl, H⟩

theorem rules_kinds_3_ok {c : World} (k : Hc c) {G : qk} {w : World} {σ : List Ent} {a0 : Int} {p1_ : Addr} {a1 : TRule} (h1_ : PtR qU G p1_ a1) (H : St c G w (σ)) {r : Bool} (b : rules_kinds_3 a0 a1 = some r) :
  Calls Tryz.prog 238 ([(.int .u32 a0), (.pointer (some p1_))] : List Value).toArray w (zu fun v w' => ∃ (G' : qk), GLe G G' ∧ tup [(.bool r)] = v ∧ St c G' w' (σ)) := by
 unfold rules_kinds_3 at b
 refine qG Tryz.func238 rfl rfl rfl (wp_seq (qc (qb (qa (.bool false) rfl) (qd (qe (wp_seq (qc (qb (qa (.int .u32 a0) rfl) ?_))))))))
 iterate 2 refine qb (qa (.bool (a0 == 0)) rfl) ?_
 rcases qm (a0 == 0) with hb1 | hb1
 ·replace b := ifT b hb1
  iterate 4 refine qJ rfl rfl rfl (vb hb1) ?_
  refine qb (qB (.bool true) (vb hb1) rfl) (qb (qa (.bool true) rfl) (qd (qe (wp_ret ?_))))
  have b := yq b
  subst b
  exact qt rfl (RV.tmp rfl RV.nil) ⟨_, GLe.refl _, rfl, H⟩
 replace b := ifF b hb1
 refine qj rfl rfl rfl (vb hb1) (qb (qa (.int .u32 a0) rfl) (qj rfl rfl rfl (vb hb1) (qb (jW fo29_1 rfl) (qj rfl rfl rfl (vb hb1) ?_))))
 refine zd H (h1_.lens lTRule_Magic) (qz .u32) ty27 rfl ?_
 refine qj rfl rfl rfl (vb hb1) (qb (qa (.bool (a0 == a1.Magic)) rfl) (qb (qr (.bool (a0 == a1.Magic)) (vb hb1) rfl) (qb (qa (.bool (a0 == a1.Magic)) rfl) (qd (qe (wp_ret ?_))))))
 have b := yq b
 subst b
 exact qt rfl (RV.tmp rfl RV.nil) ⟨_, GLe.refl _, rfl, H⟩
end Go.Proofs.YtadlndnagfnlgaaGreatDoor.W
