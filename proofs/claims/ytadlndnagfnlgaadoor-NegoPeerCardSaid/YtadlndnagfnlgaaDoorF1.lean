/- Calls come to what the plain functions say: written by a program (gen.py). -/
import Derived.Test.YtadlndnagfnlgaaDoorG
import Derived.Test.YtadlndnagfnlgaaDoorF0
set_option linter.unusedVariables false
set_option maxRecDepth 20000
namespace Go.Proofs.YtadlndnagfnlgaaDoor.W
open Go
set_option maxHeartbeats 4000000
attribute [local irreducible] wpList wpAny Code.wp wpListIn wpAnyIn Code.wpIn
theorem nego_work_told_ok {c : World} (hc : Hc c) {G : Ghost} {w : World} {σ : List Ent} {b0 : Nat} {x2 : TNego} {x3 : (List TPkt)} {x8 : (List Int)} {x13 : TPkt} {g4 : Option Nat} {A5 : Option Addr} {c6 : Nat} {g9 : Option Nat} {A10 : Option Addr} {c11 : Nat}  (H : St c G w ((.box b0 63 (kTnego_workV.at_ (Tnego_workV.mk x2 (.slice A5 x3.length c6) (.slice A10 x8.length c11) x13))) :: (.row kTPkt g4 A5 c6 32 x3) :: (.row kI g9 A10 c11 3 x8) :: σ)) {r : (TNego × (List TPkt) × (List Int))} (hF : nego_work_told x2 x3 x8 x13 = some r) :
  Calls Tryd.prog 31 ([(pt b0)] : List Value).toArray w (Ends fun v w' => ∃ (G' : Ghost) (v1' : Value) (A2' : Option Addr) (c3' : Nat) (A4' : Option Addr) (c5' : Nat), GLe G G' ∧ tup [v1', (.slice A2' r.2.1.length c3'), (.slice A4' r.2.2.length c5')] = v ∧ St c G' w' (σ) ∧ kTNego.V G' v1' r.1 ∧ SlR kTPkt G' A2' c3' r.2.1 ∧ SlR kI G' A4' c5' r.2.2) := by
 unfold nego_work_told at hF
 refine calls_mk Tryd.func31 rfl rfl rfl ?_
 refine wp_seq (wc_region ?_)
 refine wl_alloc H zr29 ?_
 intro b14 w17 H15
 iterate 2 refine wl_rn (rn_pure (.slice none 0 0) rfl) ?_
 refine wl_nil (then_n ?_)
 refine wp_seq ?_
 refine wc_anyS (f := 15) H15 mixed ?_
 intro w18 H19
 refine any_pf (by repeat (first | exact PF.base | apply PF.then_ | apply PF.blk)) ?_
 intro hPF hns
 refine any_memo (fuel := 1) (m := 16383) (fun a w => ∃ (T0 : Fr) (G1 : Ghost), a = mk 17 (upds T0 [(2, (pt b14)), (3, (.slice A5 x3.length c6)), (16, (.slice A10 x8.length c11))]) ∧ GLe G G1 ∧ St c G1 w ((.box b14 29 (kTNego.at_ x2)) :: (.row kTPkt g4 A5 c6 32 x3) :: (.row kI g9 A10 c11 3 x8) :: (.box b0 63 (kTnego_workV.at_ (Tnego_workV.mk x2 (.slice A5 x3.length c6) (.slice A10 x8.length c11) x13))) :: σ)) ?_ ?_
 ·rintro a w ⟨T0, G87, rfl, hG85, H86⟩
  refine any_rn (i := 14) (m' := 32767) rfl (rn_pure (.slice A10 x8.length c11) rfl) hPF hns ?_
  refine any_end ?_
  refine then_n ?_
  refine wp_ret ?_
  obtain ⟨G91, hG92, H93, hs94⟩ := H86.stay (i := 1) rfl (H86.capA (i := 1) rfl)
  obtain ⟨G95, hG96, H97, hs98⟩ := H93.stay (i := 1) rfl (H93.capA (i := 1) rfl)
  obtain ⟨v88, hv89, hl90⟩ := H97.loadv (i := 0) rfl ty29
  have hF := Option.some.inj hF
  subst hF
  exact ret_mk rfl (RV.cell rfl hl90 (RV.tmp rfl (RV.tmp rfl RV.nil))) ⟨_, v88, A5, c6, A10, c11, ((hG85.trans hG92).trans hG96), rfl, (St.pk [] 2 H97 rfl (by decide)), hv89, (hs94.mono hG96), hs98⟩
 intro hM84
 refine any_memo (fuel := 2) (m := 8191) (fun a w => ∃ (T0 : Fr) (G1 : Ghost), a = mk 17 (upds T0 [(2, (pt b14)), (12, (.slice A5 x3.length c6)), (16, (.slice A10 x8.length c11))]) ∧ GLe G G1 ∧ St c G1 w ((.box b14 29 (kTNego.at_ x2)) :: (.row kTPkt g4 A5 c6 32 x3) :: (.row kI g9 A10 c11 3 x8) :: (.box b0 63 (kTnego_workV.at_ (Tnego_workV.mk x2 (.slice A5 x3.length c6) (.slice A10 x8.length c11) x13))) :: σ)) ?_ ?_
 ·rintro a w ⟨T0, G83, rfl, hG81, H82⟩
  refine any_rn (i := 13) (m' := 16383) rfl (rn_pure (.slice A5 x3.length c6) rfl) hPF hns ?_
  exact hM84 _ _ ⟨_, _, frame_eq _ ⟨rfl, rfl, rfl, trivial⟩, hG81, H82⟩
 intro hM80
 refine any_memo (fuel := 3) (m := 8063) (fun a w => ∃ (T0 : Fr) (G1 : Ghost), a = mk 17 (upds T0 [(2, (pt b14)), (11, (pu b0 12)), (16, (.slice A10 x8.length c11))]) ∧ GLe G G1 ∧ St c G1 w ((.box b14 29 (kTNego.at_ x2)) :: (.box b0 63 (kTnego_workV.at_ (Tnego_workV.mk x2 (.slice A5 x3.length c6) (.slice A10 x8.length c11) x13))) :: (.row kTPkt g4 A5 c6 32 x3) :: (.row kI g9 A10 c11 3 x8) :: σ)) ?_ ?_
 ·rintro a w ⟨T0, G79, rfl, hG77, H78⟩
  refine any_alls [7] ⟨any_ops (m' := 8191) fun Q' hN => ?_, trivial⟩
  refine wl_load H78 (i := 1) rfl lTnego_workV_Out ty35 rfl ?_
  intro v99 hv100
  obtain rfl := val_V hv100
  refine wl_nil (hN _ _ ?_)
  exact hM80 _ _ ⟨_, _, frame_eq _ ⟨rfl, rfl, rfl, trivial⟩, hG77, (St.pk [0, 2, 3, 1] 4 H78 rfl (by decide))⟩
 intro hM76
 refine any_memo (fuel := 3) (m := 6143) (fun a w => ∃ (T0 : Fr) (G1 : Ghost), a = mk 17 (upds T0 [(2, (pt b14)), (12, (.slice A5 x3.length c6)), (15, (pu b0 13))]) ∧ GLe G G1 ∧ St c G1 w ((.box b14 29 (kTNego.at_ x2)) :: (.row kTPkt g4 A5 c6 32 x3) :: (.box b0 63 (kTnego_workV.at_ (Tnego_workV.mk x2 (.slice A5 x3.length c6) (.slice A10 x8.length c11) x13))) :: (.row kI g9 A10 c11 3 x8) :: σ)) ?_ ?_
 ·rintro a w ⟨T0, G75, rfl, hG73, H74⟩
  refine any_rn (i := 13) (m' := 14335) rfl (rn_pure (.slice A5 x3.length c6) rfl) hPF hns ?_
  refine any_alls [11] ⟨any_ops (m' := 16383) fun Q' hN => ?_, trivial⟩
  refine wl_load H74 (i := 2) rfl lTnego_workV_Tell ty36 rfl ?_
  intro v101 hv102
  obtain rfl := val_V hv102
  refine wl_nil (hN _ _ ?_)
  exact hM84 _ _ ⟨_, _, frame_eq _ ⟨rfl, rfl, rfl, trivial⟩, hG73, (St.pk [0, 1, 3, 2] 4 H74 rfl (by decide))⟩
 intro hM72
 refine any_memo (fuel := 3) (m := 4095) (fun a w => ∃ (T0 : Fr) (G1 : Ghost) (v68 : Value), a = mk 17 (upds T0 [(2, (pt b14)), (8, v68), (12, (.slice A5 x3.length c6)), (16, (.slice A10 x8.length c11))]) ∧ GLe G G1 ∧ St c G1 w ((.box b14 29 (kTNego.at_ zTNego)) :: (.row kTPkt g4 A5 c6 32 x3) :: (.row kI g9 A10 c11 3 x8) :: (.box b0 63 (kTnego_workV.at_ (Tnego_workV.mk x2 (.slice A5 x3.length c6) (.slice A10 x8.length c11) x13))) :: σ) ∧ kTNego.V G1 v68 x2) ?_ ?_
 ·rintro a w ⟨T0, G67, v68, rfl, hG65, H66, hv69⟩
  refine any_alls [12] ⟨any_ops (m' := 8191) fun Q' hN => ?_, trivial⟩
  refine wl_store (z := x2) H66 (i := 0) rfl (Lens.id kTNego) ty29 rfl rfl hv69 ?_
  intro w104 H103
  refine wl_nil (hN _ _ ?_)
  exact hM80 _ _ ⟨_, _, frame_eq _ ⟨rfl, rfl, rfl, trivial⟩, hG65, H103⟩
 intro hM64
 refine any_memo (fuel := 4) (m := 4087) (fun a w => ∃ (T0 : Fr) (G1 : Ghost), a = mk 17 (upds T0 [(2, (pt b14)), (7, (pt b0)), (12, (.slice A5 x3.length c6)), (16, (.slice A10 x8.length c11))]) ∧ GLe G G1 ∧ St c G1 w ((.box b14 29 (kTNego.at_ zTNego)) :: (.box b0 63 (kTnego_workV.at_ (Tnego_workV.mk x2 (.slice A5 x3.length c6) (.slice A10 x8.length c11) x13))) :: (.row kTPkt g4 A5 c6 32 x3) :: (.row kI g9 A10 c11 3 x8) :: σ)) ?_ ?_
 ·rintro a w ⟨T0, G63, rfl, hG61, H62⟩
  refine any_alls [3] ⟨any_ops (m' := 4095) fun Q' hN => ?_, trivial⟩
  refine wl_load H62 (i := 1) rfl lTnego_workV_Nego ty29 rfl ?_
  intro v105 hv106
  refine wl_nil (hN _ _ ?_)
  exact hM64 _ _ ⟨_, _, v105, frame_eq _ ⟨rfl, rfl, rfl, rfl, trivial⟩, hG61, (St.pk [0, 2, 3, 1] 4 H62 rfl (by decide)), hv106⟩
 intro hM60
 refine any_memo (fuel := 4) (m := 3967) (fun a w => ∃ (T0 : Fr) (G1 : Ghost) (v56 : Value), a = mk 17 (upds T0 [(2, (pt b14)), (8, v56), (11, (pu b0 12)), (16, (.slice A10 x8.length c11))]) ∧ GLe G G1 ∧ St c G1 w ((.box b14 29 (kTNego.at_ zTNego)) :: (.box b0 63 (kTnego_workV.at_ (Tnego_workV.mk x2 (.slice A5 x3.length c6) (.slice A10 x8.length c11) x13))) :: (.row kTPkt g4 A5 c6 32 x3) :: (.row kI g9 A10 c11 3 x8) :: σ) ∧ kTNego.V G1 v56 x2) ?_ ?_
 ·rintro a w ⟨T0, G55, v56, rfl, hG53, H54, hv57⟩
  refine any_alls [7, 12] ⟨?_, ?_, trivial⟩
  ·refine any_ops (m' := 4095) fun Q' hN => ?_
   refine wl_load H54 (i := 1) rfl lTnego_workV_Out ty35 rfl ?_
   intro v107 hv108
   obtain rfl := val_V hv108
   refine wl_nil (hN _ _ ?_)
   exact hM64 _ _ ⟨_, _, v56, frame_eq _ ⟨rfl, rfl, rfl, rfl, trivial⟩, hG53, (St.pk [0, 2, 3, 1] 4 H54 rfl (by decide)), hv57⟩
  ·refine any_ops (m' := 8063) fun Q' hN => ?_
   refine wl_store (z := x2) H54 (i := 0) rfl (Lens.id kTNego) ty29 rfl rfl hv57 ?_
   intro w110 H109
   refine wl_nil (hN _ _ ?_)
   exact hM76 _ _ ⟨_, _, frame_eq _ ⟨rfl, rfl, rfl, trivial⟩, hG53, H109⟩
 intro hM52
 refine any_memo (fuel := 4) (m := 2047) (fun a w => ∃ (T0 : Fr) (G1 : Ghost) (v46 : Value), a = mk 17 (upds T0 [(2, (pt b14)), (8, v46), (12, (.slice A5 x3.length c6)), (15, (pu b0 13))]) ∧ GLe G G1 ∧ St c G1 w ((.box b14 29 (kTNego.at_ zTNego)) :: (.row kTPkt g4 A5 c6 32 x3) :: (.box b0 63 (kTnego_workV.at_ (Tnego_workV.mk x2 (.slice A5 x3.length c6) (.slice A10 x8.length c11) x13))) :: (.row kI g9 A10 c11 3 x8) :: σ) ∧ kTNego.V G1 v46 x2) ?_ ?_
 ·rintro a w ⟨T0, G45, v46, rfl, hG43, H44, hv47⟩
  refine any_alls [11, 12] ⟨?_, ?_, trivial⟩
  ·refine any_ops (m' := 4095) fun Q' hN => ?_
   refine wl_load H44 (i := 2) rfl lTnego_workV_Tell ty36 rfl ?_
   intro v111 hv112
   obtain rfl := val_V hv112
   refine wl_nil (hN _ _ ?_)
   exact hM64 _ _ ⟨_, _, v46, frame_eq _ ⟨rfl, rfl, rfl, rfl, trivial⟩, hG43, (St.pk [0, 1, 3, 2] 4 H44 rfl (by decide)), hv47⟩
  ·refine any_ops (m' := 6143) fun Q' hN => ?_
   refine wl_store (z := x2) H44 (i := 0) rfl (Lens.id kTNego) ty29 rfl rfl hv47 ?_
   intro w114 H113
   refine wl_nil (hN _ _ ?_)
   exact hM72 _ _ ⟨_, _, frame_eq _ ⟨rfl, rfl, rfl, trivial⟩, hG43, H113⟩
 intro hM42
 refine any_rn (i := 0) (m' := 1) rfl (rn_pure (pt b0) rfl) hPF hns ?_
 refine any_rn (i := 1) (m' := 3) rfl (rn_nilCheck rfl) hPF hns ?_
 refine any_rn (i := 2) (m' := 7) rfl (rn_field fo63_0 rfl) hPF hns ?_
 refine any_rn (i := 4) (m' := 23) rfl (rn_pure (pt b0) rfl) hPF hns ?_
 refine any_rn (i := 5) (m' := 55) rfl (rn_nilCheck rfl) hPF hns ?_
 refine any_rn (i := 6) (m' := 119) rfl (rn_field fo63_1 rfl) hPF hns ?_
 refine any_rn (i := 8) (m' := 375) rfl (rn_pure (pt b0) rfl) hPF hns ?_
 refine any_rn (i := 9) (m' := 887) rfl (rn_nilCheck rfl) hPF hns ?_
 refine any_rn (i := 10) (m' := 1911) rfl (rn_field fo63_2 rfl) hPF hns ?_
 refine any_alls [3, 7, 11] ⟨?_, ?_, ?_, trivial⟩
 ·refine any_ops (m' := 1919) fun Q' hN => ?_
  refine wl_load H19 (i := 1) rfl lTnego_workV_Nego ty29 rfl ?_
  intro v115 hv116
  refine wl_nil (hN _ _ ?_)
  refine any_alls [7, 11, 12] ⟨?_, ?_, ?_, trivial⟩
  ·refine any_ops (m' := 2047) fun Q' hN => ?_
   refine wl_load H19 (i := 1) rfl lTnego_workV_Out ty35 rfl ?_
   intro v117 hv118
   obtain rfl := val_V hv118
   refine wl_nil (hN _ _ ?_)
   exact hM42 _ _ ⟨_, _, v115, frame_eq _ ⟨rfl, rfl, rfl, rfl, trivial⟩, GLe.refl _, (St.pk [0, 2, 1, 3] 4 H19 rfl (by decide)), hv116⟩
  ·refine any_ops (m' := 3967) fun Q' hN => ?_
   refine wl_load H19 (i := 1) rfl lTnego_workV_Tell ty36 rfl ?_
   intro v119 hv120
   obtain rfl := val_V hv120
   refine wl_nil (hN _ _ ?_)
   exact hM52 _ _ ⟨_, _, v115, frame_eq _ ⟨rfl, rfl, rfl, rfl, trivial⟩, GLe.refl _, H19, hv116⟩
  ·refine any_ops (m' := 6015) fun Q' hN => ?_
   refine wl_store (z := x2) H19 (i := 0) rfl (Lens.id kTNego) ty29 rfl rfl hv116 ?_
   intro w122 H121
   refine wl_nil (hN _ _ ?_)
   refine any_alls [7, 11] ⟨?_, ?_, trivial⟩
   ·refine any_ops (m' := 6143) fun Q' hN => ?_
    refine wl_load H121 (i := 1) rfl lTnego_workV_Out ty35 rfl ?_
    intro v123 hv124
    obtain rfl := val_V hv124
    refine wl_nil (hN _ _ ?_)
    exact hM72 _ _ ⟨_, _, frame_eq _ ⟨rfl, rfl, rfl, trivial⟩, GLe.refl _, (St.pk [0, 2, 1, 3] 4 H121 rfl (by decide))⟩
   ·refine any_ops (m' := 8063) fun Q' hN => ?_
    refine wl_load H121 (i := 1) rfl lTnego_workV_Tell ty36 rfl ?_
    intro v125 hv126
    obtain rfl := val_V hv126
    refine wl_nil (hN _ _ ?_)
    exact hM76 _ _ ⟨_, _, frame_eq _ ⟨rfl, rfl, rfl, trivial⟩, GLe.refl _, H121⟩
 ·refine any_ops (m' := 2039) fun Q' hN => ?_
  refine wl_load H19 (i := 1) rfl lTnego_workV_Out ty35 rfl ?_
  intro v127 hv128
  obtain rfl := val_V hv128
  refine wl_nil (hN _ _ ?_)
  refine any_alls [3, 11] ⟨?_, ?_, trivial⟩
  ·refine any_ops (m' := 2047) fun Q' hN => ?_
   refine wl_load H19 (i := 1) rfl lTnego_workV_Nego ty29 rfl ?_
   intro v129 hv130
   refine wl_nil (hN _ _ ?_)
   exact hM42 _ _ ⟨_, _, v129, frame_eq _ ⟨rfl, rfl, rfl, rfl, trivial⟩, GLe.refl _, (St.pk [0, 2, 1, 3] 4 H19 rfl (by decide)), hv130⟩
  ·refine any_ops (m' := 4087) fun Q' hN => ?_
   refine wl_load H19 (i := 1) rfl lTnego_workV_Tell ty36 rfl ?_
   intro v131 hv132
   obtain rfl := val_V hv132
   refine wl_nil (hN _ _ ?_)
   exact hM60 _ _ ⟨_, _, frame_eq _ ⟨rfl, rfl, rfl, rfl, trivial⟩, GLe.refl _, H19⟩
 ·refine any_ops (m' := 3959) fun Q' hN => ?_
  refine wl_load H19 (i := 1) rfl lTnego_workV_Tell ty36 rfl ?_
  intro v133 hv134
  obtain rfl := val_V hv134
  refine wl_nil (hN _ _ ?_)
  refine any_alls [3, 7] ⟨?_, ?_, trivial⟩
  ·refine any_ops (m' := 3967) fun Q' hN => ?_
   refine wl_load H19 (i := 1) rfl lTnego_workV_Nego ty29 rfl ?_
   intro v135 hv136
   refine wl_nil (hN _ _ ?_)
   exact hM52 _ _ ⟨_, _, v135, frame_eq _ ⟨rfl, rfl, rfl, rfl, trivial⟩, GLe.refl _, H19, hv136⟩
  ·refine any_ops (m' := 4087) fun Q' hN => ?_
   refine wl_load H19 (i := 1) rfl lTnego_workV_Out ty35 rfl ?_
   intro v137 hv138
   obtain rfl := val_V hv138
   refine wl_nil (hN _ _ ?_)
   exact hM60 _ _ ⟨_, _, frame_eq _ ⟨rfl, rfl, rfl, rfl, trivial⟩, GLe.refl _, H19⟩

theorem nego_Do_ok {c : World} (hc : Hc c) {G : Ghost} {w : World} {σ : List Ent} {a0 : TNego} {v0_ : Value} {a1 : Int} (h0_ : kTNego.V G v0_ a0) (H : St c G w (σ)) {r : (TNego × (List TPkt) × (List Int))} (hF : nego_Do a0 a1 = some r) :
  Calls Tryd.prog 11 ([v0_, (.int .i64 a1)] : List Value).toArray w (Ends fun v w' => ∃ (G' : Ghost) (v1' : Value) (A2' : Option Addr) (c3' : Nat) (A4' : Option Addr) (c5' : Nat), GLe G G' ∧ tup [v1', (.slice A2' r.2.1.length c3'), (.slice A4' r.2.2.length c5')] = v ∧ St c G' w' (σ) ∧ kTNego.V G' v1' r.1 ∧ SlR kTPkt G' A2' c3' r.2.1 ∧ SlR kI G' A4' c5' r.2.2) := by
 unfold nego_Do at hF
 refine calls_mk Tryd.func11 rfl rfl rfl ?_
 refine wp_seq (wc_region ?_)
 refine wl_box (K := kTNego) (x := a0) H rfl h0_ ?_
 intro b1 w4 H2
 refine wl_alloc H2 zr29 ?_
 intro b5 w8 H6
 iterate 2 refine wl_rn (rn_pure (.slice none 0 0) rfl) ?_
 refine wl_nil (then_n (wp_seq (wc_region ?_)))
 refine wl_load H6 (i := 1) rfl (Lens.id kTNego) ty29 rfl ?_
 intro v9 hv10
 refine wl_rnE (rn_build (G := G) zr63V rfl bs63 rfl (Parts.cons fo63_0 lTnego_workV_Nego hv10 (Parts.nil _))) ?_
 intro v11 hv12
 refine wl_box (K := kTnego_workV) (x := (Tnego_workV.mk a0 (.slice none 0 0) (.slice none 0 0) zTPkt)) H6 rfl hv12 ?_
 intro b13 w16 H14
 refine wl_rn (rn_pure (pt b13) rfl) ?_
 refine wl_nil (then_n ?_)
 refine wp_seq (join (fun a w => ∃ (T0 : Fr) (G1 : Ghost) (x50 : TNego) (x51 : (List TPkt)) (x56 : (List Int)) (x61 : TPkt) (g52 : Option Nat) (A53 : Option Addr) (c54 : Nat) (g57 : Option Nat) (A58 : Option Addr) (c59 : Nat), a = mk 26 (upds T0 [(4, (pt b5)), (7, (pt b13))]) ∧ GLe G G1 ∧ St c G1 w ((.box b13 63 (kTnego_workV.at_ (Tnego_workV.mk x50 (.slice A53 x51.length c54) (.slice A58 x56.length c59) x61))) :: (.row kTPkt g52 A53 c54 32 x51) :: (.row kI g57 A58 c59 3 x56) :: (.box b5 29 (kTNego.at_ zTNego)) :: σ) ∧ nego_Do_j1 x50 x51 x56 x61 = some r) ?_ ?_)
 ·rintro a w ⟨T0, G64, x50, x51, x56, x61, g52, A53, c54, g57, A58, c59, rfl, hG62, H63, hF⟩
  refine wp_seq (wc_region ?_)
  refine wl_rn (rn_pure (pt b13) rfl) ?_
  obtain ⟨r65, hr66, hF⟩ := bindS hF
  refine wl_call (vs := [(pt b13)]) en31 rfl (nego_work_told_ok hc H63 hr66) ?_
  rintro v71 w70 ⟨G67, v72, A74, c75, A77, c78, hG68, rfl, H69, hv73, hs76, hs79⟩
  refine wl_rn (rn_pure v72 rfl) ?_
  refine wl_rn (rn_pure (.slice A74 r65.2.1.length c75) rfl) ?_
  refine wl_rn (rn_pure (.slice A77 r65.2.2.length c78) rfl) ?_
  refine wl_store (z := r65.1) H69 (i := 0) rfl (Lens.id kTNego) ty29 rfl rfl hv73 ?_
  intro w81 H80
  refine wl_rn (rn_pure (.slice A74 r65.2.1.length c75) rfl) ?_
  refine wl_rn (rn_pure (.slice A77 r65.2.2.length c78) rfl) ?_
  refine wl_nil (then_n ?_)
  refine wp_ret ?_
  obtain ⟨v82, hv83, hl84⟩ := H80.loadv (i := 0) rfl ty29
  have hF := Option.some.inj hF
  subst hF
  exact ret_mk rfl (RV.cell rfl hl84 (RV.tmp rfl (RV.tmp rfl RV.nil))) ⟨_, v82, A74, c75, A77, c78, (hG62.trans hG68), rfl, (St.pk [] 1 H80 rfl (by decide)), hv83, hs76, hs79⟩
 ·refine wp_seq (join (fun a w => ∃ (T0 : Fr) (G1 : Ghost) (x86 : Bool) (x87 : TNego) (x88 : (List TPkt)) (x93 : (List Int)) (x98 : TPkt) (g89 : Option Nat) (A90 : Option Addr) (c91 : Nat) (g94 : Option Nat) (A95 : Option Addr) (c96 : Nat), a = mk 26 (upds T0 [(1, (.int .i64 a1)), (4, (pt b5)), (7, (pt b13)), (16, (.bool x86))]) ∧ GLe G G1 ∧ St c G1 w ((.box b13 63 (kTnego_workV.at_ (Tnego_workV.mk x87 (.slice A90 x88.length c91) (.slice A95 x93.length c96) x98))) :: (.row kTPkt g89 A90 c91 32 x88) :: (.row kI g94 A95 c96 3 x93) :: (.box b5 29 (kTNego.at_ zTNego)) :: σ) ∧ nego_Do_j2 a1 x86 x87 x88 x93 x98 = some r) ?_ ?_)
  ·rintro a w ⟨T0, G101, x86, x87, x88, x93, x98, g89, A90, c91, g94, A95, c96, rfl, hG99, H100, hF⟩
   rcases bcases x86 with hb102 | hb102
   ·replace hF := ifT hF hb102
    refine wc_true (vb hb102) ?_
    refine wc_region ?_
    refine wl_rn (rn_pure (pt b13) rfl) ?_
    refine wl_rn (rn_pure (.int .i64 a1) rfl) ?_
    refine wl_rnE (rn_build (G := G101) zr32 rfl bs32 rfl (Parts.nil _)) ?_
    intro v103 hv104
    obtain ⟨r105, hr106, hF⟩ := bindS hF
    refine wl_call (vs := [(pt b13), (.int .i64 a1), v103]) en30 rfl (nego_work_event_ok hc hv104 H100 hr106) ?_
    rintro v111 w110 ⟨G107, A112, c113, g115, A116, c117, g118, A119, c120, hG108, rfl, H109, hs114⟩
    refine wl_nil (then_n ?_)
    exact ⟨_, _, r105.2.1, r105.2.2.1, r105.2.2.2.1, r105.2.2.2.2, g115, A116, c117, g118, A119, c120, frame_eq _ ⟨rfl, rfl, trivial⟩, (hG99.trans hG108), H109, hF⟩
   ·replace hF := ifF hF hb102
    refine wc_false (vb hb102) ?_
    refine wp_skip ?_
    refine then_n ?_
    exact ⟨_, _, x87, x88, x93, x98, g89, A90, c91, g94, A95, c96, frame_eq _ ⟨rfl, rfl, trivial⟩, hG99, H100, hF⟩
  ·refine wc_region ?_
   refine wl_rn (rn_pure (.int .i64 a1) rfl) ?_
   iterate 2 refine wl_rn (rn_pure (.bool (decide (a1 ≥ 0))) rfl) ?_
   rcases bcases (decide (a1 ≥ 0)) with hb121 | hb121
   ·replace hF := ifT hF hb121
    refine wl_yes rfl rfl rfl (vb hb121) ?_
    refine wl_rn (rn_pure (.int .i64 a1) rfl) ?_
    refine wl_yes rfl rfl rfl (vb hb121) ?_
    refine wl_rn (rn_pure (.bool (decide (a1 ≤ 3))) rfl) ?_
    refine wl_rn (rn_pickT (.bool (decide (a1 ≤ 3))) (vb hb121) rfl) ?_
    refine wl_nil ?_
    have H122 := H14.nilrow kTPkt none 32
    have H124 := H122.nilrow kI none 3
    refine then_n ?_
    exact ⟨_, _, (decide (a1 ≤ 3)), a0, ([] : (List TPkt)), ([] : (List Int)), zTPkt, none, none, 0, none, none, 0, frame_eq _ ⟨rfl, rfl, rfl, rfl, trivial⟩, GLe.refl _, (St.pk [2, 1, 0, 3] 5 H124 rfl (by decide)), hF⟩
   ·replace hF := ifF hF hb121
    iterate 2 refine wl_no rfl rfl rfl (vb hb121) ?_
    refine wl_rn (rn_pickF (.bool false) (vb hb121) rfl) ?_
    refine wl_nil ?_
    have H126 := H14.nilrow kTPkt none 32
    have H128 := H126.nilrow kI none 3
    refine then_n ?_
    exact ⟨_, _, false, a0, ([] : (List TPkt)), ([] : (List Int)), zTPkt, none, none, 0, none, none, 0, frame_eq _ ⟨rfl, rfl, rfl, rfl, trivial⟩, GLe.refl _, (St.pk [2, 1, 0, 3] 5 H128 rfl (by decide)), hF⟩

theorem pack_codes_ok {c : World} (hc : Hc c) {G : Ghost} {w : World} {σ : List Ent}   (H : St c G w (σ)) {r : Unit} (hF : pack_codes = some r) :
  Calls Tryd.prog 49 ([] : List Value).toArray w (Ends fun v w' => ∃ (G' : Ghost) (r1' : Nat) (v2' : Value) (v3' : Value) (v4' : Value), GLe G G' ∧ tup [(.map (some r1'))] = v ∧ St c G' w' ((.mp r1' [⟨.int .u16 49185, v2', 0⟩, ⟨.int .u16 49699, v3', 1⟩, ⟨.int .u16 32801, v4', 2⟩] 3) :: σ) ∧ (Kd.arr 2 kB).V G' v2' ([1, 11] : (List Int)) ∧ (Kd.arr 2 kB).V G' v3' ([1, 4] : (List Int)) ∧ (Kd.arr 2 kB).V G' v4' ([1, 7] : (List Int))) := by
 unfold pack_codes at hF
 refine calls_mk Tryd.func49 rfl rfl rfl ?_
 refine wp_seq (wc_region ?_)
 refine wl_rn (rn_pure (.map none) rfl) ?_
 refine wl_nil (then_n (wp_seq (wc_region ?_)))
 refine wl_makeMap H ?_
 intro r1 w2 H3
 refine wl_rnE (rn_arr (G := G) (K := kB) (vs := [(.int .u8 1), (.int .u8 11)]) (xs := ([1, 11] : (List Int))) zr88 ar88 ty5 rfl ⟨((dInt .u8).toV _ _), ((dInt .u8).toV _ _), trivial⟩ rfl) ?_
 intro v5 hv6
 refine wl_insert (key := (.int .u16 49185)) (val := v5) H3 (i := 0) rfl mt90 un69 rfl rfl rfl (by simp [Go.MapKept.IsKey]) rfl ?_
 intro w7 H8
 have H9 : St c G w7 ((.mp r1 [⟨.int .u16 49185, v5, 0⟩] 1) :: σ) := H8
 refine wl_rnE (rn_arr (G := G) (K := kB) (vs := [(.int .u8 1), (.int .u8 4)]) (xs := ([1, 4] : (List Int))) zr88 ar88 ty5 rfl ⟨((dInt .u8).toV _ _), ((dInt .u8).toV _ _), trivial⟩ rfl) ?_
 intro v10 hv11
 refine wl_insert (key := (.int .u16 49699)) (val := v10) H9 (i := 0) rfl mt90 un69 rfl rfl rfl (by simp [Go.MapKept.IsKey]) rfl ?_
 intro w12 H13
 have H14 : St c G w12 ((.mp r1 [⟨.int .u16 49185, v5, 0⟩, ⟨.int .u16 49699, v10, 1⟩] 2) :: σ) := H13
 refine wl_rnE (rn_arr (G := G) (K := kB) (vs := [(.int .u8 1), (.int .u8 7)]) (xs := ([1, 7] : (List Int))) zr88 ar88 ty5 rfl ⟨((dInt .u8).toV _ _), ((dInt .u8).toV _ _), trivial⟩ rfl) ?_
 intro v15 hv16
 refine wl_insert (key := (.int .u16 32801)) (val := v15) H14 (i := 0) rfl mt90 un69 rfl rfl rfl (by simp [Go.MapKept.IsKey]) rfl ?_
 intro w17 H18
 have H19 : St c G w17 ((.mp r1 [⟨.int .u16 49185, v5, 0⟩, ⟨.int .u16 49699, v10, 1⟩, ⟨.int .u16 32801, v15, 2⟩] 3) :: σ) := H18
 iterate 2 refine wl_rn (rn_pure (.map (some r1)) rfl) ?_
 refine wl_nil (then_n ?_)
 refine wp_ret ?_
 have hF := Option.some.inj hF
 subst hF
 exact ret_mk rfl (RV.tmp rfl RV.nil) ⟨_, r1, v5, v10, v15, GLe.refl _, rfl, H19, hv6, hv11, hv16⟩

theorem pack_Known_ok {c : World} (hc : Hc c) {G : Ghost} {w : World} {σ : List Ent} {a0 : Int} {a1 : Int}  (H : St c G w (σ)) {r : Bool} (hF : pack_Known a0 a1 = some r) :
  Calls Tryd.prog 34 ([(.int .u16 a0), (.int .u8 a1)] : List Value).toArray w (Ends fun v w' => ∃ (G' : Ghost), GLe G G' ∧ tup [(.bool r)] = v ∧ St c G' w' (σ)) := by
 unfold pack_Known at hF
 refine calls_mk Tryd.func34 rfl rfl rfl ?_
 refine wp_seq (wc_region ?_)
 refine wl_rn (rn_pure (.bool false) rfl) ?_
 refine wl_nil (then_n (wp_seq (wc_region ?_)))
 obtain ⟨r24, hr25, hF⟩ := bindS hF
 refine wl_call (vs := []) en49 rfl (pack_codes_ok hc H hr25) ?_
 rintro v30 w29 ⟨G26, r31, v33, v35, v37, hG27, rfl, H28, hv34, hv36, hv38⟩
 refine wl_rn (rn_pure (.int .u16 a0) rfl) ?_
 refine wl_lookupK (K := (Kd.arr 2 kB)) (vs := [v33, v35, v37]) (xs := [(49185, ([1, 11] : (List Int))), (49699, ([1, 4] : (List Int))), (32801, ([1, 7] : (List Int)))]) H28 ⟨hv34, hv36, hv38, trivial⟩ (i := 0) rfl mt90 un69 rfl rfl zr88 ?_
 intro v39 hv40
 refine wl_rn (rn_pure (.tuple #[v39, (.bool ((lkK ([(49185, ([1, 11] : (List Int))), (49699, ([1, 4] : (List Int))), (32801, ([1, 7] : (List Int)))] : List (Int × (List Int))) a0).isSome))]) rfl) ?_
 refine wl_rn (rn_pure v39 rfl) ?_
 refine wl_rn (rn_pure (.bool ((lkK ([(49185, ([1, 11] : (List Int))), (49699, ([1, 4] : (List Int))), (32801, ([1, 7] : (List Int)))] : List (Int × (List Int))) a0).isSome)) rfl) ?_
 refine wl_alloc H28 zr88 ?_
 intro b41 w44 H42
 refine wl_store (z := ((lkK ([(49185, ([1, 11] : (List Int))), (49699, ([1, 4] : (List Int))), (32801, ([1, 7] : (List Int)))] : List (Int × (List Int))) a0).getD (List.replicate 2 0))) H42 (i := 0) rfl (Lens.id (Kd.arr 2 kB)) ty88 rfl rfl hv40 ?_
 intro w46 H45
 refine wl_rn (rn_pure (.bool ((lkK ([(49185, ([1, 11] : (List Int))), (49699, ([1, 4] : (List Int))), (32801, ([1, 7] : (List Int)))] : List (Int × (List Int))) a0).isSome)) rfl) ?_
 refine wl_nil (then_n (wp_seq (wc_region ?_)))
 iterate 2 refine wl_rn (rn_pure (.bool ((lkK ([(49185, ([1, 11] : (List Int))), (49699, ([1, 4] : (List Int))), (32801, ([1, 7] : (List Int)))] : List (Int × (List Int))) a0).isSome)) rfl) ?_
 rcases bcases ((lkK ([(49185, ([1, 11] : (List Int))), (49699, ([1, 4] : (List Int))), (32801, ([1, 7] : (List Int)))] : List (Int × (List Int))) a0).isSome) with hb47 | hb47
 ·replace hF := ifT hF hb47
  refine wl_yes rfl rfl rfl (vb hb47) ?_
  refine wl_rn (rn_pure (.int .u8 a1) rfl) ?_
  refine wl_yes rfl rfl rfl (vb hb47) ?_
  refine wl_rn (rn_indexA ar88 ty5 rfl rfl (by decide) (by decide)) ?_
  refine wl_yes rfl rfl rfl (vb hb47) ?_
  refine wl_loadd H45 (i := 0) rfl (Lens.elt kB 2 0 0 rfl) (dInt .u8) ty5 rfl ?_
  refine wl_yes rfl rfl rfl (vb hb47) ?_
  refine wl_rn (rn_pure (.bool (decide (a1 ≥ (((lkK ([(49185, ([1, 11] : (List Int))), (49699, ([1, 4] : (List Int))), (32801, ([1, 7] : (List Int)))] : List (Int × (List Int))) a0).getD (List.replicate 2 0)).getD 0 0)))) rfl) ?_
  refine wl_rn (rn_pickT (.bool (decide (a1 ≥ (((lkK ([(49185, ([1, 11] : (List Int))), (49699, ([1, 4] : (List Int))), (32801, ([1, 7] : (List Int)))] : List (Int × (List Int))) a0).getD (List.replicate 2 0)).getD 0 0)))) (vb hb47) rfl) ?_
  refine wl_rn (rn_pure (.bool (decide (a1 ≥ (((lkK ([(49185, ([1, 11] : (List Int))), (49699, ([1, 4] : (List Int))), (32801, ([1, 7] : (List Int)))] : List (Int × (List Int))) a0).getD (List.replicate 2 0)).getD 0 0)))) rfl) ?_
  rcases bcases (decide (a1 ≥ (((lkK ([(49185, ([1, 11] : (List Int))), (49699, ([1, 4] : (List Int))), (32801, ([1, 7] : (List Int)))] : List (Int × (List Int))) a0).getD (List.replicate 2 0)).getD 0 0))) with hb48 | hb48
  ·replace hF := ifT hF hb48
   refine wl_yes rfl rfl rfl (vb hb48) ?_
   refine wl_rn (rn_pure (.int .u8 a1) rfl) ?_
   refine wl_yes rfl rfl rfl (vb hb48) ?_
   refine wl_rn (rn_indexA ar88 ty5 rfl rfl (by decide) (by decide)) ?_
   refine wl_yes rfl rfl rfl (vb hb48) ?_
   refine wl_loadd H45 (i := 0) rfl (Lens.elt kB 2 1 0 rfl) (dInt .u8) ty5 rfl ?_
   refine wl_yes rfl rfl rfl (vb hb48) ?_
   refine wl_rn (rn_pure (.bool (decide (a1 ≤ (((lkK ([(49185, ([1, 11] : (List Int))), (49699, ([1, 4] : (List Int))), (32801, ([1, 7] : (List Int)))] : List (Int × (List Int))) a0).getD (List.replicate 2 0)).getD 1 0)))) rfl) ?_
   refine wl_rn (rn_pickT (.bool (decide (a1 ≤ (((lkK ([(49185, ([1, 11] : (List Int))), (49699, ([1, 4] : (List Int))), (32801, ([1, 7] : (List Int)))] : List (Int × (List Int))) a0).getD (List.replicate 2 0)).getD 1 0)))) (vb hb48) rfl) ?_
   refine wl_rn (rn_pure (.bool (decide (a1 ≤ (((lkK ([(49185, ([1, 11] : (List Int))), (49699, ([1, 4] : (List Int))), (32801, ([1, 7] : (List Int)))] : List (Int × (List Int))) a0).getD (List.replicate 2 0)).getD 1 0)))) rfl) ?_
   refine wl_nil (then_n ?_)
   refine wp_ret ?_
   have hF := Option.some.inj hF
   subst hF
   exact ret_mk rfl (RV.tmp rfl RV.nil) ⟨_, hG27, rfl, (St.pk [] 2 H45 rfl (by decide))⟩
  ·replace hF := ifF hF hb48
   iterate 4 refine wl_no rfl rfl rfl (vb hb48) ?_
   refine wl_rn (rn_pickF (.bool false) (vb hb48) rfl) ?_
   refine wl_rn (rn_pure (.bool false) rfl) ?_
   refine wl_nil (then_n ?_)
   refine wp_ret ?_
   have hF := Option.some.inj hF
   subst hF
   exact ret_mk rfl (RV.tmp rfl RV.nil) ⟨_, hG27, rfl, (St.pk [] 2 H45 rfl (by decide))⟩
 ·replace hF := ifF hF hb47
  iterate 4 refine wl_no rfl rfl rfl (vb hb47) ?_
  refine wl_rn (rn_pickF (.bool false) (vb hb47) rfl) ?_
  refine wl_rn (rn_pure (.bool false) rfl) ?_
  iterate 4 refine wl_no rfl rfl rfl rfl ?_
  refine wl_rn (rn_pickF (.bool false) rfl rfl) ?_
  refine wl_rn (rn_pure (.bool false) rfl) ?_
  refine wl_nil (then_n ?_)
  refine wp_ret ?_
  have hF := Option.some.inj hF
  subst hF
  exact ret_mk rfl (RV.tmp rfl RV.nil) ⟨_, hG27, rfl, (St.pk [] 2 H45 rfl (by decide))⟩

theorem pack_Bytes_ok {c : World} (hc : Hc c) {G : Ghost} {w : World} {σ : List Ent} {a0 : TPkt} {v0_ : Value} (h0_ : kTPkt.V G v0_ a0) (H : St c G w (σ)) {r : ((List Int) × Int)} (hF : pack_Bytes a0 = some r) :
  Calls Tryd.prog 50 ([v0_] : List Value).toArray w (Ends fun v w' => ∃ (G' : Ghost) (A1' : Option Addr) (c2' : Nat), GLe G G' ∧ tup [(.slice A1' r.1.length c2'), (.int .i64 r.2)] = v ∧ St c G' w' (σ) ∧ SlR kB G' A1' c2' r.1) := by
 unfold pack_Bytes at hF
 refine calls_mk Tryd.func50 rfl rfl rfl ?_
 refine wp_seq (wc_region ?_)
 refine wl_box (K := kTPkt) (x := a0) H rfl h0_ ?_
 intro b1 w4 H2
 refine wl_rn (rn_pure (.slice none 0 0) rfl) ?_
 refine wl_rn (rn_pure (.int .i64 0) rfl) ?_
 refine wl_nil (then_n (wp_seq (wc_region ?_)))
 refine wl_rn (rn_field fo32_2 rfl) ?_
 refine wl_load H2 (i := 0) rfl lTPkt_Data ty30 rfl ?_
 intro v5 hv6
 obtain ⟨A7, c8, rfl, hs9⟩ := slice_V hv6
 refine wl_rn (rn_len sl30 rfl) ?_
 iterate 2 refine wl_rn (rn_pure (.int .i64 (IntKind.i64.wrap ((a0.Data.length : Int) + 4))) rfl) ?_
 refine wl_nil (then_n ?_)
 refine wp_seq ?_
 refine wp_seq (wc_region ?_)
 refine wl_rn (rn_pure (.int .i64 (IntKind.i64.wrap ((a0.Data.length : Int) + 4))) rfl) ?_
 refine wl_rn (rn_pure (.bool (decide ((IntKind.i64.wrap ((a0.Data.length : Int) + 4)) > 1500))) rfl) ?_
 refine wl_nil (then_n ?_)
 rcases bcases (decide ((IntKind.i64.wrap ((a0.Data.length : Int) + 4)) > 1500)) with hb10 | hb10
 ·replace hF := ifT hF hb10
  refine wc_true (vb hb10) ?_
  refine wp_seq (wc_region ?_)
  refine wl_rn (rn_pure (.slice none 0 0) rfl) ?_
  refine wl_rn (rn_pure (.int .i64 1) rfl) ?_
  refine wl_nil (then_n ?_)
  refine wp_ret ?_
  refine then_r ?_
  have hF := Option.some.inj hF
  subst hF
  exact ret_mk rfl (RV.tmp rfl (RV.tmp rfl RV.nil)) ⟨_, none, 0, GLe.refl _, rfl, (St.pk [] 1 H2 rfl (by decide)), (SlR.nil _ _)⟩
 ·replace hF := ifF hF hb10
  refine wc_false (vb hb10) ?_
  refine wp_skip ?_
  refine then_n ?_
  refine wp_seq (wc_region ?_)
  refine wl_rn (rn_field fo32_0 rfl) ?_
  refine wl_loadd H2 (i := 0) rfl lTPkt_Code (dInt .u8) ty5 rfl ?_
  refine wl_rn (rn_field fo32_1 rfl) ?_
  refine wl_loadd H2 (i := 0) rfl lTPkt_Id (dInt .u8) ty5 rfl ?_
  refine wl_rn (rn_pure (.int .i64 (IntKind.i64.wrap ((a0.Data.length : Int) + 4))) rfl) ?_
  refine wl_rn (rn_pure (.int .i64 (sShr .i64 (IntKind.i64.wrap ((a0.Data.length : Int) + 4)) 8)) rfl) ?_
  refine wl_rn (rn_convert un3 un5 rfl) ?_
  refine wl_rn (rn_pure (.int .i64 (IntKind.i64.wrap ((a0.Data.length : Int) + 4))) rfl) ?_
  refine wl_rn (rn_convert un3 un5 rfl) ?_
  refine wl_lit (K := kB) (vs := [(.int .u8 a0.Code), (.int .u8 a0.Id), (.int .u8 (IntKind.u8.wrap ((sShr .i64 (IntKind.i64.wrap ((a0.Data.length : Int) + 4)) 8)))), (.int .u8 (IntKind.u8.wrap ((IntKind.i64.wrap ((a0.Data.length : Int) + 4)))))]) (xs := ([a0.Code, a0.Id, (IntKind.u8.wrap ((sShr .i64 (IntKind.i64.wrap ((a0.Data.length : Int) + 4)) 8))), (IntKind.u8.wrap ((IntKind.i64.wrap ((a0.Data.length : Int) + 4))))] : (List Int))) H2 sl30 el5 rfl ⟨((dInt .u8).toV _ _), ((dInt .u8).toV _ _), ((dInt .u8).toV _ _), ((dInt .u8).toV _ _), trivial⟩ rfl (by decide) ?_
  intro g11 w13 H12
  refine wl_rn (rn_field fo32_2 rfl) ?_
  refine wl_load H12 (i := 1) rfl lTPkt_Data ty30 rfl ?_
  intro v15 hv16
  obtain ⟨A17, c18, rfl, hs19⟩ := slice_V hv16
  obtain ⟨r20, hr21, hF⟩ := bindS hF
  refine wl_append H12 sl30 el5 (i := 0) rfl rfl rfl (hs19.src H12.ag) hr21 ?_
  intro g22 A23 c24 w25 H26
  refine wl_rn (rn_pure (.slice A23 r20.length c24) rfl) ?_
  refine wl_rn (rn_pure (.int .i64 0) rfl) ?_
  refine wl_nil (then_n ?_)
  refine wp_ret ?_
  obtain ⟨G27, hG28, H29, hs30⟩ := H26.stay (i := 0) rfl (H26.capA (i := 0) rfl)
  have hF := Option.some.inj hF
  subst hF
  exact ret_mk rfl (RV.tmp rfl (RV.tmp rfl RV.nil)) ⟨_, A23, c24, hG28, rfl, (St.pk [] 1 H29 rfl (by decide)), hs30⟩

theorem pack_short_ok {c : World} (hc : Hc c) {G : Ghost} {w : World} {σ : List Ent} {a0 : (List Int)} {A0_ : Option Addr} {c0_ : Nat} (h0_ : SlR kB G A0_ c0_ a0) (H : St c G w (σ)) {r : (List Int)} (hF : pack_short a0 = some r) :
  Calls Tryd.prog 51 ([(.slice A0_ a0.length c0_)] : List Value).toArray w (Ends fun v w' => ∃ (G' : Ghost) (A1' : Option Addr) (c2' : Nat), GLe G G' ∧ tup [(.slice A1' r.length c2')] = v ∧ St c G' w' (σ) ∧ SlR kB G' A1' c2' r) := by
 unfold pack_short at hF
 refine calls_mk Tryd.func51 rfl rfl rfl ?_
 refine wp_seq (wc_region ?_)
 refine wl_rn (rn_pure (.slice none 0 0) rfl) ?_
 refine wl_nil (then_n (wp_seq (wc_region ?_)))
 refine wl_rn (rn_pure (.slice A0_ a0.length c0_) rfl) ?_
 refine wl_rn (rn_len sl30 rfl) ?_
 refine wl_rn (rn_min rfl rfl) ?_
 refine wl_rn (rn_pure (.int .i64 (if 1496 < (a0.length : Int) then 1496 else (a0.length : Int))) rfl) ?_
 refine wl_nil (then_n (wp_seq (wc_region ?_)))
 refine wl_rn (rn_pure (.slice A0_ a0.length c0_) rfl) ?_
 iterate 2 refine wl_rn (rn_pure (.int .i64 (if 1496 < (a0.length : Int) then 1496 else (a0.length : Int))) rfl) ?_
 obtain ⟨r1, hr2, hF⟩ := bindS hF
 refine wl_rnE (rn_cutm (lo := none) h0_ sl30 ty5 rfl trivial rfl rfl hr2) ?_
 intro z3 hs4
 refine wl_rn (rn_pure (.slice z3.1 r1.length z3.2) rfl) ?_
 refine wl_nil (then_n ?_)
 refine wp_ret ?_
 have hF := Option.some.inj hF
 subst hF
 exact ret_mk rfl (RV.tmp rfl RV.nil) ⟨_, z3.1, z3.2, GLe.refl _, rfl, H, hs4⟩

theorem pack_Reject_ok {c : World} (hc : Hc c) {G : Ghost} {w : World} {σ : List Ent} {a0 : TPkt} {v0_ : Value} {a1 : Int} (h0_ : kTPkt.V G v0_ a0) (H : St c G w (σ)) {r : TPkt} (hF : pack_Reject a0 a1 = some r) :
  Calls Tryd.prog 35 ([v0_, (.int .u8 a1)] : List Value).toArray w (Ends fun v w' => ∃ (G' : Ghost) (v1' : Value), GLe G G' ∧ tup [v1'] = v ∧ St c G' w' (σ) ∧ kTPkt.V G' v1' r) := by
 unfold pack_Reject at hF
 refine calls_mk Tryd.func35 rfl rfl rfl ?_
 refine wp_seq (wc_region ?_)
 refine wl_box (K := kTPkt) (x := a0) H rfl h0_ ?_
 intro b1 w4 H2
 refine wl_alloc H2 zr32 ?_
 intro b5 w8 H6
 refine wl_nil (then_n (wp_seq (wc_region ?_)))
 refine wl_load H6 (i := 1) rfl (Lens.id kTPkt) ty32 rfl ?_
 intro v9 hv10
 obtain ⟨r11, hr12, hF⟩ := bindS hF
 refine wl_call (vs := [v9]) en50 rfl (pack_Bytes_ok hc hv10 H6 hr12) ?_
 rintro v17 w16 ⟨G13, A18, c19, hG14, rfl, H15, hs20⟩
 refine wl_rn (rn_pure (.tuple #[(.slice A18 r11.1.length c19), (.int .i64 r11.2)]) rfl) ?_
 refine wl_rn (rn_pure (.slice A18 r11.1.length c19) rfl) ?_
 refine wl_rn (rn_pure (.int .i64 r11.2) rfl) ?_
 refine wl_rn (rn_pure (.slice A18 r11.1.length c19) rfl) ?_
 refine wl_rn (rn_pure (.int .i64 r11.2) rfl) ?_
 refine wl_nil (then_n (wp_seq (wc_region ?_)))
 refine wl_rn (rn_pure (.int .u8 a1) rfl) ?_
 refine wl_rn (rn_pure (.slice A18 r11.1.length c19) rfl) ?_
 obtain ⟨r21, hr22, hF⟩ := bindS hF
 refine wl_call (vs := [(.slice A18 r11.1.length c19)]) en51 rfl (pack_short_ok hc hs20 H15 hr22) ?_
 rintro v27 w26 ⟨G23, A28, c29, hG24, rfl, H25, hs30⟩
 refine wl_rnE (rn_build (G := G23) zr32 rfl bs32 rfl (Parts.cons fo32_0 lTPkt_Code ((dInt .u8).toV _ _) (Parts.cons fo32_1 lTPkt_Id ((dInt .u8).toV _ _) (Parts.cons fo32_2 lTPkt_Data (slice_toV hs30) (Parts.nil _))))) ?_
 intro v31 hv32
 refine wl_store (z := (TPkt.mk 7 a1 r21)) H25 (i := 0) rfl (Lens.id kTPkt) ty32 rfl rfl hv32 ?_
 intro w34 H33
 refine wl_nil (then_n ?_)
 refine wp_ret ?_
 obtain ⟨v35, hv36, hl37⟩ := H33.loadv (i := 0) rfl ty32
 have hF := Option.some.inj hF
 subst hF
 exact ret_mk rfl (RV.cell rfl hl37 RV.nil) ⟨_, v35, (hG14.trans hG24), rfl, (St.pk [] 2 H33 rfl (by decide)), hv36⟩

theorem nego_codes_ok {c : World} (hc : Hc c) {G : Ghost} {w : World} {σ : List Ent}   (H : St c G w (σ)) {r : Unit} (hF : nego_codes = some r) :
  Calls Tryd.prog 36 ([] : List Value).toArray w (Ends fun v w' => ∃ (G' : Ghost) (r1' : Nat), GLe G G' ∧ tup [(.map (some r1'))] = v ∧ St c G' w' ((.mp r1' [⟨.int .u8 1, (.func (.func 52) #[] #[]), 0⟩, ⟨.int .u8 2, (.func (.func 53) #[] #[]), 1⟩, ⟨.int .u8 3, (.func (.func 54) #[] #[]), 2⟩, ⟨.int .u8 4, (.func (.func 54) #[] #[]), 3⟩, ⟨.int .u8 5, (.func (.func 55) #[] #[]), 4⟩, ⟨.int .u8 6, (.func (.func 56) #[] #[]), 5⟩, ⟨.int .u8 7, (.func (.func 57) #[] #[]), 6⟩, ⟨.int .u8 8, (.func (.func 58) #[] #[]), 7⟩, ⟨.int .u8 9, (.func (.func 59) #[] #[]), 8⟩, ⟨.int .u8 10, (.func (.func 60) #[] #[]), 9⟩, ⟨.int .u8 11, (.func (.func 60) #[] #[]), 10⟩] 11) :: σ)) := by
 unfold nego_codes at hF
 refine calls_mk Tryd.func36 rfl rfl rfl ?_
 refine wp_seq (wc_region ?_)
 refine wl_rn (rn_pure (.map none) rfl) ?_
 refine wl_nil (then_n (wp_seq (wc_region ?_)))
 refine wl_makeMap H ?_
 intro r1 w2 H3
 refine wl_insert (key := (.int .u8 1)) (val := (.func (.func 52) #[] #[])) H3 (i := 0) rfl mt73 un5 rfl rfl rfl (by simp [Go.MapKept.IsKey]) rfl ?_
 intro w5 H6
 have H7 : St c G w5 ((.mp r1 [⟨.int .u8 1, (.func (.func 52) #[] #[]), 0⟩] 1) :: σ) := H6
 refine wl_insert (key := (.int .u8 2)) (val := (.func (.func 53) #[] #[])) H7 (i := 0) rfl mt73 un5 rfl rfl rfl (by simp [Go.MapKept.IsKey]) rfl ?_
 intro w8 H9
 have H10 : St c G w8 ((.mp r1 [⟨.int .u8 1, (.func (.func 52) #[] #[]), 0⟩, ⟨.int .u8 2, (.func (.func 53) #[] #[]), 1⟩] 2) :: σ) := H9
 refine wl_insert (key := (.int .u8 3)) (val := (.func (.func 54) #[] #[])) H10 (i := 0) rfl mt73 un5 rfl rfl rfl (by simp [Go.MapKept.IsKey]) rfl ?_
 intro w11 H12
 have H13 : St c G w11 ((.mp r1 [⟨.int .u8 1, (.func (.func 52) #[] #[]), 0⟩, ⟨.int .u8 2, (.func (.func 53) #[] #[]), 1⟩, ⟨.int .u8 3, (.func (.func 54) #[] #[]), 2⟩] 3) :: σ) := H12
 refine wl_insert (key := (.int .u8 4)) (val := (.func (.func 54) #[] #[])) H13 (i := 0) rfl mt73 un5 rfl rfl rfl (by simp [Go.MapKept.IsKey]) rfl ?_
 intro w14 H15
 have H16 : St c G w14 ((.mp r1 [⟨.int .u8 1, (.func (.func 52) #[] #[]), 0⟩, ⟨.int .u8 2, (.func (.func 53) #[] #[]), 1⟩, ⟨.int .u8 3, (.func (.func 54) #[] #[]), 2⟩, ⟨.int .u8 4, (.func (.func 54) #[] #[]), 3⟩] 4) :: σ) := H15
 refine wl_insert (key := (.int .u8 5)) (val := (.func (.func 55) #[] #[])) H16 (i := 0) rfl mt73 un5 rfl rfl rfl (by simp [Go.MapKept.IsKey]) rfl ?_
 intro w17 H18
 have H19 : St c G w17 ((.mp r1 [⟨.int .u8 1, (.func (.func 52) #[] #[]), 0⟩, ⟨.int .u8 2, (.func (.func 53) #[] #[]), 1⟩, ⟨.int .u8 3, (.func (.func 54) #[] #[]), 2⟩, ⟨.int .u8 4, (.func (.func 54) #[] #[]), 3⟩, ⟨.int .u8 5, (.func (.func 55) #[] #[]), 4⟩] 5) :: σ) := H18
 refine wl_insert (key := (.int .u8 6)) (val := (.func (.func 56) #[] #[])) H19 (i := 0) rfl mt73 un5 rfl rfl rfl (by simp [Go.MapKept.IsKey]) rfl ?_
 intro w20 H21
 have H22 : St c G w20 ((.mp r1 [⟨.int .u8 1, (.func (.func 52) #[] #[]), 0⟩, ⟨.int .u8 2, (.func (.func 53) #[] #[]), 1⟩, ⟨.int .u8 3, (.func (.func 54) #[] #[]), 2⟩, ⟨.int .u8 4, (.func (.func 54) #[] #[]), 3⟩, ⟨.int .u8 5, (.func (.func 55) #[] #[]), 4⟩, ⟨.int .u8 6, (.func (.func 56) #[] #[]), 5⟩] 6) :: σ) := H21
 refine wl_insert (key := (.int .u8 7)) (val := (.func (.func 57) #[] #[])) H22 (i := 0) rfl mt73 un5 rfl rfl rfl (by simp [Go.MapKept.IsKey]) rfl ?_
 intro w23 H24
 have H25 : St c G w23 ((.mp r1 [⟨.int .u8 1, (.func (.func 52) #[] #[]), 0⟩, ⟨.int .u8 2, (.func (.func 53) #[] #[]), 1⟩, ⟨.int .u8 3, (.func (.func 54) #[] #[]), 2⟩, ⟨.int .u8 4, (.func (.func 54) #[] #[]), 3⟩, ⟨.int .u8 5, (.func (.func 55) #[] #[]), 4⟩, ⟨.int .u8 6, (.func (.func 56) #[] #[]), 5⟩, ⟨.int .u8 7, (.func (.func 57) #[] #[]), 6⟩] 7) :: σ) := H24
 refine wl_insert (key := (.int .u8 8)) (val := (.func (.func 58) #[] #[])) H25 (i := 0) rfl mt73 un5 rfl rfl rfl (by simp [Go.MapKept.IsKey]) rfl ?_
 intro w26 H27
 have H28 : St c G w26 ((.mp r1 [⟨.int .u8 1, (.func (.func 52) #[] #[]), 0⟩, ⟨.int .u8 2, (.func (.func 53) #[] #[]), 1⟩, ⟨.int .u8 3, (.func (.func 54) #[] #[]), 2⟩, ⟨.int .u8 4, (.func (.func 54) #[] #[]), 3⟩, ⟨.int .u8 5, (.func (.func 55) #[] #[]), 4⟩, ⟨.int .u8 6, (.func (.func 56) #[] #[]), 5⟩, ⟨.int .u8 7, (.func (.func 57) #[] #[]), 6⟩, ⟨.int .u8 8, (.func (.func 58) #[] #[]), 7⟩] 8) :: σ) := H27
 refine wl_insert (key := (.int .u8 9)) (val := (.func (.func 59) #[] #[])) H28 (i := 0) rfl mt73 un5 rfl rfl rfl (by simp [Go.MapKept.IsKey]) rfl ?_
 intro w29 H30
 have H31 : St c G w29 ((.mp r1 [⟨.int .u8 1, (.func (.func 52) #[] #[]), 0⟩, ⟨.int .u8 2, (.func (.func 53) #[] #[]), 1⟩, ⟨.int .u8 3, (.func (.func 54) #[] #[]), 2⟩, ⟨.int .u8 4, (.func (.func 54) #[] #[]), 3⟩, ⟨.int .u8 5, (.func (.func 55) #[] #[]), 4⟩, ⟨.int .u8 6, (.func (.func 56) #[] #[]), 5⟩, ⟨.int .u8 7, (.func (.func 57) #[] #[]), 6⟩, ⟨.int .u8 8, (.func (.func 58) #[] #[]), 7⟩, ⟨.int .u8 9, (.func (.func 59) #[] #[]), 8⟩] 9) :: σ) := H30
 refine wl_insert (key := (.int .u8 10)) (val := (.func (.func 60) #[] #[])) H31 (i := 0) rfl mt73 un5 rfl rfl rfl (by simp [Go.MapKept.IsKey]) rfl ?_
 intro w32 H33
 have H34 : St c G w32 ((.mp r1 [⟨.int .u8 1, (.func (.func 52) #[] #[]), 0⟩, ⟨.int .u8 2, (.func (.func 53) #[] #[]), 1⟩, ⟨.int .u8 3, (.func (.func 54) #[] #[]), 2⟩, ⟨.int .u8 4, (.func (.func 54) #[] #[]), 3⟩, ⟨.int .u8 5, (.func (.func 55) #[] #[]), 4⟩, ⟨.int .u8 6, (.func (.func 56) #[] #[]), 5⟩, ⟨.int .u8 7, (.func (.func 57) #[] #[]), 6⟩, ⟨.int .u8 8, (.func (.func 58) #[] #[]), 7⟩, ⟨.int .u8 9, (.func (.func 59) #[] #[]), 8⟩, ⟨.int .u8 10, (.func (.func 60) #[] #[]), 9⟩] 10) :: σ) := H33
 refine wl_insert (key := (.int .u8 11)) (val := (.func (.func 60) #[] #[])) H34 (i := 0) rfl mt73 un5 rfl rfl rfl (by simp [Go.MapKept.IsKey]) rfl ?_
 intro w35 H36
 have H37 : St c G w35 ((.mp r1 [⟨.int .u8 1, (.func (.func 52) #[] #[]), 0⟩, ⟨.int .u8 2, (.func (.func 53) #[] #[]), 1⟩, ⟨.int .u8 3, (.func (.func 54) #[] #[]), 2⟩, ⟨.int .u8 4, (.func (.func 54) #[] #[]), 3⟩, ⟨.int .u8 5, (.func (.func 55) #[] #[]), 4⟩, ⟨.int .u8 6, (.func (.func 56) #[] #[]), 5⟩, ⟨.int .u8 7, (.func (.func 57) #[] #[]), 6⟩, ⟨.int .u8 8, (.func (.func 58) #[] #[]), 7⟩, ⟨.int .u8 9, (.func (.func 59) #[] #[]), 8⟩, ⟨.int .u8 10, (.func (.func 60) #[] #[]), 9⟩, ⟨.int .u8 11, (.func (.func 60) #[] #[]), 10⟩] 11) :: σ) := H36
 iterate 2 refine wl_rn (rn_pure (.map (some r1)) rfl) ?_
 refine wl_nil (then_n ?_)
 refine wp_ret ?_
 have hF := Option.some.inj hF
 subst hF
 exact ret_mk rfl (RV.tmp rfl RV.nil) ⟨_, r1, GLe.refl _, rfl, H37⟩

theorem opts_parts_ok {c : World} (hc : Hc c) {G : Ghost} {w : World} {σ : List Ent} {a0 : (List Int)} {A0_ : Option Addr} {c0_ : Nat} (h0_ : SlR kB G A0_ c0_ a0) (H : St c G w (σ)) {r : (List Int)} (hF : opts_parts a0 = some r) :
  Calls Tryd.prog 86 ([(.slice A0_ a0.length c0_)] : List Value).toArray w (Ends fun v w' => ∃ (G' : Ghost) (b1' : Nat), GLe G G' ∧ tup [(.func (.func 95) #[] #[(.pointer (some ⟨b1', 0, none⟩))])] = v ∧ St c G' w' ((.box b1' 30 (kBs.at_ r)) :: σ)) := by
 unfold opts_parts at hF
 refine calls_mk Tryd.func86 rfl rfl rfl ?_
 refine wp_seq (wc_region ?_)
 refine wl_box (K := kBs) (x := a0) H rfl (slice_toV h0_) ?_
 intro b1 w4 H2
 refine wl_rn (rn_pure (.nilFunc) rfl) ?_
 refine wl_nil (then_n (wp_seq (wc_region ?_)))
 iterate 2 refine wl_rn (rn_pure (.func (.func 95) #[] #[(pt b1)]) rfl) ?_
 refine wl_nil (then_n ?_)
 refine wp_ret ?_
 have hF := Option.some.inj hF
 subst hF
 exact ret_mk rfl (RV.tmp rfl RV.nil) ⟨_, b1, GLe.refl _, rfl, H2⟩

structure RdOk_opts_Read (c : World) (l fn : Nat) (tm : Array Value) (asg bdy : Code) (D bo br0 br1 : Nat) : Prop where
 yt : ∀ {G : Ghost} {w : World} {σ : List Ent} {u : Value} {o : TOpt} {g : Option Nat} {A : Option Addr} {cp : Nat} {x : (List TOpt)} {y0 : (List TOpt)} {y1 : Int} {r : ((List TOpt) × (List TOpt) × Int)}, kTOpt.V G u o → St c G w (.ob l (LR true fn tm 9 10 asg bdy D) :: .box bo 27 (Kd.val.at_ (.slice A x.length cp)) :: .row kTOpt g A cp 60 x :: .box br0 27 ((Kd.slice kTOpt).at_ y0) :: .box br1 79 (kI.at_ y1) :: σ) → rd_opts_Read_t o x y0 y1 = some r →
  RoundIn Fence.wide 0 Tryd.prog l (LRl true fn tm 9 10 asg bdy D).fn (((LRl true fn tm 9 10 asg bdy D).params.zip #[u, .bool true]).foldl (fun t (x : Nat × Value) => t.setIfInBounds x.1 x.2) (LRl true fn tm 9 10 asg bdy D).tmps) (LRl true fn tm 9 10 asg bdy D).assign (LRl true fn tm 9 10 asg bdy D).body w (fun e w' => ∃ v, e = .returned v ∧ (v = .bool true ∧ ∃ (G' : Ghost) (g' : Option Nat) (A' : Option Addr) (cp' : Nat), GLe G G' ∧ St c G' w' (.ob l (LR true fn tm 9 10 asg bdy D) :: .box bo 27 (Kd.val.at_ (.slice A' r.1.length cp')) :: .row kTOpt g' A' cp' 60 r.1 :: .box br0 27 ((Kd.slice kTOpt).at_ r.2.1) :: .box br1 79 (kI.at_ r.2.2) :: σ)))
 yf : ∀ {G : Ghost} {w : World} {σ : List Ent} {u : Value} {o : TOpt} {g : Option Nat} {A : Option Addr} {cp : Nat} {x : (List TOpt)} {y0 : (List TOpt)} {y1 : Int} {r : ((List TOpt) × (List TOpt) × Int)}, kTOpt.V G u o → St c G w (.ob l (LR true fn tm 9 10 asg bdy D) :: .box bo 27 (Kd.val.at_ (.slice A x.length cp)) :: .row kTOpt g A cp 60 x :: .box br0 27 ((Kd.slice kTOpt).at_ y0) :: .box br1 79 (kI.at_ y1) :: σ) → rd_opts_Read_f o x y0 y1 = some r →
  RoundIn Fence.wide 0 Tryd.prog l (LRl true fn tm 9 10 asg bdy D).fn (((LRl true fn tm 9 10 asg bdy D).params.zip #[u, .bool false]).foldl (fun t (x : Nat × Value) => t.setIfInBounds x.1 x.2) (LRl true fn tm 9 10 asg bdy D).tmps) (LRl true fn tm 9 10 asg bdy D).assign (LRl true fn tm 9 10 asg bdy D).body w (fun e w' => ∃ v, e = .returned v ∧ (v = .bool false ∧ ∃ (G' : Ghost) (g' : Option Nat) (A' : Option Addr) (cp' : Nat), GLe G G' ∧ St c G' w' (.ob l (LR false fn tm 9 10 asg bdy D) :: .box bo 27 (Kd.val.at_ (.slice A' r.1.length cp')) :: .row kTOpt g' A' cp' 60 r.1 :: .box br0 27 ((Kd.slice kTOpt).at_ r.2.1) :: .box br1 79 (kI.at_ r.2.2) :: σ)))

theorem opts_parts_1_yld_ok {c : World} (hc : Hc c) {G : Ghost} {w : World} {σ : List Ent} {a0x : (List TOpt)} {a0y : (List TOpt)} {a0z : Int} {l_ fn_ D_ bo_ br0_ br1_ : Nat} {tm_ : Array Value} {asg_ bdy_ : Code} {g0_ : Option Nat} {A0_ : Option Addr} {c0_ : Nat} {b1 : Nat} {x7 : (List Int)} (hY : RdOk_opts_Read c l_ fn_ tm_ asg_ bdy_ D_ bo_ br0_ br1_) (H : St c G w ((.ob l_ (LR true fn_ tm_ 9 10 asg_ bdy_ D_)) :: (.box bo_ 27 (Kd.val.at_ (.slice A0_ a0x.length c0_))) :: (.row kTOpt g0_ A0_ c0_ 60 a0x) :: (.box br0_ 27 ((Kd.slice kTOpt).at_ a0y)) :: (.box br1_ 79 (kI.at_ a0z)) :: (.box b1 30 (kBs.at_ x7)) :: σ)) {r : (Bool × (List TOpt) × (List TOpt) × Int × (List Int))} (hF : opts_parts_1_yld a0x a0y a0z x7 = some r) :
  Calls Tryd.prog 95 ([(.func (.yield l_) #[] #[]), (pt b1)] : List Value).toArray w (Ends fun v w' => ∃ (G' : Ghost) (g1' : Option Nat) (A2' : Option Addr) (c3' : Nat), GLe G G' ∧ tup [] = v ∧ St c G' w' ((.ob l_ (LR r.1 fn_ tm_ 9 10 asg_ bdy_ D_)) :: (.box bo_ 27 (Kd.val.at_ (.slice A2' r.2.1.length c3'))) :: (.row kTOpt g1' A2' c3' 60 r.2.1) :: (.box br0_ 27 ((Kd.slice kTOpt).at_ r.2.2.1)) :: (.box br1_ 79 (kI.at_ r.2.2.2.1)) :: (.box b1 30 (kBs.at_ r.2.2.2.2)) :: σ)) := by
 unfold opts_parts_1_yld at hF
 refine calls_mk Tryd.func95 rfl rfl rfl ?_
 refine wp_block ?_
 refine wp_loopX (fun (s : ((List TOpt) × (List TOpt) × Int × (List Int))) a w => ∃ (T0 : Fr) (G1 : Ghost) (g303 : Option Nat) (A304 : Option Addr) (c305 : Nat), a = mk 46 (upds T0 [(0, (.func (.yield l_) #[] #[])), (1, (pt b1))]) ∧ GLe G G1 ∧ St c G1 w ((.ob l_ (LR true fn_ tm_ 9 10 asg_ bdy_ D_)) :: (.box bo_ 27 (Kd.val.at_ (.slice A304 s.1.length c305))) :: (.row kTOpt g303 A304 c305 60 s.1) :: (.box br0_ 27 ((Kd.slice kTOpt).at_ s.2.1)) :: (.box br1_ 79 (kI.at_ s.2.2.1)) :: (.box b1 30 (kBs.at_ s.2.2.2)) :: σ)) hF ?_ ?_
 ·exact ⟨_, _, g0_, A0_, c0_, frame_eq _ ⟨rfl, rfl, trivial⟩, GLe.refl _, H⟩
 ·rintro ⟨x302, x307, x308, x309⟩ a w y312 ⟨T0, G313, g303, A304, c305, rfl, hG310, H311⟩ hF hy8
  refine wp_seq ?_
  refine wp_seq (wc_region ?_)
  refine wl_load H311 (i := 5) rfl (Lens.id kBs) ty30 rfl ?_
  intro v314 hv315
  obtain ⟨A316, c317, rfl, hs318⟩ := slice_V hv315
  refine wl_rn (rn_len sl30 rfl) ?_
  refine wl_rn (rn_pure (.bool (decide ((x309.length : Int) > 0))) rfl) ?_
  refine wl_nil (then_n ?_)
  rcases bcases (decide ((x309.length : Int) > 0)) with hb319 | hb319
  ·replace hF := ifT hF hb319
   refine wc_true (vb hb319) ?_
   refine wp_skip ?_
   refine then_n ?_
   refine wp_block ?_
   refine wp_seq ?_
   refine wp_seq (join (fun a w => ∃ (T0 : Fr) (G1 : Ghost) (x350 : Bool) (x351 : (List TOpt)) (g352 : Option Nat) (A353 : Option Addr) (c354 : Nat), a = mk 46 (upds T0 [(0, (.func (.yield l_) #[] #[])), (1, (pt b1)), (24, (.bool x350))]) ∧ GLe G313 G1 ∧ St c G1 w ((.ob l_ (LR true fn_ tm_ 9 10 asg_ bdy_ D_)) :: (.box bo_ 27 (Kd.val.at_ (.slice A353 x351.length c354))) :: (.row kTOpt g352 A353 c354 60 x351) :: (.box br0_ 27 ((Kd.slice kTOpt).at_ x307)) :: (.box br1_ 79 (kI.at_ x308)) :: (.box b1 30 (kBs.at_ x309)) :: σ) ∧ opts_parts_1_yld_j2 x307 x308 x309 x350 x351 = some y312) ?_ ?_)
   ·rintro a w ⟨T0, G358, x350, x351, g352, A353, c354, rfl, hG356, H357, hF⟩
    rcases bcases x350 with hb359 | hb359
    ·replace hF := ifT hF hb359
     refine wc_true (vb hb359) ?_
     refine wp_seq ?_
     refine wc_regionY 2 rfl ?_
     refine wl_rn (rn_pure (.func (.yield l_) #[] #[]) rfl) ?_
     refine wl_rnE (rn_build (G := G358) zr60 rfl bs60 rfl (Parts.nil _)) ?_
     intro v360 hv361
     have H362 := H357
     obtain ⟨r363, hr364, hF⟩ := bindS hF
     refine wl_nil ?_
     refine wl_yield H362 (i := 0) rfl rfl rfl rfl (hY.yf hv361 H362 hr364) rfl ?_
     rintro v365 w366 ⟨rfl, G367, g368, A369, c370, hG371, H372⟩
     refine wl_nil (qi_nil ?_)
     refine then_n ?_
     refine wp_ret ?_
     refine then_r ?_
     refine blk_r ?_
     refine then_r ?_
     replace hF := exitS hF hy8
     refine blk_r ?_
     have hF := Option.some.inj hF
     subst hF
     exact ret_mk rfl RV.nil ⟨_, g368, A369, c370, ((hG310.trans hG356).trans hG371), rfl, H372⟩
    ·replace hF := ifF hF hb359
     refine wc_false (vb hb359) ?_
     refine wp_skip ?_
     refine then_n ?_
     refine wp_seq (wc_region ?_)
     refine wl_load H357 (i := 5) rfl (Lens.id kBs) ty30 rfl ?_
     intro v373 hv374
     obtain ⟨A375, c376, rfl, hs377⟩ := slice_V hv374
     obtain ⟨x378, hx379, hF⟩ := bindS hF
     refine wl_rnE (rn_index hs377 sl30 ty5 rfl rfl hx379) ?_
     intro a380 hp381
     refine wl_loadpd H357 hp381 (dInt .u8) ty5 rfl ?_
     refine wl_rn (rn_convert un5 un3 rfl) ?_
     refine wl_rn (rn_pure (.int .i64 (IntKind.i64.wrap (x378))) rfl) ?_
     refine wl_nil (then_n ?_)
     iterate 2 refine wp_seq ?_
     refine wc_anyI (f := 11) H357 mixed ?_
     intro w413 H414
     refine any_pfI (by repeat (first | exact PF.base | apply PF.then_ | apply PF.blk)) ?_
     intro hPF hns
     obtain ⟨x420, hx421, hF⟩ := bindS hF
     obtain ⟨r429, hr430, hF⟩ := bindS hF
     obtain ⟨r436, hr437, hF⟩ := bindS hF
     refine any_memoI (fuel := 3) (m := 255) (fun a w => ∃ (T0 : Fr) (G1 : Ghost) (A492 : Option Addr) (c493 : Nat), a = mk 46 (upds T0 [(0, (.func (.yield l_) #[] #[])), (1, (pt b1)), (3, (.int .i64 (IntKind.i64.wrap (x378)))), (32, (.func (.yield l_) #[] #[])), (35, (.int .u8 x420)), (39, (.slice A492 r429.length c493))]) ∧ GLe G358 G1 ∧ St c G1 w ((.box b1 30 (kBs.at_ x309)) :: (.ob l_ (LR true fn_ tm_ 9 10 asg_ bdy_ D_)) :: (.box bo_ 27 (Kd.val.at_ (.slice A353 x351.length c354))) :: (.row kTOpt g352 A353 c354 60 x351) :: (.box br0_ 27 ((Kd.slice kTOpt).at_ x307)) :: (.box br1_ 79 (kI.at_ x308)) :: σ) ∧ SlR kB G1 A492 c493 r429) ?_ ?_
     ·rintro a w ⟨T0, G491, A492, c493, rfl, hG489, H490, hs494⟩
      refine any_rnEI (i := 8) (m' := 511) rfl (rn_build (G := G491) zr60 rfl bs60 rfl (Parts.cons fo60_0 lTOpt_Typ ((dInt .u8).toV _ _) (Parts.cons fo60_1 lTOpt_Data (slice_toV hs494) (Parts.nil _)))) hPF hns ?_
      intro v506 hv507
      refine any_allsI [9] ⟨?_, trivial⟩
      have H508 := (St.pk [1, 2, 3, 4, 5, 0] 6 H490 rfl (by decide))
      refine any_yieldI (m' := 1023) H508 (i := 0) rfl rfl rfl rfl (hY.yt hv507 H508 hr437) ?_ rfl
      rintro v509 w510 ⟨rfl, G511, g512, A513, c514, hG515, H516⟩
      refine any_rnI (i := 10) (m' := 2047) rfl (rn_pure (.bool false) rfl) hPF hns ?_
      refine any_endI ?_
      refine then_n ?_
      refine wc_false rfl ?_
      refine wp_skip ?_
      refine then_n ?_
      refine wc_region ?_
      refine wl_load H516 (i := 5) rfl (Lens.id kBs) ty30 rfl ?_
      intro v517 hv518
      obtain ⟨A519, c520, rfl, hs521⟩ := slice_V hv518
      refine wl_rn (rn_pure (.int .i64 (IntKind.i64.wrap (x378))) rfl) ?_
      obtain ⟨r522, hr523, hF⟩ := bindS hF
      refine wl_rnE (rn_cut (lo := (some (IntKind.i64.wrap (x378)))) (hi := none) hs521 sl30 ty5 rfl ⟨_, rfl⟩ trivial hr523) ?_
      intro z524 hs525
      refine wl_store (z := r522) H516 (i := 5) rfl (Lens.id kBs) ty30 rfl rfl (slice_toV hs525) ?_
      intro w527 H526
      refine wl_nil (blk_n ?_)
      refine then_n ?_
      exact ⟨_, (Option.some.inj hF).symm, _, _, g512, A513, c514, frame_eq _ ⟨rfl, rfl, trivial⟩, (((hG310.trans hG356).trans hG489).trans hG515), H526⟩
     intro hM488
     refine any_memoI (fuel := 4) (m := 247) (fun a w => ∃ (T0 : Fr) (G1 : Ghost) (a483 : Addr) (A485 : Option Addr) (c486 : Nat), a = mk 46 (upds T0 [(0, (.func (.yield l_) #[] #[])), (1, (pt b1)), (3, (.int .i64 (IntKind.i64.wrap (x378)))), (32, (.func (.yield l_) #[] #[])), (34, (.pointer (some a483))), (39, (.slice A485 r429.length c486))]) ∧ GLe G358 G1 ∧ St c G1 w ((.box b1 30 (kBs.at_ x309)) :: (.ob l_ (LR true fn_ tm_ 9 10 asg_ bdy_ D_)) :: (.box bo_ 27 (Kd.val.at_ (.slice A353 x351.length c354))) :: (.row kTOpt g352 A353 c354 60 x351) :: (.box br0_ 27 ((Kd.slice kTOpt).at_ x307)) :: (.box br1_ 79 (kI.at_ x308)) :: σ) ∧ PtR kB G1 a483 x420 ∧ SlR kB G1 A485 c486 r429) ?_ ?_
     ·rintro a w ⟨T0, G482, a483, A485, c486, rfl, hG480, H481, hp484, hs487⟩
      refine any_allsI [3] ⟨?_, trivial⟩
      refine any_opsI (m' := 255) rfl ?_
      intro Q' hN
      refine wl_loadpd H481 hp484 (dInt .u8) ty5 rfl ?_
      refine wl_nil (hN _ _ ?_)
      exact hM488 _ _ ⟨_, _, A485, c486, frame_eq _ ⟨rfl, rfl, rfl, rfl, rfl, rfl, trivial⟩, hG480, H481, hs487⟩
     intro hM479
     refine any_rnI (i := 0) (m' := 1) rfl (rn_pure (.func (.yield l_) #[] #[]) rfl) hPF hns ?_
     refine any_rnI (i := 5) (m' := 33) rfl (rn_pure (.int .i64 (IntKind.i64.wrap (x378))) rfl) hPF hns ?_
     refine any_rnI (i := 6) (m' := 97) rfl (rn_pure (.int .i64 (IntKind.i64.wrap (x378))) rfl) hPF hns ?_
     refine any_allsI [1, 4] ⟨?_, ?_, trivial⟩
     ·refine any_opsI (m' := 99) rfl ?_
      intro Q' hN
      refine wl_load H414 (i := 5) rfl (Lens.id kBs) ty30 rfl ?_
      intro v528 hv529
      obtain ⟨A530, c531, rfl, hs532⟩ := slice_V hv529
      refine wl_nil (hN _ _ ?_)
      refine any_rnEI (i := 2) (m' := 103) rfl (rn_index hs532 sl30 ty5 rfl rfl hx421) hPF hns ?_
      intro a533 hp534
      refine any_allsI [3, 4] ⟨?_, ?_, trivial⟩
      ·refine any_opsI (m' := 111) rfl ?_
       intro Q' hN
       refine wl_loadpd H414 hp534 (dInt .u8) ty5 rfl ?_
       refine wl_nil (hN _ _ ?_)
       refine any_allsI [4] ⟨?_, trivial⟩
       refine any_opsI (m' := 127) rfl ?_
       intro Q' hN
       refine wl_load H414 (i := 5) rfl (Lens.id kBs) ty30 rfl ?_
       intro v535 hv536
       obtain ⟨A537, c538, rfl, hs539⟩ := slice_V hv536
       refine wl_nil (hN _ _ ?_)
       refine any_rnEI (i := 7) (m' := 255) rfl (rn_cutm (lo := (some 2)) hs539 sl30 ty5 rfl ⟨_, rfl⟩ rfl rfl hr430) hPF hns ?_
       intro z540 hs541
       exact hM488 _ _ ⟨_, _, z540.1, z540.2, frame_eq _ ⟨rfl, rfl, rfl, rfl, rfl, rfl, trivial⟩, GLe.refl _, (St.pk [5, 0, 1, 2, 3, 4] 6 H414 rfl (by decide)), hs541⟩
      ·refine any_opsI (m' := 119) rfl ?_
       intro Q' hN
       refine wl_load H414 (i := 5) rfl (Lens.id kBs) ty30 rfl ?_
       intro v542 hv543
       obtain ⟨A544, c545, rfl, hs546⟩ := slice_V hv543
       refine wl_nil (hN _ _ ?_)
       refine any_rnEI (i := 7) (m' := 247) rfl (rn_cutm (lo := (some 2)) hs546 sl30 ty5 rfl ⟨_, rfl⟩ rfl rfl hr430) hPF hns ?_
       intro z547 hs548
       exact hM479 _ _ ⟨_, _, a533, z547.1, z547.2, frame_eq _ ⟨rfl, rfl, rfl, rfl, rfl, rfl, trivial⟩, GLe.refl _, (St.pk [5, 0, 1, 2, 3, 4] 6 H414 rfl (by decide)), hp534, hs548⟩
     ·refine any_opsI (m' := 113) rfl ?_
      intro Q' hN
      refine wl_load H414 (i := 5) rfl (Lens.id kBs) ty30 rfl ?_
      intro v549 hv550
      obtain ⟨A551, c552, rfl, hs553⟩ := slice_V hv550
      refine wl_nil (hN _ _ ?_)
      refine any_rnEI (i := 7) (m' := 241) rfl (rn_cutm (lo := (some 2)) hs553 sl30 ty5 rfl ⟨_, rfl⟩ rfl rfl hr430) hPF hns ?_
      intro z554 hs555
      refine any_allsI [1] ⟨?_, trivial⟩
      refine any_opsI (m' := 243) rfl ?_
      intro Q' hN
      refine wl_load H414 (i := 5) rfl (Lens.id kBs) ty30 rfl ?_
      intro v556 hv557
      obtain ⟨A558, c559, rfl, hs560⟩ := slice_V hv557
      refine wl_nil (hN _ _ ?_)
      refine any_rnEI (i := 2) (m' := 247) rfl (rn_index hs560 sl30 ty5 rfl rfl hx421) hPF hns ?_
      intro a561 hp562
      exact hM479 _ _ ⟨_, _, a561, z554.1, z554.2, frame_eq _ ⟨rfl, rfl, rfl, rfl, rfl, rfl, trivial⟩, GLe.refl _, (St.pk [5, 0, 1, 2, 3, 4] 6 H414 rfl (by decide)), hp562, hs555⟩
   ·refine wc_anyS (f := 18) H311 mixed ?_
    intro w563 H564
    refine any_pf (by repeat (first | exact PF.base | apply PF.then_ | apply PF.blk)) ?_
    intro hPF hns
    rcases bcases (decide ((x309.length : Int) < 2)) with hb570 | hb570
    ·replace hF := ifT hF hb570
     refine any_alls [0] ⟨any_ops (m' := 1) fun Q' hN => ?_, trivial⟩
     refine wl_load H564 (i := 5) rfl (Lens.id kBs) ty30 rfl ?_
     intro v576 hv577
     obtain ⟨A578, c579, rfl, hs580⟩ := slice_V hv577
     refine wl_nil (hN _ _ ?_)
     refine any_rn (i := 1) (m' := 3) rfl (rn_len sl30 rfl) hPF hns ?_
     refine any_rn (i := 2) (m' := 7) rfl (rn_pure (.bool (decide ((x309.length : Int) < 2))) rfl) hPF hns ?_
     refine any_rn (i := 3) (m' := 15) rfl (rn_pure (.bool (decide ((x309.length : Int) < 2))) rfl) hPF hns ?_
     refine any_offG (i := 4) (m' := 31) 10 false rfl (vb hb570) hPF hns ?_
     refine any_offG (i := 5) (m' := 63) 10 false rfl (vb hb570) hPF hns ?_
     refine any_offG (i := 6) (m' := 127) 10 false rfl (vb hb570) hPF hns ?_
     refine any_offG (i := 7) (m' := 255) 10 false rfl (vb hb570) hPF hns ?_
     refine any_rn (i := 8) (m' := 511) rfl (rn_pickT (.bool true) (vb hb570) rfl) hPF hns ?_
     refine any_rn (i := 9) (m' := 1023) rfl (rn_pure (.bool true) rfl) hPF hns ?_
     refine any_offG (i := 10) (m' := 2047) 16 false rfl rfl hPF hns ?_
     refine any_offG (i := 11) (m' := 4095) 16 false rfl rfl hPF hns ?_
     refine any_offG (i := 12) (m' := 8191) 16 false rfl rfl hPF hns ?_
     refine any_offG (i := 13) (m' := 16383) 16 false rfl rfl hPF hns ?_
     refine any_offG (i := 14) (m' := 32767) 16 false rfl rfl hPF hns ?_
     refine any_offG (i := 15) (m' := 65535) 16 false rfl rfl hPF hns ?_
     refine any_offG (i := 16) (m' := 131071) 16 false rfl rfl hPF hns ?_
     refine any_rn (i := 17) (m' := 262143) rfl (rn_pickT (.bool true) rfl rfl) hPF hns ?_
     refine any_end ?_
     refine then_n ?_
     exact ⟨_, _, true, x302, g303, A304, c305, frame_eq _ ⟨rfl, rfl, rfl, trivial⟩, GLe.refl _, H564, hF⟩
    ·replace hF := ifF hF hb570
     obtain ⟨x586, hx587, hF⟩ := bindS hF
     rcases bcases (decide (x586 < 2)) with hb590 | hb590
     ·replace hF := ifT hF hb590
      refine any_alls [0] ⟨any_ops (m' := 1) fun Q' hN => ?_, trivial⟩
      refine wl_load H564 (i := 5) rfl (Lens.id kBs) ty30 rfl ?_
      intro v603 hv604
      obtain ⟨A605, c606, rfl, hs607⟩ := slice_V hv604
      refine wl_nil (hN _ _ ?_)
      refine any_rn (i := 1) (m' := 3) rfl (rn_len sl30 rfl) hPF hns ?_
      refine any_rn (i := 2) (m' := 7) rfl (rn_pure (.bool (decide ((x309.length : Int) < 2))) rfl) hPF hns ?_
      refine any_rn (i := 3) (m' := 15) rfl (rn_pure (.bool (decide ((x309.length : Int) < 2))) rfl) hPF hns ?_
      refine any_alls [4] ⟨any_ops (m' := 31) fun Q' hN => ?_, trivial⟩
      refine wl_yes rfl rfl rfl (vb hb570) ?_
      refine wl_load H564 (i := 5) rfl (Lens.id kBs) ty30 rfl ?_
      intro v608 hv609
      obtain ⟨A610, c611, rfl, hs612⟩ := slice_V hv609
      refine wl_nil (hN _ _ ?_)
      refine any_rnEG 10 false (i := 5) (m' := 63) rfl (rn_index hs612 sl30 ty5 rfl rfl hx587) (vb hb570) hPF hns ?_
      intro a613 hp614
      refine any_alls [6] ⟨any_ops (m' := 127) fun Q' hN => ?_, trivial⟩
      refine wl_yes rfl rfl rfl (vb hb570) ?_
      refine wl_loadpd H564 hp614 (dInt .u8) ty5 rfl ?_
      refine wl_nil (hN _ _ ?_)
      refine any_rnG 10 false (i := 7) (m' := 255) rfl (rn_pure (.bool (decide (x586 < 2))) rfl) (vb hb570) hPF hns ?_
      refine any_rn (i := 8) (m' := 511) rfl (rn_pickF (.bool (decide (x586 < 2))) (vb hb570) rfl) hPF hns ?_
      refine any_rn (i := 9) (m' := 1023) rfl (rn_pure (.bool (decide (x586 < 2))) rfl) hPF hns ?_
      refine any_offG (i := 10) (m' := 2047) 16 false rfl (vb hb590) hPF hns ?_
      refine any_offG (i := 11) (m' := 4095) 16 false rfl (vb hb590) hPF hns ?_
      refine any_offG (i := 12) (m' := 8191) 16 false rfl (vb hb590) hPF hns ?_
      refine any_offG (i := 13) (m' := 16383) 16 false rfl (vb hb590) hPF hns ?_
      refine any_offG (i := 14) (m' := 32767) 16 false rfl (vb hb590) hPF hns ?_
      refine any_offG (i := 15) (m' := 65535) 16 false rfl (vb hb590) hPF hns ?_
      refine any_offG (i := 16) (m' := 131071) 16 false rfl (vb hb590) hPF hns ?_
      refine any_rn (i := 17) (m' := 262143) rfl (rn_pickT (.bool true) (vb hb590) rfl) hPF hns ?_
      refine any_end ?_
      refine then_n ?_
      exact ⟨_, _, true, x302, g303, A304, c305, frame_eq _ ⟨rfl, rfl, rfl, trivial⟩, GLe.refl _, H564, hF⟩
     ·replace hF := ifF hF hb590
      obtain ⟨x620, hx621, hF⟩ := bindS hF
      refine any_memo (fuel := 2) (m := 65535) (fun a w => ∃ (T0 : Fr) (G1 : Ghost), a = mk 46 (upds T0 [(0, (.func (.yield l_) #[] #[])), (1, (pt b1)), (16, (.bool (decide (x586 < 2)))), (20, (.int .i64 (IntKind.i64.wrap (x620)))), (22, (.int .i64 (x309.length : Int)))]) ∧ GLe G313 G1 ∧ St c G1 w ((.box b1 30 (kBs.at_ x309)) :: (.ob l_ (LR true fn_ tm_ 9 10 asg_ bdy_ D_)) :: (.box bo_ 27 (Kd.val.at_ (.slice A304 x302.length c305))) :: (.row kTOpt g303 A304 c305 60 x302) :: (.box br0_ 27 ((Kd.slice kTOpt).at_ x307)) :: (.box br1_ 79 (kI.at_ x308)) :: σ)) ?_ ?_
      ·rintro a w ⟨T0, G677, rfl, hG675, H676⟩
       refine any_rnG 16 false (i := 16) (m' := 131071) rfl (rn_pure (.bool (decide ((IntKind.i64.wrap (x620)) > (x309.length : Int)))) rfl) (vb hb590) hPF hns ?_
       refine any_rn (i := 17) (m' := 262143) rfl (rn_pickF (.bool (decide ((IntKind.i64.wrap (x620)) > (x309.length : Int)))) (vb hb590) rfl) hPF hns ?_
       refine any_end ?_
       refine then_n ?_
       exact ⟨_, _, (decide ((IntKind.i64.wrap (x620)) > (x309.length : Int))), x302, g303, A304, c305, frame_eq _ ⟨rfl, rfl, rfl, trivial⟩, hG675, (St.pk [1, 2, 3, 4, 5, 0] 6 H676 rfl (by decide)), hF⟩
      intro hM674
      refine any_memo (fuel := 4) (m := 53247) (fun a w => ∃ (T0 : Fr) (G1 : Ghost) (a672 : Addr), a = mk 46 (upds T0 [(0, (.func (.yield l_) #[] #[])), (1, (pt b1)), (16, (.bool (decide (x586 < 2)))), (18, (.pointer (some a672))), (22, (.int .i64 (x309.length : Int)))]) ∧ GLe G313 G1 ∧ St c G1 w ((.box b1 30 (kBs.at_ x309)) :: (.ob l_ (LR true fn_ tm_ 9 10 asg_ bdy_ D_)) :: (.box bo_ 27 (Kd.val.at_ (.slice A304 x302.length c305))) :: (.row kTOpt g303 A304 c305 60 x302) :: (.box br0_ 27 ((Kd.slice kTOpt).at_ x307)) :: (.box br1_ 79 (kI.at_ x308)) :: σ) ∧ PtR kB G1 a672 x620) ?_ ?_
      ·rintro a w ⟨T0, G671, a672, rfl, hG669, H670, hp673⟩
       refine any_alls [12] ⟨any_ops (m' := 57343) fun Q' hN => ?_, trivial⟩
       refine wl_yes rfl rfl rfl (vb hb590) ?_
       refine wl_loadpd H670 hp673 (dInt .u8) ty5 rfl ?_
       refine wl_nil (hN _ _ ?_)
       refine any_rnG 16 false (i := 13) (m' := 65535) rfl (rn_convert un5 un3 rfl) (vb hb590) hPF hns ?_
       exact hM674 _ _ ⟨_, _, frame_eq _ ⟨rfl, rfl, rfl, rfl, rfl, trivial⟩, hG669, H670⟩
      intro hM668
      refine any_alls [0] ⟨any_ops (m' := 1) fun Q' hN => ?_, trivial⟩
      refine wl_load H564 (i := 5) rfl (Lens.id kBs) ty30 rfl ?_
      intro v678 hv679
      obtain ⟨A680, c681, rfl, hs682⟩ := slice_V hv679
      refine wl_nil (hN _ _ ?_)
      refine any_rn (i := 1) (m' := 3) rfl (rn_len sl30 rfl) hPF hns ?_
      refine any_rn (i := 2) (m' := 7) rfl (rn_pure (.bool (decide ((x309.length : Int) < 2))) rfl) hPF hns ?_
      refine any_rn (i := 3) (m' := 15) rfl (rn_pure (.bool (decide ((x309.length : Int) < 2))) rfl) hPF hns ?_
      refine any_alls [4] ⟨any_ops (m' := 31) fun Q' hN => ?_, trivial⟩
      refine wl_yes rfl rfl rfl (vb hb570) ?_
      refine wl_load H564 (i := 5) rfl (Lens.id kBs) ty30 rfl ?_
      intro v683 hv684
      obtain ⟨A685, c686, rfl, hs687⟩ := slice_V hv684
      refine wl_nil (hN _ _ ?_)
      refine any_rnEG 10 false (i := 5) (m' := 63) rfl (rn_index hs687 sl30 ty5 rfl rfl hx587) (vb hb570) hPF hns ?_
      intro a688 hp689
      refine any_alls [6] ⟨any_ops (m' := 127) fun Q' hN => ?_, trivial⟩
      refine wl_yes rfl rfl rfl (vb hb570) ?_
      refine wl_loadpd H564 hp689 (dInt .u8) ty5 rfl ?_
      refine wl_nil (hN _ _ ?_)
      refine any_rnG 10 false (i := 7) (m' := 255) rfl (rn_pure (.bool (decide (x586 < 2))) rfl) (vb hb570) hPF hns ?_
      refine any_rn (i := 8) (m' := 511) rfl (rn_pickF (.bool (decide (x586 < 2))) (vb hb570) rfl) hPF hns ?_
      refine any_rn (i := 9) (m' := 1023) rfl (rn_pure (.bool (decide (x586 < 2))) rfl) hPF hns ?_
      refine any_alls [10, 14] ⟨?_, ?_, trivial⟩
      ·refine any_ops (m' := 2047) fun Q' hN => ?_
       refine wl_yes rfl rfl rfl (vb hb590) ?_
       refine wl_load H564 (i := 5) rfl (Lens.id kBs) ty30 rfl ?_
       intro v690 hv691
       obtain ⟨A692, c693, rfl, hs694⟩ := slice_V hv691
       refine wl_nil (hN _ _ ?_)
       refine any_rnEG 16 false (i := 11) (m' := 4095) rfl (rn_index hs694 sl30 ty5 rfl rfl hx621) (vb hb590) hPF hns ?_
       intro a695 hp696
       refine any_alls [12, 14] ⟨?_, ?_, trivial⟩
       ·refine any_ops (m' := 8191) fun Q' hN => ?_
        refine wl_yes rfl rfl rfl (vb hb590) ?_
        refine wl_loadpd H564 hp696 (dInt .u8) ty5 rfl ?_
        refine wl_nil (hN _ _ ?_)
        refine any_rnG 16 false (i := 13) (m' := 16383) rfl (rn_convert un5 un3 rfl) (vb hb590) hPF hns ?_
        refine any_alls [14] ⟨any_ops (m' := 32767) fun Q' hN => ?_, trivial⟩
        refine wl_yes rfl rfl rfl (vb hb590) ?_
        refine wl_load H564 (i := 5) rfl (Lens.id kBs) ty30 rfl ?_
        intro v697 hv698
        obtain ⟨A699, c700, rfl, hs701⟩ := slice_V hv698
        refine wl_nil (hN _ _ ?_)
        refine any_rnG 16 false (i := 15) (m' := 65535) rfl (rn_len sl30 rfl) (vb hb590) hPF hns ?_
        exact hM674 _ _ ⟨_, _, frame_eq _ ⟨rfl, rfl, rfl, rfl, rfl, trivial⟩, GLe.refl _, (St.pk [5, 0, 1, 2, 3, 4] 6 H564 rfl (by decide))⟩
       ·refine any_ops (m' := 20479) fun Q' hN => ?_
        refine wl_yes rfl rfl rfl (vb hb590) ?_
        refine wl_load H564 (i := 5) rfl (Lens.id kBs) ty30 rfl ?_
        intro v702 hv703
        obtain ⟨A704, c705, rfl, hs706⟩ := slice_V hv703
        refine wl_nil (hN _ _ ?_)
        refine any_rnG 16 false (i := 15) (m' := 53247) rfl (rn_len sl30 rfl) (vb hb590) hPF hns ?_
        exact hM668 _ _ ⟨_, _, a695, frame_eq _ ⟨rfl, rfl, rfl, rfl, rfl, trivial⟩, GLe.refl _, (St.pk [5, 0, 1, 2, 3, 4] 6 H564 rfl (by decide)), hp696⟩
      ·refine any_ops (m' := 17407) fun Q' hN => ?_
       refine wl_yes rfl rfl rfl (vb hb590) ?_
       refine wl_load H564 (i := 5) rfl (Lens.id kBs) ty30 rfl ?_
       intro v707 hv708
       obtain ⟨A709, c710, rfl, hs711⟩ := slice_V hv708
       refine wl_nil (hN _ _ ?_)
       refine any_rnG 16 false (i := 15) (m' := 50175) rfl (rn_len sl30 rfl) (vb hb590) hPF hns ?_
       refine any_alls [10] ⟨any_ops (m' := 51199) fun Q' hN => ?_, trivial⟩
       refine wl_yes rfl rfl rfl (vb hb590) ?_
       refine wl_load H564 (i := 5) rfl (Lens.id kBs) ty30 rfl ?_
       intro v712 hv713
       obtain ⟨A714, c715, rfl, hs716⟩ := slice_V hv713
       refine wl_nil (hN _ _ ?_)
       refine any_rnEG 16 false (i := 11) (m' := 53247) rfl (rn_index hs716 sl30 ty5 rfl rfl hx621) (vb hb590) hPF hns ?_
       intro a717 hp718
       exact hM668 _ _ ⟨_, _, a717, frame_eq _ ⟨rfl, rfl, rfl, rfl, rfl, trivial⟩, GLe.refl _, (St.pk [5, 0, 1, 2, 3, 4] 6 H564 rfl (by decide)), hp718⟩
  ·replace hF := ifF hF hb319
   refine wc_false (vb hb319) ?_
   refine wp_exit ?_
   iterate 2 refine then_e ?_
   replace hF := exitS hF hy8
   refine blk_e ?_
   have hF := Option.some.inj hF
   subst hF
   exact end_mk rfl RV.nil ⟨_, g303, A304, c305, hG310, rfl, H311⟩

theorem opts_Read_ok {c : World} (hc : Hc c) {G : Ghost} {w : World} {σ : List Ent} {a0 : (List Int)} {A0_ : Option Addr} {c0_ : Nat} (h0_ : SlR kB G A0_ c0_ a0) (H : St c G w (σ)) {r : ((List TOpt) × Int)} (hF : opts_Read a0 = some r) :
  Calls Tryd.prog 74 ([(.slice A0_ a0.length c0_)] : List Value).toArray w (Ends fun v w' => ∃ (G' : Ghost) (A1' : Option Addr) (c2' : Nat), GLe G G' ∧ tup [(.slice A1' r.1.length c2'), (.int .i64 r.2)] = v ∧ St c G' w' (σ) ∧ SlR kTOpt G' A1' c2' r.1) := by
 unfold opts_Read at hF
 refine calls_mkM Tryd.func74 rfl rfl rfl ?_
 refine wp_seq (wc_region ?_)
 refine wl_alloc H zr27 ?_
 intro b1 w4 H2
 refine wl_alloc H2 zr79 ?_
 intro b5 w8 H6
 refine wl_nil (then_n (wp_seq (wc_region ?_)))
 refine wl_alloc H6 zr27V ?_
 intro b9 w12 H10
 refine wl_nil (then_n ?_)
 refine wp_seq ?_
 refine wp_seq (wc_region ?_)
 refine wl_rn (rn_pure (.slice A0_ a0.length c0_) rfl) ?_
 obtain ⟨r13, hr14, hF⟩ := bindS hF
 refine wl_call (vs := [(.slice A0_ a0.length c0_)]) en86 rfl (opts_parts_ok hc h0_ H10 hr14) ?_
 rintro v19 w18 ⟨G15, b20, hG16, rfl, H17⟩
 refine wl_nil (then_n ?_)
 refine wp_block ?_
 have H22 := H17.nilrow kTOpt none 60
 refine wc_range en95 H22 rfl ?_
 intro n25 l24 D26 w27 H28
 obtain ⟨r31, hr32, hF⟩ := bindS hF
 have H33 := (St.pk [0, 4, 2, 6, 5, 3, 1] 7 H28 rfl (by decide))
 refine calls_range (opts_parts_1_yld_ok hc (hY := ?hY) H33 hr32) ?post
 case hY =>
  refine ⟨?_, ?_⟩
  ·intro Gr w σ u o g A cp x y0 y1 r hu Hr hF
   unfold rd_opts_Read_t at hF
   refine round_of (c := c) (G := Gr) (r := LRl true _ _ _ _ _ _ _) rfl rfl rfl ?_
   refine wpIn_seq ?_
   refine wcI_region rfl ?_
   refine wl_alloc Hr zr60 ?_
   intro b39 w42 H40
   refine wl_store (z := o) H40 (i := 0) rfl (Lens.id kTOpt) ty60 rfl rfl hu ?_
   intro w44 H43
   refine wl_nil (qi_nil ?_)
   refine then_n ?_
   refine wcI_region rfl ?_
   refine wl_rn (rn_pure (.bool true) rfl) ?_
   refine wl_nil (qi_nil ?_)
   refine then_n ?_
   refine ⟨_, 1, H43, rfl, ?_⟩
   intro w45 H46
   refine wpIn_block ?_
   iterate 2 refine wpIn_seq ?_
   refine wcI_region rfl ?_
   refine wl_rn (rn_pure (.bool true) rfl) ?_
   refine wl_rn (rn_pure (.bool false) rfl) ?_
   refine wl_nil (qi_nil ?_)
   refine then_n ?_
   refine wpIn_cond_false (by rw [eval_mk]; rfl) ?_
   refine wpIn_skip ?_
   refine then_n ?_
   refine wcI_region rfl ?_
   refine wl_load H46 (i := 2) rfl (Lens.id Kd.val) ty27 rfl ?_
   intro v47 hv48
   obtain rfl := val_V hv48
   refine wl_load H46 (i := 0) rfl (Lens.id kTOpt) ty60 rfl ?_
   intro v49 hv50
   refine wl_lit (K := kTOpt) (vs := [v49]) (xs := ([o] : (List TOpt))) H46 sl27 el60 rfl ⟨hv50, trivial⟩ rfl (by decide) ?_
   intro g51 w53 H52
   obtain ⟨r55, hr56, hF⟩ := bindS hF
   refine wl_append H52 sl27 el60 (i := 4) rfl rfl rfl ((H52.okAt (i := 0) rfl).src) hr56 ?_
   intro g57 A58 c59 w60 H61
   refine wl_store (z := (.slice A58 r55.length c59)) H61 (i := 3) rfl (Lens.id Kd.val) ty27 rfl rfl ⟨[_], rfl, rfl, rfl⟩ ?_
   intro w63 H62
   refine wl_nil (qi_nil ?_)
   refine blk_n ?_
   have hF := Option.some.inj hF
   subst hF
   refine round_next H62 (i := 2) rfl ?_
   intro w64 H65
   exact ⟨rfl, _, g57, A58, c59, GLe.refl _, (St.pk [2, 3, 4, 5, 6] 7 H65 rfl (by decide))⟩
  ·intro Gr w σ u o g A cp x y0 y1 r hu Hr hF
   unfold rd_opts_Read_f at hF
   refine round_of (c := c) (G := Gr) (r := LRl true _ _ _ _ _ _ _) rfl rfl rfl ?_
   refine wpIn_seq ?_
   refine wcI_region rfl ?_
   refine wl_alloc Hr zr60 ?_
   intro b71 w74 H72
   refine wl_store (z := o) H72 (i := 0) rfl (Lens.id kTOpt) ty60 rfl rfl hu ?_
   intro w76 H75
   refine wl_nil (qi_nil ?_)
   refine then_n ?_
   refine wcI_region rfl ?_
   refine wl_rn (rn_pure (.bool false) rfl) ?_
   refine wl_nil (qi_nil ?_)
   refine then_n ?_
   refine ⟨_, 1, H75, rfl, ?_⟩
   intro w77 H78
   refine wpIn_block ?_
   iterate 2 refine wpIn_seq ?_
   refine wcI_region rfl ?_
   refine wl_rn (rn_pure (.bool false) rfl) ?_
   refine wl_rn (rn_pure (.bool true) rfl) ?_
   refine wl_nil (qi_nil ?_)
   refine then_n ?_
   refine wpIn_cond_true (by rw [eval_mk]; rfl) ?_
   refine wpIn_seq ?_
   refine wcI_region rfl ?_
   refine wl_store (z := []) H78 (i := 4) rfl (Lens.id (Kd.slice kTOpt)) ty27 rfl rfl (slice_toV (SlR.nil _ _)) ?_
   intro w80 H79
   refine wl_store (z := 2) H79 (i := 5) rfl (Lens.id kI) ty79 rfl rfl ((dInt .i64).toV _ _) ?_
   intro w82 H81
   refine wl_nil (qi_nil ?_)
   refine then_n ?_
   refine wpIn_ret ?_
   refine then_r ?_
   refine blk_r ?_
   have hF := Option.some.inj hF
   subst hF
   refine round_ret H81 (i := 1) rfl ?_
   intro w83 H84
   exact ⟨rfl, _, g, A, cp, GLe.refl _, (St.pk [1, 2, 3, 4, 5] 6 H84 rfl (by decide))⟩
 case post =>
  rintro v85 w86 ⟨G87, g88, A89, c90, hG91, _, H92⟩
  rcases bcases r31.1 with hb93 | hb93
  ·replace hF := ifT hF hb93
   refine range_none H92 (i := 0) rfl (by rw [hb93]; rfl) (by rw [hb93]; rfl) ?_
   intro w94 H95
   have H96 := H95.drop
   refine blk_n ?_
   refine then_n ?_
   refine wp_seq ?_
   refine wc_regionD rfl ?_
   refine wl_load H96 (i := 0) rfl (Lens.id Kd.val) ty27 rfl ?_
   intro v97 hv98
   obtain rfl := val_V hv98
   obtain ⟨G99, hG100, H101, hs102⟩ := H96.stay (i := 1) rfl (H96.capA (i := 1) rfl)
   refine wl_store (z := r31.2.1) H101 (i := 1) rfl (Lens.id (Kd.slice kTOpt)) ty27 rfl rfl (slice_toV hs102) ?_
   intro w104 H103
   refine wl_store (z := 0) H103 (i := 2) rfl (Lens.id kI) ty79 rfl rfl ((dInt .i64).toV _ _) ?_
   intro w106 H105
   refine wl_nil (then_n ?_)
   refine wp_ret ?_
   refine ret_mkM H105 (i := 4) rfl rfl ?_
   intro w113 H114
   obtain ⟨v107, hv108, hl109⟩ := H114.loadv (i := 1) rfl ty27
   obtain ⟨A115, c116, rfl, hs117⟩ := slice_V hv108
   obtain ⟨v110, hv111, hl112⟩ := H114.loadv (i := 2) rfl ty79
   obtain rfl := Det.V (dInt .i64) hv111
   have hF := Option.some.inj hF
   subst hF
   exact ⟨_, (RV.cell rfl hl109 (RV.cell rfl hl112 RV.nil)), ⟨_, A115, c116, ((hG16.trans hG91).trans hG100), rfl, (St.pk [] 5 H114 rfl (by decide)), hs117⟩⟩
  ·replace hF := ifF hF hb93
   refine range_ret H92 (i := 0) rfl (by rw [hb93]; rfl) (by rw [hb93]; rfl) ?_
   intro w118 H119
   have H120 := H119.drop
   refine blk_r ?_
   refine then_r ?_
   refine ret_mkM H120 (i := 5) rfl rfl ?_
   intro w127 H128
   obtain ⟨v121, hv122, hl123⟩ := H128.loadv (i := 2) rfl ty27
   obtain ⟨A129, c130, rfl, hs131⟩ := slice_V hv122
   obtain ⟨v124, hv125, hl126⟩ := H128.loadv (i := 3) rfl ty79
   obtain rfl := Det.V (dInt .i64) hv125
   have hF := Option.some.inj hF
   subst hF
   exact ⟨_, (RV.cell rfl hl123 (RV.cell rfl hl126 RV.nil)), ⟨_, A129, c130, (hG16.trans hG91), rfl, (St.pk [] 6 H128 rfl (by decide)), hs131⟩⟩

theorem rules_kinds_k1_ok {c : World} (hc : Hc c) {G : Ghost} {w : World} {σ : List Ent} {a0 : TRule} {v0_ : Value} (h0_ : kTRule.V G v0_ a0) (hk : a0.Ip = true) (H : St c G w (σ)) {r : Unit} (hF : rules_kinds_k1 a0 = some r) :
  Calls Tryd.prog 96 ([v0_] : List Value).toArray w (Ends fun v w' => ∃ (G' : Ghost) (r1' : Nat) (v2' : Value), GLe G G' ∧ tup [(.map (some r1'))] = v ∧ St c G' w' ((.mp r1' [⟨.int .u8 3, v2', 0⟩] 1) :: σ) ∧ kTrules_kind.V G' v2' (Trules_kind.mk 4 (FV.rules_kinds_1 a0) a0.Addr)) := by
 unfold rules_kinds_k1 at hF
 refine calls_mk Tryd.func96 rfl rfl rfl ?_
 refine wp_seq (wc_region ?_)
 refine wl_box (K := kTRule) (x := a0) H rfl h0_ ?_
 intro b1 w4 H2
 refine wl_rn (rn_pure (.map none) rfl) ?_
 refine wl_nil (then_n ?_)
 refine wp_seq ?_
 refine wp_seq (wc_region ?_)
 refine wl_rn (rn_field fo26_0 rfl) ?_
 refine wl_loadd H2 (i := 0) rfl lTRule_Ip dBool ty4 rfl ?_
 refine wl_nil (then_n ?_)
 refine wc_true (vb hk) ?_
 refine wp_seq (wc_region ?_)
 refine wl_makeMap H2 ?_
 intro r5 w6 H7
 refine wl_rn (rn_pure (.func (.func 99) #[] #[(pt b1)]) rfl) ?_
 refine wl_rn (rn_field fo26_3 rfl) ?_
 refine wl_loadd H7 (i := 1) rfl lTRule_Addr (dInt .u32) ty24 rfl ?_
 obtain ⟨G9, hG10, H11, hp12⟩ := H7.sealbox (i := 1) rfl
 refine wl_rnE (rn_build (G := G9) zr130 rfl bs130 rfl (Parts.cons fo130_0 lTrules_kind_Long ((dInt .i64).toV _ _) (Parts.cons fo130_1 lTrules_kind_Not (vFV_rules_kinds_1 hp12) (Parts.cons fo130_2 lTrules_kind_Should ((dInt .u32).toV _ _) (Parts.nil _))))) ?_
 intro v13 hv14
 refine wl_insert (key := (.int .u8 3)) (val := v13) H11 (i := 0) rfl mt142 un5 rfl rfl rfl (by simp [Go.MapKept.IsKey]) rfl ?_
 intro w15 H16
 have H17 : St c G9 w15 ((.mp r5 [⟨.int .u8 3, v13, 0⟩] 1) :: σ) := H16
 iterate 2 refine wl_rn (rn_pure (.map (some r5)) rfl) ?_
 refine wl_nil (then_n ?_)
 refine wp_ret ?_
 refine then_r ?_
 have hF := Option.some.inj hF
 subst hF
 exact ret_mk rfl (RV.tmp rfl RV.nil) ⟨_, r5, v13, hG10, rfl, H17, hv14⟩

theorem rules_kinds_k0_ok {c : World} (hc : Hc c) {G : Ghost} {w : World} {σ : List Ent} {a0 : TRule} {v0_ : Value} (h0_ : kTRule.V G v0_ a0) (hk : a0.Ip = false) (H : St c G w (σ)) {r : Unit} (hF : rules_kinds_k0 a0 = some r) :
  Calls Tryd.prog 96 ([v0_] : List Value).toArray w (Ends fun v w' => ∃ (G' : Ghost) (r1' : Nat) (v2' : Value) (v3' : Value) (v4' : Value) (v5' : Value) (v6' : Value), GLe G G' ∧ tup [(.map (some r1'))] = v ∧ St c G' w' ((.mp r1' [⟨.int .u8 1, v2', 0⟩, ⟨.int .u8 2, v3', 1⟩, ⟨.int .u8 5, v4', 2⟩, ⟨.int .u8 7, v5', 3⟩, ⟨.int .u8 8, v6', 4⟩] 5) :: σ) ∧ kTrules_kind.V G' v2' (Trules_kind.mk 2 FV.rules_kinds_2 64) ∧ kTrules_kind.V G' v3' (Trules_kind.mk 4 FV.rules_never 0) ∧ kTrules_kind.V G' v4' (Trules_kind.mk 4 (FV.rules_kinds_3 a0) a0.Other) ∧ kTrules_kind.V G' v5' (Trules_kind.mk 0 FV.rules_never 0) ∧ kTrules_kind.V G' v6' (Trules_kind.mk 0 FV.rules_never 0)) := by
 unfold rules_kinds_k0 at hF
 refine calls_mk Tryd.func96 rfl rfl rfl ?_
 refine wp_seq (wc_region ?_)
 refine wl_box (K := kTRule) (x := a0) H rfl h0_ ?_
 intro b1 w4 H2
 refine wl_rn (rn_pure (.map none) rfl) ?_
 refine wl_nil (then_n ?_)
 refine wp_seq ?_
 refine wp_seq (wc_region ?_)
 refine wl_rn (rn_field fo26_0 rfl) ?_
 refine wl_loadd H2 (i := 0) rfl lTRule_Ip dBool ty4 rfl ?_
 refine wl_nil (then_n ?_)
 refine wc_false (vb hk) ?_
 refine wp_skip ?_
 refine then_n ?_
 refine wp_seq (wc_region ?_)
 refine wl_makeMap H2 ?_
 intro r5 w6 H7
 refine wl_rnE (rn_build (G := G) zr130 rfl bs130 rfl (Parts.cons fo130_0 lTrules_kind_Long ((dInt .i64).toV _ _) (Parts.cons fo130_1 lTrules_kind_Not (vFV_rules_kinds_2 (G := G)) (Parts.cons fo130_2 lTrules_kind_Should ((dInt .u32).toV _ _) (Parts.nil _))))) ?_
 intro v9 hv10
 refine wl_insert (key := (.int .u8 1)) (val := v9) H7 (i := 0) rfl mt142 un5 rfl rfl rfl (by simp [Go.MapKept.IsKey]) rfl ?_
 intro w11 H12
 have H13 : St c G w11 ((.mp r5 [⟨.int .u8 1, v9, 0⟩] 1) :: (.box b1 26 (kTRule.at_ a0)) :: σ) := H12
 refine wl_rnE (rn_build (G := G) zr130 rfl bs130 rfl (Parts.cons fo130_0 lTrules_kind_Long ((dInt .i64).toV _ _) (Parts.cons fo130_1 lTrules_kind_Not (vFV_rules_never (G := G)) (Parts.cons fo130_2 lTrules_kind_Should ((dInt .u32).toV _ _) (Parts.nil _))))) ?_
 intro v14 hv15
 refine wl_insert (key := (.int .u8 2)) (val := v14) H13 (i := 0) rfl mt142 un5 rfl rfl rfl (by simp [Go.MapKept.IsKey]) rfl ?_
 intro w16 H17
 have H18 : St c G w16 ((.mp r5 [⟨.int .u8 1, v9, 0⟩, ⟨.int .u8 2, v14, 1⟩] 2) :: (.box b1 26 (kTRule.at_ a0)) :: σ) := H17
 refine wl_rn (rn_pure (.func (.func 102) #[] #[(pt b1)]) rfl) ?_
 refine wl_rn (rn_field fo26_2 rfl) ?_
 refine wl_loadd H18 (i := 1) rfl lTRule_Other (dInt .u32) ty24 rfl ?_
 obtain ⟨G19, hG20, H21, hp22⟩ := H18.sealbox (i := 1) rfl
 refine wl_rnE (rn_build (G := G19) zr130 rfl bs130 rfl (Parts.cons fo130_0 lTrules_kind_Long ((dInt .i64).toV _ _) (Parts.cons fo130_1 lTrules_kind_Not (vFV_rules_kinds_3 hp22) (Parts.cons fo130_2 lTrules_kind_Should ((dInt .u32).toV _ _) (Parts.nil _))))) ?_
 intro v23 hv24
 refine wl_insert (key := (.int .u8 5)) (val := v23) H21 (i := 0) rfl mt142 un5 rfl rfl rfl (by simp [Go.MapKept.IsKey]) rfl ?_
 intro w25 H26
 have H27 : St c G19 w25 ((.mp r5 [⟨.int .u8 1, v9, 0⟩, ⟨.int .u8 2, v14, 1⟩, ⟨.int .u8 5, v23, 2⟩] 3) :: σ) := H26
 refine wl_rnE (rn_build (G := G19) zr130 rfl bs130 rfl (Parts.cons fo130_0 lTrules_kind_Long ((dInt .i64).toV _ _) (Parts.cons fo130_1 lTrules_kind_Not (vFV_rules_never (G := G19)) (Parts.cons fo130_2 lTrules_kind_Should ((dInt .u32).toV _ _) (Parts.nil _))))) ?_
 intro v28 hv29
 refine wl_insert (key := (.int .u8 7)) (val := v28) H27 (i := 0) rfl mt142 un5 rfl rfl rfl (by simp [Go.MapKept.IsKey]) rfl ?_
 intro w30 H31
 have H32 : St c G19 w30 ((.mp r5 [⟨.int .u8 1, v9, 0⟩, ⟨.int .u8 2, v14, 1⟩, ⟨.int .u8 5, v23, 2⟩, ⟨.int .u8 7, v28, 3⟩] 4) :: σ) := H31
 refine wl_rnE (rn_build (G := G19) zr130 rfl bs130 rfl (Parts.cons fo130_0 lTrules_kind_Long ((dInt .i64).toV _ _) (Parts.cons fo130_1 lTrules_kind_Not (vFV_rules_never (G := G19)) (Parts.cons fo130_2 lTrules_kind_Should ((dInt .u32).toV _ _) (Parts.nil _))))) ?_
 intro v33 hv34
 refine wl_insert (key := (.int .u8 8)) (val := v33) H32 (i := 0) rfl mt142 un5 rfl rfl rfl (by simp [Go.MapKept.IsKey]) rfl ?_
 intro w35 H36
 have H37 : St c G19 w35 ((.mp r5 [⟨.int .u8 1, v9, 0⟩, ⟨.int .u8 2, v14, 1⟩, ⟨.int .u8 5, v23, 2⟩, ⟨.int .u8 7, v28, 3⟩, ⟨.int .u8 8, v33, 4⟩] 5) :: σ) := H36
 iterate 2 refine wl_rn (rn_pure (.map (some r5)) rfl) ?_
 refine wl_nil (then_n ?_)
 refine wp_ret ?_
 have hF := Option.some.inj hF
 subst hF
 exact ret_mk rfl (RV.tmp rfl RV.nil) ⟨_, r5, v9, v14, v23, v28, v33, hG20, rfl, H37, (hv10.mono hG20), (hv15.mono hG20), hv24, hv29, hv34⟩

theorem rules_of_ok {c : World} (hc : Hc c) {G : Ghost} {w : World} {σ : List Ent} {a0 : TRule} {v0_ : Value} {a1 : TOpt} {v1_ : Value} (h0_ : kTRule.V G v0_ a0) (h1_ : kTOpt.V G v1_ a1) (H : St c G w (σ)) {r : (Trules_kind × Bool)} (hF : rules_of a0 a1 = some r) :
  Calls Tryd.prog 87 ([v0_, v1_] : List Value).toArray w (Ends fun v w' => ∃ (G' : Ghost) (v1' : Value), GLe G G' ∧ tup [v1', (.bool r.2)] = v ∧ St c G' w' (σ) ∧ kTrules_kind.V G' v1' r.1) := by
 unfold rules_of at hF
 refine calls_mk Tryd.func87 rfl rfl rfl ?_
 refine wp_seq (wc_region ?_)
 refine wl_box (K := kTRule) (x := a0) H rfl h0_ ?_
 intro b1 w4 H2
 refine wl_box (K := kTOpt) (x := a1) H2 rfl h1_ ?_
 intro b5 w8 H6
 refine wl_alloc H6 zr130 ?_
 intro b9 w12 H10
 refine wl_rn (rn_pure (.bool false) rfl) ?_
 refine wl_nil (then_n ?_)
 refine wp_seq (join (fun a w => ∃ (T0 : Fr) (G1 : Ghost) (x68 : Trules_kind) (x71 : Bool) (b69 : Nat), a = mk 26 (upds T0 [(3, (pt b5)), (4, (pt b9)), (6, (pt b69)), (7, (.bool x71))]) ∧ GLe G G1 ∧ St c G1 w ((.box b69 130 (kTrules_kind.at_ x68)) :: (.box b9 130 (kTrules_kind.at_ zTrules_kind)) :: (.box b5 60 (kTOpt.at_ a1)) :: σ) ∧ rules_of_j1 a1 x68 x71 = some r) ?_ ?_)
 ·rintro a w ⟨T0, G74, x68, x71, b69, rfl, hG72, H73, hF⟩
  refine wp_seq ?_
  refine wc_anyS (f := 12) H73 mixed ?_
  intro w75 H76
  refine any_pf (by repeat (first | exact PF.base | apply PF.then_ | apply PF.blk)) ?_
  intro hPF hns
  rcases bcases x71 with hb79 | hb79
  ·replace hF := ifT hF hb79
   refine any_memo (fuel := 1) (m := 2047) (fun a w => ∃ (T0 : Fr) (G1 : Ghost), a = mk 26 (upds T0 [(4, (pt b9)), (25, (.bool (x68.Long == (a1.Data.length : Int))))]) ∧ GLe G74 G1 ∧ St c G1 w ((.box b9 130 (kTrules_kind.at_ x68)) :: σ)) ?_ ?_
   ·rintro a w ⟨T0, G170, rfl, hG168, H169⟩
    refine any_rn (i := 11) (m' := 4095) rfl (rn_pure (.bool (x68.Long == (a1.Data.length : Int))) rfl) hPF hns ?_
    refine any_end ?_
    refine then_n ?_
    refine wp_ret ?_
    obtain ⟨v171, hv172, hl173⟩ := H169.loadv (i := 0) rfl ty130
    have hF := Option.some.inj hF
    subst hF
    exact ret_mk rfl (RV.cell rfl hl173 (RV.tmp rfl RV.nil)) ⟨_, v171, (hG72.trans hG168), rfl, (St.pk [] 1 H169 rfl (by decide)), hv172⟩
   intro hM167
   refine any_memo (fuel := 2) (m := 1023) (fun a w => ∃ (T0 : Fr) (G1 : Ghost) (v163 : Value), a = mk 26 (upds T0 [(4, (pt b9)), (16, v163), (25, (.bool (x68.Long == (a1.Data.length : Int))))]) ∧ GLe G74 G1 ∧ St c G1 w ((.box b9 130 (kTrules_kind.at_ zTrules_kind)) :: σ) ∧ kTrules_kind.V G1 v163 x68) ?_ ?_
   ·rintro a w ⟨T0, G162, v163, rfl, hG160, H161, hv164⟩
    refine any_alls [10] ⟨any_ops (m' := 2047) fun Q' hN => ?_, trivial⟩
    refine wl_store (z := x68) H161 (i := 0) rfl (Lens.id kTrules_kind) ty130 rfl rfl hv164 ?_
    intro w175 H174
    refine wl_nil (hN _ _ ?_)
    exact hM167 _ _ ⟨_, _, frame_eq _ ⟨rfl, rfl, trivial⟩, hG160, H174⟩
   intro hM159
   refine any_memo (fuel := 3) (m := 1279) (fun a w => ∃ (T0 : Fr) (G1 : Ghost), a = mk 26 (upds T0 [(4, (pt b9)), (18, (.bool x71)), (20, (.int .i64 x68.Long)), (23, (.int .i64 (a1.Data.length : Int)))]) ∧ GLe G74 G1 ∧ St c G1 w ((.box b9 130 (kTrules_kind.at_ x68)) :: σ)) ?_ ?_
   ·rintro a w ⟨T0, G158, rfl, hG156, H157⟩
    refine any_rnG 18 true (i := 8) (m' := 1535) rfl (rn_pure (.bool (x68.Long == (a1.Data.length : Int))) rfl) (vb hb79) hPF hns ?_
    refine any_rn (i := 9) (m' := 2047) rfl (rn_pickT (.bool (x68.Long == (a1.Data.length : Int))) (vb hb79) rfl) hPF hns ?_
    exact hM167 _ _ ⟨_, _, frame_eq _ ⟨rfl, rfl, trivial⟩, hG156, H157⟩
   intro hM155
   refine any_memo (fuel := 4) (m := 1263) (fun a w => ∃ (T0 : Fr) (G1 : Ghost), a = mk 26 (upds T0 [(4, (pt b9)), (18, (.bool x71)), (19, (pt b69)), (23, (.int .i64 (a1.Data.length : Int)))]) ∧ GLe G74 G1 ∧ St c G1 w ((.box b9 130 (kTrules_kind.at_ x68)) :: (.box b69 130 (kTrules_kind.at_ x68)) :: σ)) ?_ ?_
   ·rintro a w ⟨T0, G154, rfl, hG152, H153⟩
    refine any_alls [4] ⟨any_ops (m' := 1279) fun Q' hN => ?_, trivial⟩
    refine wl_yes rfl rfl rfl (vb hb79) ?_
    refine wl_loadd H153 (i := 1) rfl lTrules_kind_Long (dInt .i64) ty3 rfl ?_
    refine wl_nil (hN _ _ ?_)
    exact hM155 _ _ ⟨_, _, frame_eq _ ⟨rfl, rfl, rfl, rfl, trivial⟩, hG152, (St.pk [0] 2 H153 rfl (by decide))⟩
   intro hM151
   refine any_memo (fuel := 4) (m := 255) (fun a w => ∃ (T0 : Fr) (G1 : Ghost) (v149 : Value), a = mk 26 (upds T0 [(4, (pt b9)), (16, v149), (18, (.bool x71)), (20, (.int .i64 x68.Long)), (23, (.int .i64 (a1.Data.length : Int)))]) ∧ GLe G74 G1 ∧ St c G1 w ((.box b9 130 (kTrules_kind.at_ zTrules_kind)) :: σ) ∧ kTrules_kind.V G1 v149 x68) ?_ ?_
   ·rintro a w ⟨T0, G148, v149, rfl, hG146, H147, hv150⟩
    refine any_rnG 18 true (i := 8) (m' := 511) rfl (rn_pure (.bool (x68.Long == (a1.Data.length : Int))) rfl) (vb hb79) hPF hns ?_
    refine any_rn (i := 9) (m' := 1023) rfl (rn_pickT (.bool (x68.Long == (a1.Data.length : Int))) (vb hb79) rfl) hPF hns ?_
    exact hM159 _ _ ⟨_, _, v149, frame_eq _ ⟨rfl, rfl, rfl, trivial⟩, hG146, H147, hv150⟩
   intro hM145
   refine any_memo (fuel := 5) (m := 254) (fun a w => ∃ (T0 : Fr) (G1 : Ghost), a = mk 26 (upds T0 [(4, (pt b9)), (6, (pt b69)), (18, (.bool x71)), (20, (.int .i64 x68.Long)), (23, (.int .i64 (a1.Data.length : Int)))]) ∧ GLe G74 G1 ∧ St c G1 w ((.box b9 130 (kTrules_kind.at_ zTrules_kind)) :: (.box b69 130 (kTrules_kind.at_ x68)) :: σ)) ?_ ?_
   ·rintro a w ⟨T0, G144, rfl, hG142, H143⟩
    refine any_rnG 18 true (i := 8) (m' := 510) rfl (rn_pure (.bool (x68.Long == (a1.Data.length : Int))) rfl) (vb hb79) hPF hns ?_
    refine any_rn (i := 9) (m' := 1022) rfl (rn_pickT (.bool (x68.Long == (a1.Data.length : Int))) (vb hb79) rfl) hPF hns ?_
    refine any_alls [0] ⟨any_ops (m' := 1023) fun Q' hN => ?_, trivial⟩
    refine wl_load H143 (i := 1) rfl (Lens.id kTrules_kind) ty130 rfl ?_
    intro v176 hv177
    refine wl_nil (hN _ _ ?_)
    exact hM159 _ _ ⟨_, _, v176, frame_eq _ ⟨rfl, rfl, rfl, trivial⟩, hG142, (St.pk [0] 2 H143 rfl (by decide)), hv177⟩
   intro hM141
   refine any_memo (fuel := 5) (m := 239) (fun a w => ∃ (T0 : Fr) (G1 : Ghost) (v137 : Value), a = mk 26 (upds T0 [(4, (pt b9)), (16, v137), (18, (.bool x71)), (19, (pt b69)), (23, (.int .i64 (a1.Data.length : Int)))]) ∧ GLe G74 G1 ∧ St c G1 w ((.box b9 130 (kTrules_kind.at_ zTrules_kind)) :: (.box b69 130 (kTrules_kind.at_ x68)) :: σ) ∧ kTrules_kind.V G1 v137 x68) ?_ ?_
   ·rintro a w ⟨T0, G136, v137, rfl, hG134, H135, hv138⟩
    refine any_alls [4, 10] ⟨?_, ?_, trivial⟩
    ·refine any_ops (m' := 255) fun Q' hN => ?_
     refine wl_yes rfl rfl rfl (vb hb79) ?_
     refine wl_loadd H135 (i := 1) rfl lTrules_kind_Long (dInt .i64) ty3 rfl ?_
     refine wl_nil (hN _ _ ?_)
     exact hM145 _ _ ⟨_, _, v137, frame_eq _ ⟨rfl, rfl, rfl, rfl, rfl, trivial⟩, hG134, (St.pk [0] 2 H135 rfl (by decide)), hv138⟩
    ·refine any_ops (m' := 1263) fun Q' hN => ?_
     refine wl_store (z := x68) H135 (i := 0) rfl (Lens.id kTrules_kind) ty130 rfl rfl hv138 ?_
     intro w179 H178
     refine wl_nil (hN _ _ ?_)
     exact hM151 _ _ ⟨_, _, frame_eq _ ⟨rfl, rfl, rfl, rfl, trivial⟩, hG134, H178⟩
   intro hM133
   refine any_memo (fuel := 5) (m := 1087) (fun a w => ∃ (T0 : Fr) (G1 : Ghost), a = mk 26 (upds T0 [(4, (pt b9)), (18, (.bool x71)), (20, (.int .i64 x68.Long)), (21, (pu b5 1))]) ∧ GLe G74 G1 ∧ St c G1 w ((.box b9 130 (kTrules_kind.at_ x68)) :: (.box b5 60 (kTOpt.at_ a1)) :: σ)) ?_ ?_
   ·rintro a w ⟨T0, G127, rfl, hG125, H126⟩
    refine any_alls [6] ⟨any_ops (m' := 1151) fun Q' hN => ?_, trivial⟩
    refine wl_yes rfl rfl rfl (vb hb79) ?_
    refine wl_load H126 (i := 1) rfl lTOpt_Data ty30 rfl ?_
    intro v180 hv181
    obtain ⟨A182, c183, rfl, hs184⟩ := slice_V hv181
    refine wl_nil (hN _ _ ?_)
    refine any_rnG 18 true (i := 7) (m' := 1279) rfl (rn_len sl30 rfl) (vb hb79) hPF hns ?_
    exact hM155 _ _ ⟨_, _, frame_eq _ ⟨rfl, rfl, rfl, rfl, trivial⟩, hG125, (St.pk [0] 2 H126 rfl (by decide))⟩
   intro hM124
   refine any_memo (fuel := 6) (m := 63) (fun a w => ∃ (T0 : Fr) (G1 : Ghost) (v110 : Value), a = mk 26 (upds T0 [(4, (pt b9)), (16, v110), (18, (.bool x71)), (20, (.int .i64 x68.Long)), (21, (pu b5 1))]) ∧ GLe G74 G1 ∧ St c G1 w ((.box b9 130 (kTrules_kind.at_ zTrules_kind)) :: (.box b5 60 (kTOpt.at_ a1)) :: σ) ∧ kTrules_kind.V G1 v110 x68) ?_ ?_
   ·rintro a w ⟨T0, G109, v110, rfl, hG107, H108, hv111⟩
    refine any_alls [6, 10] ⟨?_, ?_, trivial⟩
    ·refine any_ops (m' := 127) fun Q' hN => ?_
     refine wl_yes rfl rfl rfl (vb hb79) ?_
     refine wl_load H108 (i := 1) rfl lTOpt_Data ty30 rfl ?_
     intro v185 hv186
     obtain ⟨A187, c188, rfl, hs189⟩ := slice_V hv186
     refine wl_nil (hN _ _ ?_)
     refine any_rnG 18 true (i := 7) (m' := 255) rfl (rn_len sl30 rfl) (vb hb79) hPF hns ?_
     exact hM145 _ _ ⟨_, _, v110, frame_eq _ ⟨rfl, rfl, rfl, rfl, rfl, trivial⟩, hG107, (St.pk [0] 2 H108 rfl (by decide)), hv111⟩
    ·refine any_ops (m' := 1087) fun Q' hN => ?_
     refine wl_store (z := x68) H108 (i := 0) rfl (Lens.id kTrules_kind) ty130 rfl rfl hv111 ?_
     intro w191 H190
     refine wl_nil (hN _ _ ?_)
     exact hM124 _ _ ⟨_, _, frame_eq _ ⟨rfl, rfl, rfl, rfl, trivial⟩, hG107, H190⟩
   intro hM106
   refine any_rn (i := 1) (m' := 2) rfl (rn_pure (.bool x71) rfl) hPF hns ?_
   refine any_rn (i := 2) (m' := 6) rfl (rn_pure (.bool x71) rfl) hPF hns ?_
   refine any_rnG 18 true (i := 3) (m' := 14) rfl (rn_field fo130_0 rfl) (vb hb79) hPF hns ?_
   refine any_rnG 18 true (i := 5) (m' := 46) rfl (rn_field fo60_1 rfl) (vb hb79) hPF hns ?_
   refine any_alls [0, 4, 6] ⟨?_, ?_, ?_, trivial⟩
   ·refine any_ops (m' := 47) fun Q' hN => ?_
    refine wl_load H76 (i := 0) rfl (Lens.id kTrules_kind) ty130 rfl ?_
    intro v192 hv193
    refine wl_nil (hN _ _ ?_)
    refine any_alls [4, 6, 10] ⟨?_, ?_, ?_, trivial⟩
    ·refine any_ops (m' := 63) fun Q' hN => ?_
     refine wl_yes rfl rfl rfl (vb hb79) ?_
     refine wl_loadd H76 (i := 0) rfl lTrules_kind_Long (dInt .i64) ty3 rfl ?_
     refine wl_nil (hN _ _ ?_)
     exact hM106 _ _ ⟨_, _, v192, frame_eq _ ⟨rfl, rfl, rfl, rfl, rfl, trivial⟩, GLe.refl _, (St.pk [1, 2] 3 H76 rfl (by decide)), hv193⟩
    ·refine any_ops (m' := 111) fun Q' hN => ?_
     refine wl_yes rfl rfl rfl (vb hb79) ?_
     refine wl_load H76 (i := 2) rfl lTOpt_Data ty30 rfl ?_
     intro v194 hv195
     obtain ⟨A196, c197, rfl, hs198⟩ := slice_V hv195
     refine wl_nil (hN _ _ ?_)
     refine any_rnG 18 true (i := 7) (m' := 239) rfl (rn_len sl30 rfl) (vb hb79) hPF hns ?_
     exact hM133 _ _ ⟨_, _, v192, frame_eq _ ⟨rfl, rfl, rfl, rfl, rfl, trivial⟩, GLe.refl _, (St.pk [1, 0] 3 H76 rfl (by decide)), hv193⟩
    ·refine any_ops (m' := 1071) fun Q' hN => ?_
     refine wl_store (z := x68) H76 (i := 1) rfl (Lens.id kTrules_kind) ty130 rfl rfl hv193 ?_
     intro w200 H199
     refine wl_nil (hN _ _ ?_)
     refine any_alls [4, 6] ⟨?_, ?_, trivial⟩
     ·refine any_ops (m' := 1087) fun Q' hN => ?_
      refine wl_yes rfl rfl rfl (vb hb79) ?_
      refine wl_loadd H199 (i := 0) rfl lTrules_kind_Long (dInt .i64) ty3 rfl ?_
      refine wl_nil (hN _ _ ?_)
      exact hM124 _ _ ⟨_, _, frame_eq _ ⟨rfl, rfl, rfl, rfl, trivial⟩, GLe.refl _, (St.pk [1, 2] 3 H199 rfl (by decide))⟩
     ·refine any_ops (m' := 1135) fun Q' hN => ?_
      refine wl_yes rfl rfl rfl (vb hb79) ?_
      refine wl_load H199 (i := 2) rfl lTOpt_Data ty30 rfl ?_
      intro v201 hv202
      obtain ⟨A203, c204, rfl, hs205⟩ := slice_V hv202
      refine wl_nil (hN _ _ ?_)
      refine any_rnG 18 true (i := 7) (m' := 1263) rfl (rn_len sl30 rfl) (vb hb79) hPF hns ?_
      exact hM151 _ _ ⟨_, _, frame_eq _ ⟨rfl, rfl, rfl, rfl, trivial⟩, GLe.refl _, (St.pk [1, 0] 3 H199 rfl (by decide))⟩
   ·refine any_ops (m' := 62) fun Q' hN => ?_
    refine wl_yes rfl rfl rfl (vb hb79) ?_
    refine wl_loadd H76 (i := 0) rfl lTrules_kind_Long (dInt .i64) ty3 rfl ?_
    refine wl_nil (hN _ _ ?_)
    refine any_alls [0, 6] ⟨?_, ?_, trivial⟩
    ·refine any_ops (m' := 63) fun Q' hN => ?_
     refine wl_load H76 (i := 0) rfl (Lens.id kTrules_kind) ty130 rfl ?_
     intro v206 hv207
     refine wl_nil (hN _ _ ?_)
     exact hM106 _ _ ⟨_, _, v206, frame_eq _ ⟨rfl, rfl, rfl, rfl, rfl, trivial⟩, GLe.refl _, (St.pk [1, 2] 3 H76 rfl (by decide)), hv207⟩
    ·refine any_ops (m' := 126) fun Q' hN => ?_
     refine wl_yes rfl rfl rfl (vb hb79) ?_
     refine wl_load H76 (i := 2) rfl lTOpt_Data ty30 rfl ?_
     intro v208 hv209
     obtain ⟨A210, c211, rfl, hs212⟩ := slice_V hv209
     refine wl_nil (hN _ _ ?_)
     refine any_rnG 18 true (i := 7) (m' := 254) rfl (rn_len sl30 rfl) (vb hb79) hPF hns ?_
     exact hM141 _ _ ⟨_, _, frame_eq _ ⟨rfl, rfl, rfl, rfl, rfl, trivial⟩, GLe.refl _, (St.pk [1, 0] 3 H76 rfl (by decide))⟩
   ·refine any_ops (m' := 110) fun Q' hN => ?_
    refine wl_yes rfl rfl rfl (vb hb79) ?_
    refine wl_load H76 (i := 2) rfl lTOpt_Data ty30 rfl ?_
    intro v213 hv214
    obtain ⟨A215, c216, rfl, hs217⟩ := slice_V hv214
    refine wl_nil (hN _ _ ?_)
    refine any_rnG 18 true (i := 7) (m' := 238) rfl (rn_len sl30 rfl) (vb hb79) hPF hns ?_
    refine any_alls [0, 4] ⟨?_, ?_, trivial⟩
    ·refine any_ops (m' := 239) fun Q' hN => ?_
     refine wl_load H76 (i := 0) rfl (Lens.id kTrules_kind) ty130 rfl ?_
     intro v218 hv219
     refine wl_nil (hN _ _ ?_)
     exact hM133 _ _ ⟨_, _, v218, frame_eq _ ⟨rfl, rfl, rfl, rfl, rfl, trivial⟩, GLe.refl _, (St.pk [1, 0] 3 H76 rfl (by decide)), hv219⟩
    ·refine any_ops (m' := 254) fun Q' hN => ?_
     refine wl_yes rfl rfl rfl (vb hb79) ?_
     refine wl_loadd H76 (i := 0) rfl lTrules_kind_Long (dInt .i64) ty3 rfl ?_
     refine wl_nil (hN _ _ ?_)
     exact hM141 _ _ ⟨_, _, frame_eq _ ⟨rfl, rfl, rfl, rfl, rfl, trivial⟩, GLe.refl _, (St.pk [1, 0] 3 H76 rfl (by decide))⟩
  ·replace hF := ifF hF hb79
   refine any_rn (i := 1) (m' := 2) rfl (rn_pure (.bool x71) rfl) hPF hns ?_
   refine any_rn (i := 2) (m' := 6) rfl (rn_pure (.bool x71) rfl) hPF hns ?_
   refine any_offG (i := 3) (m' := 14) 18 true rfl (vb hb79) hPF hns ?_
   refine any_offG (i := 4) (m' := 30) 18 true rfl (vb hb79) hPF hns ?_
   refine any_offG (i := 5) (m' := 62) 18 true rfl (vb hb79) hPF hns ?_
   refine any_offG (i := 6) (m' := 126) 18 true rfl (vb hb79) hPF hns ?_
   refine any_offG (i := 7) (m' := 254) 18 true rfl (vb hb79) hPF hns ?_
   refine any_offG (i := 8) (m' := 510) 18 true rfl (vb hb79) hPF hns ?_
   refine any_rn (i := 9) (m' := 1022) rfl (rn_pickF (.bool false) (vb hb79) rfl) hPF hns ?_
   refine any_alls [0] ⟨any_ops (m' := 1023) fun Q' hN => ?_, trivial⟩
   refine wl_load H76 (i := 0) rfl (Lens.id kTrules_kind) ty130 rfl ?_
   intro v226 hv227
   refine wl_nil (hN _ _ ?_)
   refine any_alls [10] ⟨any_ops (m' := 2047) fun Q' hN => ?_, trivial⟩
   refine wl_store (z := x68) H76 (i := 1) rfl (Lens.id kTrules_kind) ty130 rfl rfl hv227 ?_
   intro w229 H228
   refine wl_nil (hN _ _ ?_)
   refine any_rn (i := 11) (m' := 4095) rfl (rn_pure (.bool false) rfl) hPF hns ?_
   refine any_end ?_
   refine then_n ?_
   refine wp_ret ?_
   obtain ⟨v230, hv231, hl232⟩ := H228.loadv (i := 1) rfl ty130
   have hF := Option.some.inj hF
   subst hF
   exact ret_mk rfl (RV.cell rfl hl232 (RV.tmp rfl RV.nil)) ⟨_, v230, hG72, rfl, (St.pk [] 3 H228 rfl (by decide)), hv231⟩
 ·refine wc_anyS (f := 11) H10 mixed ?_
  intro w233 H234
  refine any_pf (by repeat (first | exact PF.base | apply PF.then_ | apply PF.blk)) ?_
  intro hPF hns
  rcases bcases a0.Ip with hb237 | hb237
  ·replace hF := ifT hF hb237
   obtain ⟨r238, hr239, hF⟩ := bindS hF
   rcases bcases (a1.Typ == 3) with hb249 | hb249
   ·replace hF := ifT hF hb249
    refine any_memo (fuel := 2) (m := 511) (fun a w => ∃ (T0 : Fr) (G1 : Ghost) (b347 : Nat) (v348 : Value), a = mk 26 (upds T0 [(3, (pt b5)), (4, (pt b9)), (6, (pt b347)), (14, v348), (15, (.bool true))]) ∧ GLe G G1 ∧ St c G1 w ((.box b5 60 (kTOpt.at_ a1)) :: (.box b9 130 (kTrules_kind.at_ zTrules_kind)) :: (.box b347 130 (kTrules_kind.at_ zTrules_kind)) :: σ) ∧ kTrules_kind.V G1 v348 (Trules_kind.mk 4 (FV.rules_kinds_1 a0) a0.Addr)) ?_ ?_
    ·rintro a w ⟨T0, G346, b347, v348, rfl, hG344, H345, hv349⟩
     refine any_alls [9] ⟨any_ops (m' := 1023) fun Q' hN => ?_, trivial⟩
     refine wl_store (z := (Trules_kind.mk 4 (FV.rules_kinds_1 a0) a0.Addr)) H345 (i := 2) rfl (Lens.id kTrules_kind) ty130 rfl rfl hv349 ?_
     intro w353 H352
     refine wl_nil (hN _ _ ?_)
     refine any_rn (i := 10) (m' := 2047) rfl (rn_pure (.bool true) rfl) hPF hns ?_
     refine any_end ?_
     refine then_n ?_
     exact ⟨_, _, (Trules_kind.mk 4 (FV.rules_kinds_1 a0) a0.Addr), true, b347, frame_eq _ ⟨rfl, rfl, rfl, rfl, trivial⟩, hG344, (St.pk [2, 1, 0] 3 H352 rfl (by decide)), hF⟩
    intro hM343
    refine any_memo (fuel := 6) (m := 271) (fun a w => ∃ (T0 : Fr) (G1 : Ghost) (b335 : Nat) (r336 : Nat) (v337 : Value), a = mk 26 (upds T0 [(3, (pt b5)), (4, (pt b9)), (6, (pt b335)), (10, (.map (some r336))), (12, (.int .u8 a1.Typ))]) ∧ GLe G G1 ∧ St c G1 w ((.box b5 60 (kTOpt.at_ a1)) :: (.box b9 130 (kTrules_kind.at_ zTrules_kind)) :: (.box b335 130 (kTrules_kind.at_ zTrules_kind)) :: (.mp r336 [⟨.int .u8 3, v337, 0⟩] 1) :: σ) ∧ kTrules_kind.V G1 v337 (Trules_kind.mk 4 (FV.rules_kinds_1 a0) a0.Addr)) ?_ ?_
    ·rintro a w ⟨T0, G334, b335, r336, v337, rfl, hG332, H333, hv338⟩
     refine any_alls [4] ⟨any_ops (m' := 287) fun Q' hN => ?_, trivial⟩
     refine wl_lookup (key := (.int .u8 a1.Typ)) (val := v337) (ok := true) H333 (i := 3) rfl mt142 un5 rfl rfl (by simp [Go.MapKept.IsKey]) ⟨_, (fnd_yes hb249), .inl ⟨_, rfl, rfl⟩⟩ ?_
     refine wl_nil (hN _ _ ?_)
     refine any_rn (i := 5) (m' := 319) rfl (rn_pure (.tuple #[v337, (.bool true)]) rfl) hPF hns ?_
     refine any_rn (i := 6) (m' := 383) rfl (rn_pure v337 rfl) hPF hns ?_
     refine any_rn (i := 7) (m' := 511) rfl (rn_pure (.bool true) rfl) hPF hns ?_
     exact hM343 _ _ ⟨_, _, b335, v337, frame_eq _ ⟨rfl, rfl, rfl, rfl, rfl, trivial⟩, hG332, (St.pk [0, 1, 2] 4 H333 rfl (by decide)), hv338⟩
    intro hM331
    refine any_memo (fuel := 7) (m := 269) (fun a w => ∃ (T0 : Fr) (G1 : Ghost) (b328 : Nat) (v329 : Value), a = mk 26 (upds T0 [(3, (pt b5)), (4, (pt b9)), (6, (pt b328)), (9, v329), (12, (.int .u8 a1.Typ))]) ∧ GLe G G1 ∧ St c G1 w ((.box b5 60 (kTOpt.at_ a1)) :: (.box b9 130 (kTrules_kind.at_ zTrules_kind)) :: (.box b328 130 (kTrules_kind.at_ zTrules_kind)) :: σ) ∧ kTRule.V G1 v329 a0) ?_ ?_
    ·rintro a w ⟨T0, G327, b328, v329, rfl, hG325, H326, hv330⟩
     refine any_alls [1] ⟨any_ops (m' := 271) fun Q' hN => ?_, trivial⟩
     refine wl_call (vs := [v329]) en96 rfl (rules_kinds_k1_ok hc hv330 hb237 H326 hr239) ?_
     rintro v358 w357 ⟨G354, r359, v361, hG355, rfl, H356, hv362⟩
     refine wl_nil (hN _ _ ?_)
     exact hM331 _ _ ⟨_, _, b328, r359, v361, frame_eq _ ⟨rfl, rfl, rfl, rfl, rfl, trivial⟩, (hG325.trans hG355), (St.pk [1, 2, 3, 0] 4 H356 rfl (by decide)), hv362⟩
    intro hM324
    refine any_memo (fuel := 7) (m := 263) (fun a w => ∃ (T0 : Fr) (G1 : Ghost) (b320 : Nat) (r321 : Nat) (v322 : Value), a = mk 26 (upds T0 [(3, (pt b5)), (4, (pt b9)), (6, (pt b320)), (10, (.map (some r321))), (11, (pt b5))]) ∧ GLe G G1 ∧ St c G1 w ((.box b5 60 (kTOpt.at_ a1)) :: (.box b9 130 (kTrules_kind.at_ zTrules_kind)) :: (.box b320 130 (kTrules_kind.at_ zTrules_kind)) :: (.mp r321 [⟨.int .u8 3, v322, 0⟩] 1) :: σ) ∧ kTrules_kind.V G1 v322 (Trules_kind.mk 4 (FV.rules_kinds_1 a0) a0.Addr)) ?_ ?_
    ·rintro a w ⟨T0, G319, b320, r321, v322, rfl, hG317, H318, hv323⟩
     refine any_alls [3] ⟨any_ops (m' := 271) fun Q' hN => ?_, trivial⟩
     refine wl_loadd H318 (i := 0) rfl lTOpt_Typ (dInt .u8) ty5 rfl ?_
     refine wl_nil (hN _ _ ?_)
     exact hM331 _ _ ⟨_, _, b320, r321, v322, frame_eq _ ⟨rfl, rfl, rfl, rfl, rfl, trivial⟩, hG317, H318, hv323⟩
    intro hM316
    refine any_memo (fuel := 7) (m := 15) (fun a w => ∃ (T0 : Fr) (G1 : Ghost) (r309 : Nat) (v310 : Value), a = mk 26 (upds T0 [(3, (pt b5)), (4, (pt b9)), (10, (.map (some r309))), (12, (.int .u8 a1.Typ))]) ∧ GLe G G1 ∧ St c G1 w ((.box b5 60 (kTOpt.at_ a1)) :: (.box b9 130 (kTrules_kind.at_ zTrules_kind)) :: (.mp r309 [⟨.int .u8 3, v310, 0⟩] 1) :: σ) ∧ kTrules_kind.V G1 v310 (Trules_kind.mk 4 (FV.rules_kinds_1 a0) a0.Addr)) ?_ ?_
    ·rintro a w ⟨T0, G308, r309, v310, rfl, hG306, H307, hv311⟩
     refine any_alls [4, 8] ⟨?_, ?_, trivial⟩
     ·refine any_ops (m' := 31) fun Q' hN => ?_
      refine wl_lookup (key := (.int .u8 a1.Typ)) (val := v310) (ok := true) H307 (i := 2) rfl mt142 un5 rfl rfl (by simp [Go.MapKept.IsKey]) ⟨_, (fnd_yes hb249), .inl ⟨_, rfl, rfl⟩⟩ ?_
      refine wl_nil (hN _ _ ?_)
      refine any_rn (i := 5) (m' := 63) rfl (rn_pure (.tuple #[v310, (.bool true)]) rfl) hPF hns ?_
      refine any_rn (i := 6) (m' := 127) rfl (rn_pure v310 rfl) hPF hns ?_
      refine any_rn (i := 7) (m' := 255) rfl (rn_pure (.bool true) rfl) hPF hns ?_
      refine any_alls [8] ⟨any_ops (m' := 511) fun Q' hN => ?_, trivial⟩
      refine wl_alloc H307 zr130 ?_
      intro b363 w366 H364
      refine wl_nil (hN _ _ ?_)
      exact hM343 _ _ ⟨_, _, b363, v310, frame_eq _ ⟨rfl, rfl, rfl, rfl, rfl, trivial⟩, hG306, (St.pk [1, 2, 0] 4 H364 rfl (by decide)), hv311⟩
     ·refine any_ops (m' := 271) fun Q' hN => ?_
      refine wl_alloc H307 zr130 ?_
      intro b367 w370 H368
      refine wl_nil (hN _ _ ?_)
      exact hM331 _ _ ⟨_, _, b367, r309, v310, frame_eq _ ⟨rfl, rfl, rfl, rfl, rfl, trivial⟩, hG306, (St.pk [1, 2, 0, 3] 4 H368 rfl (by decide)), hv311⟩
    intro hM305
    refine any_memo (fuel := 8) (m := 268) (fun a w => ∃ (T0 : Fr) (G1 : Ghost) (b304 : Nat), a = mk 26 (upds T0 [(2, (pt b1)), (3, (pt b5)), (4, (pt b9)), (6, (pt b304)), (12, (.int .u8 a1.Typ))]) ∧ GLe G G1 ∧ St c G1 w ((.box b1 26 (kTRule.at_ a0)) :: (.box b5 60 (kTOpt.at_ a1)) :: (.box b9 130 (kTrules_kind.at_ zTrules_kind)) :: (.box b304 130 (kTrules_kind.at_ zTrules_kind)) :: σ)) ?_ ?_
    ·rintro a w ⟨T0, G303, b304, rfl, hG301, H302⟩
     refine any_alls [0] ⟨any_ops (m' := 269) fun Q' hN => ?_, trivial⟩
     refine wl_load H302 (i := 0) rfl (Lens.id kTRule) ty26 rfl ?_
     intro v371 hv372
     refine wl_nil (hN _ _ ?_)
     exact hM324 _ _ ⟨_, _, b304, v371, frame_eq _ ⟨rfl, rfl, rfl, rfl, rfl, trivial⟩, hG301, (St.pk [1, 2, 3] 4 H302 rfl (by decide)), hv372⟩
    intro hM300
    refine any_memo (fuel := 8) (m := 261) (fun a w => ∃ (T0 : Fr) (G1 : Ghost) (b297 : Nat) (v298 : Value), a = mk 26 (upds T0 [(3, (pt b5)), (4, (pt b9)), (6, (pt b297)), (9, v298), (11, (pt b5))]) ∧ GLe G G1 ∧ St c G1 w ((.box b5 60 (kTOpt.at_ a1)) :: (.box b9 130 (kTrules_kind.at_ zTrules_kind)) :: (.box b297 130 (kTrules_kind.at_ zTrules_kind)) :: σ) ∧ kTRule.V G1 v298 a0) ?_ ?_
    ·rintro a w ⟨T0, G296, b297, v298, rfl, hG294, H295, hv299⟩
     refine any_alls [1, 3] ⟨?_, ?_, trivial⟩
     ·refine any_ops (m' := 263) fun Q' hN => ?_
      refine wl_call (vs := [v298]) en96 rfl (rules_kinds_k1_ok hc hv299 hb237 H295 hr239) ?_
      rintro v377 w376 ⟨G373, r378, v380, hG374, rfl, H375, hv381⟩
      refine wl_nil (hN _ _ ?_)
      exact hM316 _ _ ⟨_, _, b297, r378, v380, frame_eq _ ⟨rfl, rfl, rfl, rfl, rfl, trivial⟩, (hG294.trans hG374), (St.pk [1, 2, 3, 0] 4 H375 rfl (by decide)), hv381⟩
     ·refine any_ops (m' := 269) fun Q' hN => ?_
      refine wl_loadd H295 (i := 0) rfl lTOpt_Typ (dInt .u8) ty5 rfl ?_
      refine wl_nil (hN _ _ ?_)
      exact hM324 _ _ ⟨_, _, b297, v298, frame_eq _ ⟨rfl, rfl, rfl, rfl, rfl, trivial⟩, hG294, H295, hv299⟩
    intro hM293
    refine any_memo (fuel := 8) (m := 13) (fun a w => ∃ (T0 : Fr) (G1 : Ghost) (v287 : Value), a = mk 26 (upds T0 [(3, (pt b5)), (4, (pt b9)), (9, v287), (12, (.int .u8 a1.Typ))]) ∧ GLe G G1 ∧ St c G1 w ((.box b5 60 (kTOpt.at_ a1)) :: (.box b9 130 (kTrules_kind.at_ zTrules_kind)) :: σ) ∧ kTRule.V G1 v287 a0) ?_ ?_
    ·rintro a w ⟨T0, G286, v287, rfl, hG284, H285, hv288⟩
     refine any_alls [1, 8] ⟨?_, ?_, trivial⟩
     ·refine any_ops (m' := 15) fun Q' hN => ?_
      refine wl_call (vs := [v287]) en96 rfl (rules_kinds_k1_ok hc hv288 hb237 H285 hr239) ?_
      rintro v386 w385 ⟨G382, r387, v389, hG383, rfl, H384, hv390⟩
      refine wl_nil (hN _ _ ?_)
      exact hM305 _ _ ⟨_, _, r387, v389, frame_eq _ ⟨rfl, rfl, rfl, rfl, trivial⟩, (hG284.trans hG383), (St.pk [1, 2, 0] 3 H384 rfl (by decide)), hv390⟩
     ·refine any_ops (m' := 269) fun Q' hN => ?_
      refine wl_alloc H285 zr130 ?_
      intro b391 w394 H392
      refine wl_nil (hN _ _ ?_)
      exact hM324 _ _ ⟨_, _, b391, v287, frame_eq _ ⟨rfl, rfl, rfl, rfl, rfl, trivial⟩, hG284, (St.pk [1, 2, 0] 3 H392 rfl (by decide)), hv288⟩
    intro hM283
    refine any_rn (i := 2) (m' := 4) rfl (rn_field fo60_0 rfl) hPF hns ?_
    refine any_alls [0, 3, 8] ⟨?_, ?_, ?_, trivial⟩
    ·refine any_ops (m' := 5) fun Q' hN => ?_
     refine wl_load H234 (i := 2) rfl (Lens.id kTRule) ty26 rfl ?_
     intro v395 hv396
     refine wl_nil (hN _ _ ?_)
     refine any_alls [1, 3, 8] ⟨?_, ?_, ?_, trivial⟩
     ·refine any_ops (m' := 7) fun Q' hN => ?_
      refine wl_call (vs := [v395]) en96 rfl (rules_kinds_k1_ok hc hv396 hb237 H234 hr239) ?_
      rintro v401 w400 ⟨G397, r402, v404, hG398, rfl, H399, hv405⟩
      refine wl_nil (hN _ _ ?_)
      refine any_alls [3, 8] ⟨?_, ?_, trivial⟩
      ·refine any_ops (m' := 15) fun Q' hN => ?_
       refine wl_loadd H399 (i := 2) rfl lTOpt_Typ (dInt .u8) ty5 rfl ?_
       refine wl_nil (hN _ _ ?_)
       exact hM305 _ _ ⟨_, _, r402, v404, frame_eq _ ⟨rfl, rfl, rfl, rfl, trivial⟩, hG398, (St.pk [2, 1, 0] 4 H399 rfl (by decide)), hv405⟩
      ·refine any_ops (m' := 263) fun Q' hN => ?_
       refine wl_alloc H399 zr130 ?_
       intro b406 w409 H407
       refine wl_nil (hN _ _ ?_)
       exact hM316 _ _ ⟨_, _, b406, r402, v404, frame_eq _ ⟨rfl, rfl, rfl, rfl, rfl, trivial⟩, hG398, (St.pk [3, 2, 0, 1] 5 H407 rfl (by decide)), hv405⟩
     ·refine any_ops (m' := 13) fun Q' hN => ?_
      refine wl_loadd H234 (i := 1) rfl lTOpt_Typ (dInt .u8) ty5 rfl ?_
      refine wl_nil (hN _ _ ?_)
      exact hM283 _ _ ⟨_, _, v395, frame_eq _ ⟨rfl, rfl, rfl, rfl, trivial⟩, GLe.refl _, (St.pk [1, 0] 3 H234 rfl (by decide)), hv396⟩
     ·refine any_ops (m' := 261) fun Q' hN => ?_
      refine wl_alloc H234 zr130 ?_
      intro b410 w413 H411
      refine wl_nil (hN _ _ ?_)
      exact hM293 _ _ ⟨_, _, b410, v395, frame_eq _ ⟨rfl, rfl, rfl, rfl, rfl, trivial⟩, GLe.refl _, (St.pk [2, 1, 0] 4 H411 rfl (by decide)), hv396⟩
    ·refine any_ops (m' := 12) fun Q' hN => ?_
     refine wl_loadd H234 (i := 1) rfl lTOpt_Typ (dInt .u8) ty5 rfl ?_
     refine wl_nil (hN _ _ ?_)
     refine any_alls [0, 8] ⟨?_, ?_, trivial⟩
     ·refine any_ops (m' := 13) fun Q' hN => ?_
      refine wl_load H234 (i := 2) rfl (Lens.id kTRule) ty26 rfl ?_
      intro v414 hv415
      refine wl_nil (hN _ _ ?_)
      exact hM283 _ _ ⟨_, _, v414, frame_eq _ ⟨rfl, rfl, rfl, rfl, trivial⟩, GLe.refl _, (St.pk [1, 0] 3 H234 rfl (by decide)), hv415⟩
     ·refine any_ops (m' := 268) fun Q' hN => ?_
      refine wl_alloc H234 zr130 ?_
      intro b416 w419 H417
      refine wl_nil (hN _ _ ?_)
      exact hM300 _ _ ⟨_, _, b416, frame_eq _ ⟨rfl, rfl, rfl, rfl, rfl, trivial⟩, GLe.refl _, (St.pk [3, 2, 1, 0] 4 H417 rfl (by decide))⟩
    ·refine any_ops (m' := 260) fun Q' hN => ?_
     refine wl_alloc H234 zr130 ?_
     intro b420 w423 H421
     refine wl_nil (hN _ _ ?_)
     refine any_alls [0, 3] ⟨?_, ?_, trivial⟩
     ·refine any_ops (m' := 261) fun Q' hN => ?_
      refine wl_load H421 (i := 3) rfl (Lens.id kTRule) ty26 rfl ?_
      intro v424 hv425
      refine wl_nil (hN _ _ ?_)
      exact hM293 _ _ ⟨_, _, b420, v424, frame_eq _ ⟨rfl, rfl, rfl, rfl, rfl, trivial⟩, GLe.refl _, (St.pk [2, 1, 0] 4 H421 rfl (by decide)), hv425⟩
     ·refine any_ops (m' := 268) fun Q' hN => ?_
      refine wl_loadd H421 (i := 2) rfl lTOpt_Typ (dInt .u8) ty5 rfl ?_
      refine wl_nil (hN _ _ ?_)
      exact hM300 _ _ ⟨_, _, b420, frame_eq _ ⟨rfl, rfl, rfl, rfl, rfl, trivial⟩, GLe.refl _, (St.pk [3, 2, 1, 0] 4 H421 rfl (by decide))⟩
   ·replace hF := ifF hF hb249
    refine any_memo (fuel := 2) (m := 511) (fun a w => ∃ (T0 : Fr) (G1 : Ghost) (b526 : Nat) (v527 : Value), a = mk 26 (upds T0 [(3, (pt b5)), (4, (pt b9)), (6, (pt b526)), (14, v527), (15, (.bool false))]) ∧ GLe G G1 ∧ St c G1 w ((.box b5 60 (kTOpt.at_ a1)) :: (.box b9 130 (kTrules_kind.at_ zTrules_kind)) :: (.box b526 130 (kTrules_kind.at_ zTrules_kind)) :: σ) ∧ kTrules_kind.V G1 v527 zTrules_kind) ?_ ?_
    ·rintro a w ⟨T0, G525, b526, v527, rfl, hG523, H524, hv528⟩
     refine any_alls [9] ⟨any_ops (m' := 1023) fun Q' hN => ?_, trivial⟩
     refine wl_store (z := zTrules_kind) H524 (i := 2) rfl (Lens.id kTrules_kind) ty130 rfl rfl hv528 ?_
     intro w532 H531
     refine wl_nil (hN _ _ ?_)
     refine any_rn (i := 10) (m' := 2047) rfl (rn_pure (.bool false) rfl) hPF hns ?_
     refine any_end ?_
     refine then_n ?_
     exact ⟨_, _, zTrules_kind, false, b526, frame_eq _ ⟨rfl, rfl, rfl, rfl, trivial⟩, hG523, (St.pk [2, 1, 0] 3 H531 rfl (by decide)), hF⟩
    intro hM522
    refine any_memo (fuel := 6) (m := 271) (fun a w => ∃ (T0 : Fr) (G1 : Ghost) (b513 : Nat) (r514 : Nat) (v515 : Value), a = mk 26 (upds T0 [(3, (pt b5)), (4, (pt b9)), (6, (pt b513)), (10, (.map (some r514))), (12, (.int .u8 a1.Typ))]) ∧ GLe G G1 ∧ St c G1 w ((.box b5 60 (kTOpt.at_ a1)) :: (.box b9 130 (kTrules_kind.at_ zTrules_kind)) :: (.box b513 130 (kTrules_kind.at_ zTrules_kind)) :: (.mp r514 [⟨.int .u8 3, v515, 0⟩] 1) :: σ) ∧ kTrules_kind.V G1 v515 (Trules_kind.mk 4 (FV.rules_kinds_1 a0) a0.Addr)) ?_ ?_
    ·rintro a w ⟨T0, G512, b513, r514, v515, rfl, hG510, H511, hv516⟩
     refine any_alls [4] ⟨any_ops (m' := 287) fun Q' hN => ?_, trivial⟩
     have hv533 : kTrules_kind.V G512 (.agg #[(.int .i64 0), (.nilFunc), (.int .u32 0)]) zTrules_kind := ⟨[(.int .i64 0), (.nilFunc), (.int .u32 0)], rfl, (zcTrules_kind _)⟩
     refine wl_lookup (key := (.int .u8 a1.Typ)) (val := (.agg #[(.int .i64 0), (.nilFunc), (.int .u32 0)])) (ok := false) H511 (i := 3) rfl mt142 un5 rfl rfl (by simp [Go.MapKept.IsKey]) ⟨_, (fnd_no hb249 rfl), .inr ⟨rfl, rfl, mz130⟩⟩ ?_
     refine wl_nil (hN _ _ ?_)
     refine any_rn (i := 5) (m' := 319) rfl (rn_pure (.tuple #[(.agg #[(.int .i64 0), (.nilFunc), (.int .u32 0)]), (.bool false)]) rfl) hPF hns ?_
     refine any_rn (i := 6) (m' := 383) rfl (rn_pure (.agg #[(.int .i64 0), (.nilFunc), (.int .u32 0)]) rfl) hPF hns ?_
     refine any_rn (i := 7) (m' := 511) rfl (rn_pure (.bool false) rfl) hPF hns ?_
     exact hM522 _ _ ⟨_, _, b513, (.agg #[(.int .i64 0), (.nilFunc), (.int .u32 0)]), frame_eq _ ⟨rfl, rfl, rfl, rfl, rfl, trivial⟩, hG510, (St.pk [0, 1, 2] 4 H511 rfl (by decide)), hv533⟩
    intro hM509
    refine any_memo (fuel := 7) (m := 269) (fun a w => ∃ (T0 : Fr) (G1 : Ghost) (b506 : Nat) (v507 : Value), a = mk 26 (upds T0 [(3, (pt b5)), (4, (pt b9)), (6, (pt b506)), (9, v507), (12, (.int .u8 a1.Typ))]) ∧ GLe G G1 ∧ St c G1 w ((.box b5 60 (kTOpt.at_ a1)) :: (.box b9 130 (kTrules_kind.at_ zTrules_kind)) :: (.box b506 130 (kTrules_kind.at_ zTrules_kind)) :: σ) ∧ kTRule.V G1 v507 a0) ?_ ?_
    ·rintro a w ⟨T0, G505, b506, v507, rfl, hG503, H504, hv508⟩
     refine any_alls [1] ⟨any_ops (m' := 271) fun Q' hN => ?_, trivial⟩
     refine wl_call (vs := [v507]) en96 rfl (rules_kinds_k1_ok hc hv508 hb237 H504 hr239) ?_
     rintro v538 w537 ⟨G534, r539, v541, hG535, rfl, H536, hv542⟩
     refine wl_nil (hN _ _ ?_)
     exact hM509 _ _ ⟨_, _, b506, r539, v541, frame_eq _ ⟨rfl, rfl, rfl, rfl, rfl, trivial⟩, (hG503.trans hG535), (St.pk [1, 2, 3, 0] 4 H536 rfl (by decide)), hv542⟩
    intro hM502
    refine any_memo (fuel := 7) (m := 263) (fun a w => ∃ (T0 : Fr) (G1 : Ghost) (b498 : Nat) (r499 : Nat) (v500 : Value), a = mk 26 (upds T0 [(3, (pt b5)), (4, (pt b9)), (6, (pt b498)), (10, (.map (some r499))), (11, (pt b5))]) ∧ GLe G G1 ∧ St c G1 w ((.box b5 60 (kTOpt.at_ a1)) :: (.box b9 130 (kTrules_kind.at_ zTrules_kind)) :: (.box b498 130 (kTrules_kind.at_ zTrules_kind)) :: (.mp r499 [⟨.int .u8 3, v500, 0⟩] 1) :: σ) ∧ kTrules_kind.V G1 v500 (Trules_kind.mk 4 (FV.rules_kinds_1 a0) a0.Addr)) ?_ ?_
    ·rintro a w ⟨T0, G497, b498, r499, v500, rfl, hG495, H496, hv501⟩
     refine any_alls [3] ⟨any_ops (m' := 271) fun Q' hN => ?_, trivial⟩
     refine wl_loadd H496 (i := 0) rfl lTOpt_Typ (dInt .u8) ty5 rfl ?_
     refine wl_nil (hN _ _ ?_)
     exact hM509 _ _ ⟨_, _, b498, r499, v500, frame_eq _ ⟨rfl, rfl, rfl, rfl, rfl, trivial⟩, hG495, H496, hv501⟩
    intro hM494
    refine any_memo (fuel := 7) (m := 15) (fun a w => ∃ (T0 : Fr) (G1 : Ghost) (r486 : Nat) (v487 : Value), a = mk 26 (upds T0 [(3, (pt b5)), (4, (pt b9)), (10, (.map (some r486))), (12, (.int .u8 a1.Typ))]) ∧ GLe G G1 ∧ St c G1 w ((.box b5 60 (kTOpt.at_ a1)) :: (.box b9 130 (kTrules_kind.at_ zTrules_kind)) :: (.mp r486 [⟨.int .u8 3, v487, 0⟩] 1) :: σ) ∧ kTrules_kind.V G1 v487 (Trules_kind.mk 4 (FV.rules_kinds_1 a0) a0.Addr)) ?_ ?_
    ·rintro a w ⟨T0, G485, r486, v487, rfl, hG483, H484, hv488⟩
     refine any_alls [4, 8] ⟨?_, ?_, trivial⟩
     ·refine any_ops (m' := 31) fun Q' hN => ?_
      have hv543 : kTrules_kind.V G485 (.agg #[(.int .i64 0), (.nilFunc), (.int .u32 0)]) zTrules_kind := ⟨[(.int .i64 0), (.nilFunc), (.int .u32 0)], rfl, (zcTrules_kind _)⟩
      refine wl_lookup (key := (.int .u8 a1.Typ)) (val := (.agg #[(.int .i64 0), (.nilFunc), (.int .u32 0)])) (ok := false) H484 (i := 2) rfl mt142 un5 rfl rfl (by simp [Go.MapKept.IsKey]) ⟨_, (fnd_no hb249 rfl), .inr ⟨rfl, rfl, mz130⟩⟩ ?_
      refine wl_nil (hN _ _ ?_)
      refine any_rn (i := 5) (m' := 63) rfl (rn_pure (.tuple #[(.agg #[(.int .i64 0), (.nilFunc), (.int .u32 0)]), (.bool false)]) rfl) hPF hns ?_
      refine any_rn (i := 6) (m' := 127) rfl (rn_pure (.agg #[(.int .i64 0), (.nilFunc), (.int .u32 0)]) rfl) hPF hns ?_
      refine any_rn (i := 7) (m' := 255) rfl (rn_pure (.bool false) rfl) hPF hns ?_
      refine any_alls [8] ⟨any_ops (m' := 511) fun Q' hN => ?_, trivial⟩
      refine wl_alloc H484 zr130 ?_
      intro b544 w547 H545
      refine wl_nil (hN _ _ ?_)
      exact hM522 _ _ ⟨_, _, b544, (.agg #[(.int .i64 0), (.nilFunc), (.int .u32 0)]), frame_eq _ ⟨rfl, rfl, rfl, rfl, rfl, trivial⟩, hG483, (St.pk [1, 2, 0] 4 H545 rfl (by decide)), hv543⟩
     ·refine any_ops (m' := 271) fun Q' hN => ?_
      refine wl_alloc H484 zr130 ?_
      intro b548 w551 H549
      refine wl_nil (hN _ _ ?_)
      exact hM509 _ _ ⟨_, _, b548, r486, v487, frame_eq _ ⟨rfl, rfl, rfl, rfl, rfl, trivial⟩, hG483, (St.pk [1, 2, 0, 3] 4 H549 rfl (by decide)), hv488⟩
    intro hM482
    refine any_memo (fuel := 8) (m := 268) (fun a w => ∃ (T0 : Fr) (G1 : Ghost) (b481 : Nat), a = mk 26 (upds T0 [(2, (pt b1)), (3, (pt b5)), (4, (pt b9)), (6, (pt b481)), (12, (.int .u8 a1.Typ))]) ∧ GLe G G1 ∧ St c G1 w ((.box b1 26 (kTRule.at_ a0)) :: (.box b5 60 (kTOpt.at_ a1)) :: (.box b9 130 (kTrules_kind.at_ zTrules_kind)) :: (.box b481 130 (kTrules_kind.at_ zTrules_kind)) :: σ)) ?_ ?_
    ·rintro a w ⟨T0, G480, b481, rfl, hG478, H479⟩
     refine any_alls [0] ⟨any_ops (m' := 269) fun Q' hN => ?_, trivial⟩
     refine wl_load H479 (i := 0) rfl (Lens.id kTRule) ty26 rfl ?_
     intro v552 hv553
     refine wl_nil (hN _ _ ?_)
     exact hM502 _ _ ⟨_, _, b481, v552, frame_eq _ ⟨rfl, rfl, rfl, rfl, rfl, trivial⟩, hG478, (St.pk [1, 2, 3] 4 H479 rfl (by decide)), hv553⟩
    intro hM477
    refine any_memo (fuel := 8) (m := 261) (fun a w => ∃ (T0 : Fr) (G1 : Ghost) (b474 : Nat) (v475 : Value), a = mk 26 (upds T0 [(3, (pt b5)), (4, (pt b9)), (6, (pt b474)), (9, v475), (11, (pt b5))]) ∧ GLe G G1 ∧ St c G1 w ((.box b5 60 (kTOpt.at_ a1)) :: (.box b9 130 (kTrules_kind.at_ zTrules_kind)) :: (.box b474 130 (kTrules_kind.at_ zTrules_kind)) :: σ) ∧ kTRule.V G1 v475 a0) ?_ ?_
    ·rintro a w ⟨T0, G473, b474, v475, rfl, hG471, H472, hv476⟩
     refine any_alls [1, 3] ⟨?_, ?_, trivial⟩
     ·refine any_ops (m' := 263) fun Q' hN => ?_
      refine wl_call (vs := [v475]) en96 rfl (rules_kinds_k1_ok hc hv476 hb237 H472 hr239) ?_
      rintro v558 w557 ⟨G554, r559, v561, hG555, rfl, H556, hv562⟩
      refine wl_nil (hN _ _ ?_)
      exact hM494 _ _ ⟨_, _, b474, r559, v561, frame_eq _ ⟨rfl, rfl, rfl, rfl, rfl, trivial⟩, (hG471.trans hG555), (St.pk [1, 2, 3, 0] 4 H556 rfl (by decide)), hv562⟩
     ·refine any_ops (m' := 269) fun Q' hN => ?_
      refine wl_loadd H472 (i := 0) rfl lTOpt_Typ (dInt .u8) ty5 rfl ?_
      refine wl_nil (hN _ _ ?_)
      exact hM502 _ _ ⟨_, _, b474, v475, frame_eq _ ⟨rfl, rfl, rfl, rfl, rfl, trivial⟩, hG471, H472, hv476⟩
    intro hM470
    refine any_memo (fuel := 8) (m := 13) (fun a w => ∃ (T0 : Fr) (G1 : Ghost) (v464 : Value), a = mk 26 (upds T0 [(3, (pt b5)), (4, (pt b9)), (9, v464), (12, (.int .u8 a1.Typ))]) ∧ GLe G G1 ∧ St c G1 w ((.box b5 60 (kTOpt.at_ a1)) :: (.box b9 130 (kTrules_kind.at_ zTrules_kind)) :: σ) ∧ kTRule.V G1 v464 a0) ?_ ?_
    ·rintro a w ⟨T0, G463, v464, rfl, hG461, H462, hv465⟩
     refine any_alls [1, 8] ⟨?_, ?_, trivial⟩
     ·refine any_ops (m' := 15) fun Q' hN => ?_
      refine wl_call (vs := [v464]) en96 rfl (rules_kinds_k1_ok hc hv465 hb237 H462 hr239) ?_
      rintro v567 w566 ⟨G563, r568, v570, hG564, rfl, H565, hv571⟩
      refine wl_nil (hN _ _ ?_)
      exact hM482 _ _ ⟨_, _, r568, v570, frame_eq _ ⟨rfl, rfl, rfl, rfl, trivial⟩, (hG461.trans hG564), (St.pk [1, 2, 0] 3 H565 rfl (by decide)), hv571⟩
     ·refine any_ops (m' := 269) fun Q' hN => ?_
      refine wl_alloc H462 zr130 ?_
      intro b572 w575 H573
      refine wl_nil (hN _ _ ?_)
      exact hM502 _ _ ⟨_, _, b572, v464, frame_eq _ ⟨rfl, rfl, rfl, rfl, rfl, trivial⟩, hG461, (St.pk [1, 2, 0] 3 H573 rfl (by decide)), hv465⟩
    intro hM460
    refine any_rn (i := 2) (m' := 4) rfl (rn_field fo60_0 rfl) hPF hns ?_
    refine any_alls [0, 3, 8] ⟨?_, ?_, ?_, trivial⟩
    ·refine any_ops (m' := 5) fun Q' hN => ?_
     refine wl_load H234 (i := 2) rfl (Lens.id kTRule) ty26 rfl ?_
     intro v576 hv577
     refine wl_nil (hN _ _ ?_)
     refine any_alls [1, 3, 8] ⟨?_, ?_, ?_, trivial⟩
     ·refine any_ops (m' := 7) fun Q' hN => ?_
      refine wl_call (vs := [v576]) en96 rfl (rules_kinds_k1_ok hc hv577 hb237 H234 hr239) ?_
      rintro v582 w581 ⟨G578, r583, v585, hG579, rfl, H580, hv586⟩
      refine wl_nil (hN _ _ ?_)
      refine any_alls [3, 8] ⟨?_, ?_, trivial⟩
      ·refine any_ops (m' := 15) fun Q' hN => ?_
       refine wl_loadd H580 (i := 2) rfl lTOpt_Typ (dInt .u8) ty5 rfl ?_
       refine wl_nil (hN _ _ ?_)
       exact hM482 _ _ ⟨_, _, r583, v585, frame_eq _ ⟨rfl, rfl, rfl, rfl, trivial⟩, hG579, (St.pk [2, 1, 0] 4 H580 rfl (by decide)), hv586⟩
      ·refine any_ops (m' := 263) fun Q' hN => ?_
       refine wl_alloc H580 zr130 ?_
       intro b587 w590 H588
       refine wl_nil (hN _ _ ?_)
       exact hM494 _ _ ⟨_, _, b587, r583, v585, frame_eq _ ⟨rfl, rfl, rfl, rfl, rfl, trivial⟩, hG579, (St.pk [3, 2, 0, 1] 5 H588 rfl (by decide)), hv586⟩
     ·refine any_ops (m' := 13) fun Q' hN => ?_
      refine wl_loadd H234 (i := 1) rfl lTOpt_Typ (dInt .u8) ty5 rfl ?_
      refine wl_nil (hN _ _ ?_)
      exact hM460 _ _ ⟨_, _, v576, frame_eq _ ⟨rfl, rfl, rfl, rfl, trivial⟩, GLe.refl _, (St.pk [1, 0] 3 H234 rfl (by decide)), hv577⟩
     ·refine any_ops (m' := 261) fun Q' hN => ?_
      refine wl_alloc H234 zr130 ?_
      intro b591 w594 H592
      refine wl_nil (hN _ _ ?_)
      exact hM470 _ _ ⟨_, _, b591, v576, frame_eq _ ⟨rfl, rfl, rfl, rfl, rfl, trivial⟩, GLe.refl _, (St.pk [2, 1, 0] 4 H592 rfl (by decide)), hv577⟩
    ·refine any_ops (m' := 12) fun Q' hN => ?_
     refine wl_loadd H234 (i := 1) rfl lTOpt_Typ (dInt .u8) ty5 rfl ?_
     refine wl_nil (hN _ _ ?_)
     refine any_alls [0, 8] ⟨?_, ?_, trivial⟩
     ·refine any_ops (m' := 13) fun Q' hN => ?_
      refine wl_load H234 (i := 2) rfl (Lens.id kTRule) ty26 rfl ?_
      intro v595 hv596
      refine wl_nil (hN _ _ ?_)
      exact hM460 _ _ ⟨_, _, v595, frame_eq _ ⟨rfl, rfl, rfl, rfl, trivial⟩, GLe.refl _, (St.pk [1, 0] 3 H234 rfl (by decide)), hv596⟩
     ·refine any_ops (m' := 268) fun Q' hN => ?_
      refine wl_alloc H234 zr130 ?_
      intro b597 w600 H598
      refine wl_nil (hN _ _ ?_)
      exact hM477 _ _ ⟨_, _, b597, frame_eq _ ⟨rfl, rfl, rfl, rfl, rfl, trivial⟩, GLe.refl _, (St.pk [3, 2, 1, 0] 4 H598 rfl (by decide))⟩
    ·refine any_ops (m' := 260) fun Q' hN => ?_
     refine wl_alloc H234 zr130 ?_
     intro b601 w604 H602
     refine wl_nil (hN _ _ ?_)
     refine any_alls [0, 3] ⟨?_, ?_, trivial⟩
     ·refine any_ops (m' := 261) fun Q' hN => ?_
      refine wl_load H602 (i := 3) rfl (Lens.id kTRule) ty26 rfl ?_
      intro v605 hv606
      refine wl_nil (hN _ _ ?_)
      exact hM470 _ _ ⟨_, _, b601, v605, frame_eq _ ⟨rfl, rfl, rfl, rfl, rfl, trivial⟩, GLe.refl _, (St.pk [2, 1, 0] 4 H602 rfl (by decide)), hv606⟩
     ·refine any_ops (m' := 268) fun Q' hN => ?_
      refine wl_loadd H602 (i := 2) rfl lTOpt_Typ (dInt .u8) ty5 rfl ?_
      refine wl_nil (hN _ _ ?_)
      exact hM477 _ _ ⟨_, _, b601, frame_eq _ ⟨rfl, rfl, rfl, rfl, rfl, trivial⟩, GLe.refl _, (St.pk [3, 2, 1, 0] 4 H602 rfl (by decide))⟩
  ·replace hF := ifF hF hb237
   obtain ⟨r607, hr608, hF⟩ := bindS hF
   refine any_memo (fuel := 2) (m := 511) (fun a w => ∃ (T0 : Fr) (G1 : Ghost) (b761 : Nat) (v762 : Value), a = mk 26 (upds T0 [(3, (pt b5)), (4, (pt b9)), (6, (pt b761)), (14, v762), (15, (.bool ((lkK ([(1, (Trules_kind.mk 2 FV.rules_kinds_2 64)), (2, (Trules_kind.mk 4 FV.rules_never 0)), (5, (Trules_kind.mk 4 (FV.rules_kinds_3 a0) a0.Other)), (7, (Trules_kind.mk 0 FV.rules_never 0)), (8, (Trules_kind.mk 0 FV.rules_never 0))] : List (Int × Trules_kind)) a1.Typ).isSome)))]) ∧ GLe G G1 ∧ St c G1 w ((.box b5 60 (kTOpt.at_ a1)) :: (.box b9 130 (kTrules_kind.at_ zTrules_kind)) :: (.box b761 130 (kTrules_kind.at_ zTrules_kind)) :: σ) ∧ kTrules_kind.V G1 v762 ((lkK ([(1, (Trules_kind.mk 2 FV.rules_kinds_2 64)), (2, (Trules_kind.mk 4 FV.rules_never 0)), (5, (Trules_kind.mk 4 (FV.rules_kinds_3 a0) a0.Other)), (7, (Trules_kind.mk 0 FV.rules_never 0)), (8, (Trules_kind.mk 0 FV.rules_never 0))] : List (Int × Trules_kind)) a1.Typ).getD zTrules_kind)) ?_ ?_
   ·rintro a w ⟨T0, G760, b761, v762, rfl, hG758, H759, hv763⟩
    refine any_alls [9] ⟨any_ops (m' := 1023) fun Q' hN => ?_, trivial⟩
    refine wl_store (z := ((lkK ([(1, (Trules_kind.mk 2 FV.rules_kinds_2 64)), (2, (Trules_kind.mk 4 FV.rules_never 0)), (5, (Trules_kind.mk 4 (FV.rules_kinds_3 a0) a0.Other)), (7, (Trules_kind.mk 0 FV.rules_never 0)), (8, (Trules_kind.mk 0 FV.rules_never 0))] : List (Int × Trules_kind)) a1.Typ).getD zTrules_kind)) H759 (i := 2) rfl (Lens.id kTrules_kind) ty130 rfl rfl hv763 ?_
    intro w767 H766
    refine wl_nil (hN _ _ ?_)
    refine any_rn (i := 10) (m' := 2047) rfl (rn_pure (.bool ((lkK ([(1, (Trules_kind.mk 2 FV.rules_kinds_2 64)), (2, (Trules_kind.mk 4 FV.rules_never 0)), (5, (Trules_kind.mk 4 (FV.rules_kinds_3 a0) a0.Other)), (7, (Trules_kind.mk 0 FV.rules_never 0)), (8, (Trules_kind.mk 0 FV.rules_never 0))] : List (Int × Trules_kind)) a1.Typ).isSome)) rfl) hPF hns ?_
    refine any_end ?_
    refine then_n ?_
    exact ⟨_, _, ((lkK ([(1, (Trules_kind.mk 2 FV.rules_kinds_2 64)), (2, (Trules_kind.mk 4 FV.rules_never 0)), (5, (Trules_kind.mk 4 (FV.rules_kinds_3 a0) a0.Other)), (7, (Trules_kind.mk 0 FV.rules_never 0)), (8, (Trules_kind.mk 0 FV.rules_never 0))] : List (Int × Trules_kind)) a1.Typ).getD zTrules_kind), ((lkK ([(1, (Trules_kind.mk 2 FV.rules_kinds_2 64)), (2, (Trules_kind.mk 4 FV.rules_never 0)), (5, (Trules_kind.mk 4 (FV.rules_kinds_3 a0) a0.Other)), (7, (Trules_kind.mk 0 FV.rules_never 0)), (8, (Trules_kind.mk 0 FV.rules_never 0))] : List (Int × Trules_kind)) a1.Typ).isSome), b761, frame_eq _ ⟨rfl, rfl, rfl, rfl, trivial⟩, hG758, (St.pk [2, 1, 0] 3 H766 rfl (by decide)), hF⟩
   intro hM757
   refine any_memo (fuel := 6) (m := 271) (fun a w => ∃ (T0 : Fr) (G1 : Ghost) (b739 : Nat) (r740 : Nat) (v741 : Value) (v743 : Value) (v745 : Value) (v747 : Value) (v749 : Value), a = mk 26 (upds T0 [(3, (pt b5)), (4, (pt b9)), (6, (pt b739)), (10, (.map (some r740))), (12, (.int .u8 a1.Typ))]) ∧ GLe G G1 ∧ St c G1 w ((.box b5 60 (kTOpt.at_ a1)) :: (.box b9 130 (kTrules_kind.at_ zTrules_kind)) :: (.box b739 130 (kTrules_kind.at_ zTrules_kind)) :: (.mp r740 [⟨.int .u8 1, v741, 0⟩, ⟨.int .u8 2, v743, 1⟩, ⟨.int .u8 5, v745, 2⟩, ⟨.int .u8 7, v747, 3⟩, ⟨.int .u8 8, v749, 4⟩] 5) :: σ) ∧ kTrules_kind.V G1 v741 (Trules_kind.mk 2 FV.rules_kinds_2 64) ∧ kTrules_kind.V G1 v743 (Trules_kind.mk 4 FV.rules_never 0) ∧ kTrules_kind.V G1 v745 (Trules_kind.mk 4 (FV.rules_kinds_3 a0) a0.Other) ∧ kTrules_kind.V G1 v747 (Trules_kind.mk 0 FV.rules_never 0) ∧ kTrules_kind.V G1 v749 (Trules_kind.mk 0 FV.rules_never 0)) ?_ ?_
   ·rintro a w ⟨T0, G738, b739, r740, v741, v743, v745, v747, v749, rfl, hG736, H737, hv742, hv744, hv746, hv748, hv750⟩
    refine any_alls [4] ⟨any_ops (m' := 287) fun Q' hN => ?_, trivial⟩
    refine wl_lookupK (K := kTrules_kind) (vs := [v741, v743, v745, v747, v749]) (xs := [(1, (Trules_kind.mk 2 FV.rules_kinds_2 64)), (2, (Trules_kind.mk 4 FV.rules_never 0)), (5, (Trules_kind.mk 4 (FV.rules_kinds_3 a0) a0.Other)), (7, (Trules_kind.mk 0 FV.rules_never 0)), (8, (Trules_kind.mk 0 FV.rules_never 0))]) H737 ⟨hv742, hv744, hv746, hv748, hv750, trivial⟩ (i := 3) rfl mt142 un5 rfl rfl zr130 ?_
    intro v768 hv769
    refine wl_nil (hN _ _ ?_)
    refine any_rn (i := 5) (m' := 319) rfl (rn_pure (.tuple #[v768, (.bool ((lkK ([(1, (Trules_kind.mk 2 FV.rules_kinds_2 64)), (2, (Trules_kind.mk 4 FV.rules_never 0)), (5, (Trules_kind.mk 4 (FV.rules_kinds_3 a0) a0.Other)), (7, (Trules_kind.mk 0 FV.rules_never 0)), (8, (Trules_kind.mk 0 FV.rules_never 0))] : List (Int × Trules_kind)) a1.Typ).isSome))]) rfl) hPF hns ?_
    refine any_rn (i := 6) (m' := 383) rfl (rn_pure v768 rfl) hPF hns ?_
    refine any_rn (i := 7) (m' := 511) rfl (rn_pure (.bool ((lkK ([(1, (Trules_kind.mk 2 FV.rules_kinds_2 64)), (2, (Trules_kind.mk 4 FV.rules_never 0)), (5, (Trules_kind.mk 4 (FV.rules_kinds_3 a0) a0.Other)), (7, (Trules_kind.mk 0 FV.rules_never 0)), (8, (Trules_kind.mk 0 FV.rules_never 0))] : List (Int × Trules_kind)) a1.Typ).isSome)) rfl) hPF hns ?_
    exact hM757 _ _ ⟨_, _, b739, v768, frame_eq _ ⟨rfl, rfl, rfl, rfl, rfl, trivial⟩, hG736, (St.pk [0, 1, 2] 4 H737 rfl (by decide)), hv769⟩
   intro hM735
   refine any_memo (fuel := 7) (m := 269) (fun a w => ∃ (T0 : Fr) (G1 : Ghost) (b732 : Nat) (v733 : Value), a = mk 26 (upds T0 [(3, (pt b5)), (4, (pt b9)), (6, (pt b732)), (9, v733), (12, (.int .u8 a1.Typ))]) ∧ GLe G G1 ∧ St c G1 w ((.box b5 60 (kTOpt.at_ a1)) :: (.box b9 130 (kTrules_kind.at_ zTrules_kind)) :: (.box b732 130 (kTrules_kind.at_ zTrules_kind)) :: σ) ∧ kTRule.V G1 v733 a0) ?_ ?_
   ·rintro a w ⟨T0, G731, b732, v733, rfl, hG729, H730, hv734⟩
    refine any_alls [1] ⟨any_ops (m' := 271) fun Q' hN => ?_, trivial⟩
    refine wl_call (vs := [v733]) en96 rfl (rules_kinds_k0_ok hc hv734 hb237 H730 hr608) ?_
    rintro v774 w773 ⟨G770, r775, v777, v779, v781, v783, v785, hG771, rfl, H772, hv778, hv780, hv782, hv784, hv786⟩
    refine wl_nil (hN _ _ ?_)
    exact hM735 _ _ ⟨_, _, b732, r775, v777, v779, v781, v783, v785, frame_eq _ ⟨rfl, rfl, rfl, rfl, rfl, trivial⟩, (hG729.trans hG771), (St.pk [1, 2, 3, 0] 4 H772 rfl (by decide)), hv778, hv780, hv782, hv784, hv786⟩
   intro hM728
   refine any_memo (fuel := 7) (m := 263) (fun a w => ∃ (T0 : Fr) (G1 : Ghost) (b716 : Nat) (r717 : Nat) (v718 : Value) (v720 : Value) (v722 : Value) (v724 : Value) (v726 : Value), a = mk 26 (upds T0 [(3, (pt b5)), (4, (pt b9)), (6, (pt b716)), (10, (.map (some r717))), (11, (pt b5))]) ∧ GLe G G1 ∧ St c G1 w ((.box b5 60 (kTOpt.at_ a1)) :: (.box b9 130 (kTrules_kind.at_ zTrules_kind)) :: (.box b716 130 (kTrules_kind.at_ zTrules_kind)) :: (.mp r717 [⟨.int .u8 1, v718, 0⟩, ⟨.int .u8 2, v720, 1⟩, ⟨.int .u8 5, v722, 2⟩, ⟨.int .u8 7, v724, 3⟩, ⟨.int .u8 8, v726, 4⟩] 5) :: σ) ∧ kTrules_kind.V G1 v718 (Trules_kind.mk 2 FV.rules_kinds_2 64) ∧ kTrules_kind.V G1 v720 (Trules_kind.mk 4 FV.rules_never 0) ∧ kTrules_kind.V G1 v722 (Trules_kind.mk 4 (FV.rules_kinds_3 a0) a0.Other) ∧ kTrules_kind.V G1 v724 (Trules_kind.mk 0 FV.rules_never 0) ∧ kTrules_kind.V G1 v726 (Trules_kind.mk 0 FV.rules_never 0)) ?_ ?_
   ·rintro a w ⟨T0, G715, b716, r717, v718, v720, v722, v724, v726, rfl, hG713, H714, hv719, hv721, hv723, hv725, hv727⟩
    refine any_alls [3] ⟨any_ops (m' := 271) fun Q' hN => ?_, trivial⟩
    refine wl_loadd H714 (i := 0) rfl lTOpt_Typ (dInt .u8) ty5 rfl ?_
    refine wl_nil (hN _ _ ?_)
    exact hM735 _ _ ⟨_, _, b716, r717, v718, v720, v722, v724, v726, frame_eq _ ⟨rfl, rfl, rfl, rfl, rfl, trivial⟩, hG713, H714, hv719, hv721, hv723, hv725, hv727⟩
   intro hM712
   refine any_memo (fuel := 7) (m := 15) (fun a w => ∃ (T0 : Fr) (G1 : Ghost) (r695 : Nat) (v696 : Value) (v698 : Value) (v700 : Value) (v702 : Value) (v704 : Value), a = mk 26 (upds T0 [(3, (pt b5)), (4, (pt b9)), (10, (.map (some r695))), (12, (.int .u8 a1.Typ))]) ∧ GLe G G1 ∧ St c G1 w ((.box b5 60 (kTOpt.at_ a1)) :: (.box b9 130 (kTrules_kind.at_ zTrules_kind)) :: (.mp r695 [⟨.int .u8 1, v696, 0⟩, ⟨.int .u8 2, v698, 1⟩, ⟨.int .u8 5, v700, 2⟩, ⟨.int .u8 7, v702, 3⟩, ⟨.int .u8 8, v704, 4⟩] 5) :: σ) ∧ kTrules_kind.V G1 v696 (Trules_kind.mk 2 FV.rules_kinds_2 64) ∧ kTrules_kind.V G1 v698 (Trules_kind.mk 4 FV.rules_never 0) ∧ kTrules_kind.V G1 v700 (Trules_kind.mk 4 (FV.rules_kinds_3 a0) a0.Other) ∧ kTrules_kind.V G1 v702 (Trules_kind.mk 0 FV.rules_never 0) ∧ kTrules_kind.V G1 v704 (Trules_kind.mk 0 FV.rules_never 0)) ?_ ?_
   ·rintro a w ⟨T0, G694, r695, v696, v698, v700, v702, v704, rfl, hG692, H693, hv697, hv699, hv701, hv703, hv705⟩
    refine any_alls [4, 8] ⟨?_, ?_, trivial⟩
    ·refine any_ops (m' := 31) fun Q' hN => ?_
     refine wl_lookupK (K := kTrules_kind) (vs := [v696, v698, v700, v702, v704]) (xs := [(1, (Trules_kind.mk 2 FV.rules_kinds_2 64)), (2, (Trules_kind.mk 4 FV.rules_never 0)), (5, (Trules_kind.mk 4 (FV.rules_kinds_3 a0) a0.Other)), (7, (Trules_kind.mk 0 FV.rules_never 0)), (8, (Trules_kind.mk 0 FV.rules_never 0))]) H693 ⟨hv697, hv699, hv701, hv703, hv705, trivial⟩ (i := 2) rfl mt142 un5 rfl rfl zr130 ?_
     intro v787 hv788
     refine wl_nil (hN _ _ ?_)
     refine any_rn (i := 5) (m' := 63) rfl (rn_pure (.tuple #[v787, (.bool ((lkK ([(1, (Trules_kind.mk 2 FV.rules_kinds_2 64)), (2, (Trules_kind.mk 4 FV.rules_never 0)), (5, (Trules_kind.mk 4 (FV.rules_kinds_3 a0) a0.Other)), (7, (Trules_kind.mk 0 FV.rules_never 0)), (8, (Trules_kind.mk 0 FV.rules_never 0))] : List (Int × Trules_kind)) a1.Typ).isSome))]) rfl) hPF hns ?_
     refine any_rn (i := 6) (m' := 127) rfl (rn_pure v787 rfl) hPF hns ?_
     refine any_rn (i := 7) (m' := 255) rfl (rn_pure (.bool ((lkK ([(1, (Trules_kind.mk 2 FV.rules_kinds_2 64)), (2, (Trules_kind.mk 4 FV.rules_never 0)), (5, (Trules_kind.mk 4 (FV.rules_kinds_3 a0) a0.Other)), (7, (Trules_kind.mk 0 FV.rules_never 0)), (8, (Trules_kind.mk 0 FV.rules_never 0))] : List (Int × Trules_kind)) a1.Typ).isSome)) rfl) hPF hns ?_
     refine any_alls [8] ⟨any_ops (m' := 511) fun Q' hN => ?_, trivial⟩
     refine wl_alloc H693 zr130 ?_
     intro b789 w792 H790
     refine wl_nil (hN _ _ ?_)
     exact hM757 _ _ ⟨_, _, b789, v787, frame_eq _ ⟨rfl, rfl, rfl, rfl, rfl, trivial⟩, hG692, (St.pk [1, 2, 0] 4 H790 rfl (by decide)), hv788⟩
    ·refine any_ops (m' := 271) fun Q' hN => ?_
     refine wl_alloc H693 zr130 ?_
     intro b793 w796 H794
     refine wl_nil (hN _ _ ?_)
     exact hM735 _ _ ⟨_, _, b793, r695, v696, v698, v700, v702, v704, frame_eq _ ⟨rfl, rfl, rfl, rfl, rfl, trivial⟩, hG692, (St.pk [1, 2, 0, 3] 4 H794 rfl (by decide)), hv697, hv699, hv701, hv703, hv705⟩
   intro hM691
   refine any_memo (fuel := 8) (m := 268) (fun a w => ∃ (T0 : Fr) (G1 : Ghost) (b690 : Nat), a = mk 26 (upds T0 [(2, (pt b1)), (3, (pt b5)), (4, (pt b9)), (6, (pt b690)), (12, (.int .u8 a1.Typ))]) ∧ GLe G G1 ∧ St c G1 w ((.box b1 26 (kTRule.at_ a0)) :: (.box b5 60 (kTOpt.at_ a1)) :: (.box b9 130 (kTrules_kind.at_ zTrules_kind)) :: (.box b690 130 (kTrules_kind.at_ zTrules_kind)) :: σ)) ?_ ?_
   ·rintro a w ⟨T0, G689, b690, rfl, hG687, H688⟩
    refine any_alls [0] ⟨any_ops (m' := 269) fun Q' hN => ?_, trivial⟩
    refine wl_load H688 (i := 0) rfl (Lens.id kTRule) ty26 rfl ?_
    intro v797 hv798
    refine wl_nil (hN _ _ ?_)
    exact hM728 _ _ ⟨_, _, b690, v797, frame_eq _ ⟨rfl, rfl, rfl, rfl, rfl, trivial⟩, hG687, (St.pk [1, 2, 3] 4 H688 rfl (by decide)), hv798⟩
   intro hM686
   refine any_memo (fuel := 8) (m := 261) (fun a w => ∃ (T0 : Fr) (G1 : Ghost) (b683 : Nat) (v684 : Value), a = mk 26 (upds T0 [(3, (pt b5)), (4, (pt b9)), (6, (pt b683)), (9, v684), (11, (pt b5))]) ∧ GLe G G1 ∧ St c G1 w ((.box b5 60 (kTOpt.at_ a1)) :: (.box b9 130 (kTrules_kind.at_ zTrules_kind)) :: (.box b683 130 (kTrules_kind.at_ zTrules_kind)) :: σ) ∧ kTRule.V G1 v684 a0) ?_ ?_
   ·rintro a w ⟨T0, G682, b683, v684, rfl, hG680, H681, hv685⟩
    refine any_alls [1, 3] ⟨?_, ?_, trivial⟩
    ·refine any_ops (m' := 263) fun Q' hN => ?_
     refine wl_call (vs := [v684]) en96 rfl (rules_kinds_k0_ok hc hv685 hb237 H681 hr608) ?_
     rintro v803 w802 ⟨G799, r804, v806, v808, v810, v812, v814, hG800, rfl, H801, hv807, hv809, hv811, hv813, hv815⟩
     refine wl_nil (hN _ _ ?_)
     exact hM712 _ _ ⟨_, _, b683, r804, v806, v808, v810, v812, v814, frame_eq _ ⟨rfl, rfl, rfl, rfl, rfl, trivial⟩, (hG680.trans hG800), (St.pk [1, 2, 3, 0] 4 H801 rfl (by decide)), hv807, hv809, hv811, hv813, hv815⟩
    ·refine any_ops (m' := 269) fun Q' hN => ?_
     refine wl_loadd H681 (i := 0) rfl lTOpt_Typ (dInt .u8) ty5 rfl ?_
     refine wl_nil (hN _ _ ?_)
     exact hM728 _ _ ⟨_, _, b683, v684, frame_eq _ ⟨rfl, rfl, rfl, rfl, rfl, trivial⟩, hG680, H681, hv685⟩
   intro hM679
   refine any_memo (fuel := 8) (m := 13) (fun a w => ∃ (T0 : Fr) (G1 : Ghost) (v673 : Value), a = mk 26 (upds T0 [(3, (pt b5)), (4, (pt b9)), (9, v673), (12, (.int .u8 a1.Typ))]) ∧ GLe G G1 ∧ St c G1 w ((.box b5 60 (kTOpt.at_ a1)) :: (.box b9 130 (kTrules_kind.at_ zTrules_kind)) :: σ) ∧ kTRule.V G1 v673 a0) ?_ ?_
   ·rintro a w ⟨T0, G672, v673, rfl, hG670, H671, hv674⟩
    refine any_alls [1, 8] ⟨?_, ?_, trivial⟩
    ·refine any_ops (m' := 15) fun Q' hN => ?_
     refine wl_call (vs := [v673]) en96 rfl (rules_kinds_k0_ok hc hv674 hb237 H671 hr608) ?_
     rintro v820 w819 ⟨G816, r821, v823, v825, v827, v829, v831, hG817, rfl, H818, hv824, hv826, hv828, hv830, hv832⟩
     refine wl_nil (hN _ _ ?_)
     exact hM691 _ _ ⟨_, _, r821, v823, v825, v827, v829, v831, frame_eq _ ⟨rfl, rfl, rfl, rfl, trivial⟩, (hG670.trans hG817), (St.pk [1, 2, 0] 3 H818 rfl (by decide)), hv824, hv826, hv828, hv830, hv832⟩
    ·refine any_ops (m' := 269) fun Q' hN => ?_
     refine wl_alloc H671 zr130 ?_
     intro b833 w836 H834
     refine wl_nil (hN _ _ ?_)
     exact hM728 _ _ ⟨_, _, b833, v673, frame_eq _ ⟨rfl, rfl, rfl, rfl, rfl, trivial⟩, hG670, (St.pk [1, 2, 0] 3 H834 rfl (by decide)), hv674⟩
   intro hM669
   refine any_rn (i := 2) (m' := 4) rfl (rn_field fo60_0 rfl) hPF hns ?_
   refine any_alls [0, 3, 8] ⟨?_, ?_, ?_, trivial⟩
   ·refine any_ops (m' := 5) fun Q' hN => ?_
    refine wl_load H234 (i := 2) rfl (Lens.id kTRule) ty26 rfl ?_
    intro v837 hv838
    refine wl_nil (hN _ _ ?_)
    refine any_alls [1, 3, 8] ⟨?_, ?_, ?_, trivial⟩
    ·refine any_ops (m' := 7) fun Q' hN => ?_
     refine wl_call (vs := [v837]) en96 rfl (rules_kinds_k0_ok hc hv838 hb237 H234 hr608) ?_
     rintro v843 w842 ⟨G839, r844, v846, v848, v850, v852, v854, hG840, rfl, H841, hv847, hv849, hv851, hv853, hv855⟩
     refine wl_nil (hN _ _ ?_)
     refine any_alls [3, 8] ⟨?_, ?_, trivial⟩
     ·refine any_ops (m' := 15) fun Q' hN => ?_
      refine wl_loadd H841 (i := 2) rfl lTOpt_Typ (dInt .u8) ty5 rfl ?_
      refine wl_nil (hN _ _ ?_)
      exact hM691 _ _ ⟨_, _, r844, v846, v848, v850, v852, v854, frame_eq _ ⟨rfl, rfl, rfl, rfl, trivial⟩, hG840, (St.pk [2, 1, 0] 4 H841 rfl (by decide)), hv847, hv849, hv851, hv853, hv855⟩
     ·refine any_ops (m' := 263) fun Q' hN => ?_
      refine wl_alloc H841 zr130 ?_
      intro b856 w859 H857
      refine wl_nil (hN _ _ ?_)
      exact hM712 _ _ ⟨_, _, b856, r844, v846, v848, v850, v852, v854, frame_eq _ ⟨rfl, rfl, rfl, rfl, rfl, trivial⟩, hG840, (St.pk [3, 2, 0, 1] 5 H857 rfl (by decide)), hv847, hv849, hv851, hv853, hv855⟩
    ·refine any_ops (m' := 13) fun Q' hN => ?_
     refine wl_loadd H234 (i := 1) rfl lTOpt_Typ (dInt .u8) ty5 rfl ?_
     refine wl_nil (hN _ _ ?_)
     exact hM669 _ _ ⟨_, _, v837, frame_eq _ ⟨rfl, rfl, rfl, rfl, trivial⟩, GLe.refl _, (St.pk [1, 0] 3 H234 rfl (by decide)), hv838⟩
    ·refine any_ops (m' := 261) fun Q' hN => ?_
     refine wl_alloc H234 zr130 ?_
     intro b860 w863 H861
     refine wl_nil (hN _ _ ?_)
     exact hM679 _ _ ⟨_, _, b860, v837, frame_eq _ ⟨rfl, rfl, rfl, rfl, rfl, trivial⟩, GLe.refl _, (St.pk [2, 1, 0] 4 H861 rfl (by decide)), hv838⟩
   ·refine any_ops (m' := 12) fun Q' hN => ?_
    refine wl_loadd H234 (i := 1) rfl lTOpt_Typ (dInt .u8) ty5 rfl ?_
    refine wl_nil (hN _ _ ?_)
    refine any_alls [0, 8] ⟨?_, ?_, trivial⟩
    ·refine any_ops (m' := 13) fun Q' hN => ?_
     refine wl_load H234 (i := 2) rfl (Lens.id kTRule) ty26 rfl ?_
     intro v864 hv865
     refine wl_nil (hN _ _ ?_)
     exact hM669 _ _ ⟨_, _, v864, frame_eq _ ⟨rfl, rfl, rfl, rfl, trivial⟩, GLe.refl _, (St.pk [1, 0] 3 H234 rfl (by decide)), hv865⟩
    ·refine any_ops (m' := 268) fun Q' hN => ?_
     refine wl_alloc H234 zr130 ?_
     intro b866 w869 H867
     refine wl_nil (hN _ _ ?_)
     exact hM686 _ _ ⟨_, _, b866, frame_eq _ ⟨rfl, rfl, rfl, rfl, rfl, trivial⟩, GLe.refl _, (St.pk [3, 2, 1, 0] 4 H867 rfl (by decide))⟩
   ·refine any_ops (m' := 260) fun Q' hN => ?_
    refine wl_alloc H234 zr130 ?_
    intro b870 w873 H871
    refine wl_nil (hN _ _ ?_)
    refine any_alls [0, 3] ⟨?_, ?_, trivial⟩
    ·refine any_ops (m' := 261) fun Q' hN => ?_
     refine wl_load H871 (i := 3) rfl (Lens.id kTRule) ty26 rfl ?_
     intro v874 hv875
     refine wl_nil (hN _ _ ?_)
     exact hM679 _ _ ⟨_, _, b870, v874, frame_eq _ ⟨rfl, rfl, rfl, rfl, rfl, trivial⟩, GLe.refl _, (St.pk [2, 1, 0] 4 H871 rfl (by decide)), hv875⟩
    ·refine any_ops (m' := 268) fun Q' hN => ?_
     refine wl_loadd H871 (i := 2) rfl lTOpt_Typ (dInt .u8) ty5 rfl ?_
     refine wl_nil (hN _ _ ?_)
     exact hM686 _ _ ⟨_, _, b870, frame_eq _ ⟨rfl, rfl, rfl, rfl, rfl, trivial⟩, GLe.refl _, (St.pk [3, 2, 1, 0] 4 H871 rfl (by decide))⟩

theorem opts_Number_ok {c : World} (hc : Hc c) {G : Ghost} {w : World} {σ : List Ent} {a0 : (List Int)} {A0_ : Option Addr} {c0_ : Nat} (h0_ : SlR kB G A0_ c0_ a0) (H : St c G w (σ)) {r : Int} (hF : opts_Number a0 = some r) :
  Calls Tryd.prog 40 ([(.slice A0_ a0.length c0_)] : List Value).toArray w (Ends fun v w' => ∃ (G' : Ghost), GLe G G' ∧ tup [(.int .u32 r)] = v ∧ St c G' w' (σ)) := by
 unfold opts_Number at hF
 refine calls_mk Tryd.func40 rfl rfl rfl ?_
 refine wp_seq (wc_region ?_)
 refine wl_rn (rn_pure (.int .u32 0) rfl) ?_
 refine wl_nil (then_n (wp_seq (wc_region ?_)))
 refine wl_rn (rn_pure (.int .u32 0) rfl) ?_
 refine wl_nil (then_n ?_)
 refine wp_seq ?_
 refine wp_seq (wc_region ?_)
 refine wl_rn (rn_pure (.slice A0_ a0.length c0_) rfl) ?_
 refine wl_rn (rn_len sl30 rfl) ?_
 refine wl_rn (rn_pure (.int .i64 0) rfl) ?_
 refine wl_nil (then_n ?_)
 refine wp_block ?_
 refine wp_loopX (fun (s : (Int × Int)) a w => ∃ (T0 : Fr) (G1 : Ghost), a = mk 19 (upds T0 [(3, (.int .u32 s.1)), (6, (.slice A0_ a0.length c0_)), (7, (.int .i64 (a0.length : Int))), (8, (.int .i64 s.2))]) ∧ GLe G G1 ∧ St c G1 w (σ)) hF ?_ ?_
 ·exact ⟨_, _, frame_eq _ ⟨rfl, rfl, rfl, rfl, trivial⟩, GLe.refl _, H⟩
 ·rintro ⟨x9, x10⟩ a w y13 ⟨T0, G14, rfl, hG11, H12⟩ hF hy1
  refine wp_seq (wc_region ?_)
  refine wl_rn (rn_pure (.bool (decide (x10 < (a0.length : Int)))) rfl) ?_
  refine wl_nil (then_n ?_)
  refine wp_seq ?_
  rcases bcases (decide (x10 < (a0.length : Int))) with hb15 | hb15
  ·replace hF := ifT hF hb15
   refine wc_true (vb hb15) ?_
   refine wp_skip ?_
   refine then_n ?_
   refine wp_seq ?_
   refine wp_block ?_
   refine wp_seq (wc_region ?_)
   obtain ⟨x16, hx17, hF⟩ := bindS hF
   refine wl_rnE (rn_index (h0_.mono hG11) sl30 ty5 rfl rfl hx17) ?_
   intro a18 hp19
   refine wl_loadpd H12 hp19 (dInt .u8) ty5 rfl ?_
   refine wl_rn (rn_pure (.int .u8 x16) rfl) ?_
   refine wl_nil (then_n ?_)
   refine wc_region ?_
   refine wl_rn (rn_pure (.int .u32 x9) rfl) ?_
   refine wl_rn (rn_pure (.int .u32 (sShl .u32 x9 8)) rfl) ?_
   refine wl_rn (rn_pure (.int .u8 x16) rfl) ?_
   refine wl_rn (rn_convert un5 un24 rfl) ?_
   iterate 2 refine wl_rn (rn_pure (.int .u32 (bOr .u32 (sShl .u32 x9 8) (IntKind.u32.wrap (x16)))) rfl) ?_
   refine wl_nil (blk_n ?_)
   refine then_n ?_
   refine wc_region ?_
   iterate 2 refine wl_rn (rn_pure (.int .i64 (IntKind.i64.wrap (x10 + 1))) rfl) ?_
   refine wl_nil (then_n ?_)
   exact ⟨_, (Option.some.inj hF).symm, _, _, frame_eq _ ⟨rfl, rfl, rfl, rfl, trivial⟩, hG11, H12⟩
  ·replace hF := ifF hF hb15
   refine wc_false (vb hb15) ?_
   refine wp_exit ?_
   iterate 2 refine then_e ?_
   replace hF := exitS hF hy1
   refine blk_e ?_
   refine then_n ?_
   refine wp_seq (wc_region ?_)
   iterate 2 refine wl_rn (rn_pure (.int .u32 x9) rfl) ?_
   refine wl_nil (then_n ?_)
   refine wp_ret ?_
   have hF := Option.some.inj hF
   subst hF
   exact ret_mk rfl (RV.tmp rfl RV.nil) ⟨_, hG11, rfl, H12⟩

theorem rules_kinds_1_ok {c : World} (hc : Hc c) {G : Ghost} {w : World} {σ : List Ent} {a0 : Int} {p1_ : Addr} {a1 : TRule} (h1_ : PtR kTRule G p1_ a1) (H : St c G w (σ)) {r : Bool} (hF : rules_kinds_1 a0 a1 = some r) :
  Calls Tryd.prog 99 ([(.int .u32 a0), (.pointer (some p1_))] : List Value).toArray w (Ends fun v w' => ∃ (G' : Ghost), GLe G G' ∧ tup [(.bool r)] = v ∧ St c G' w' (σ)) := by
 unfold rules_kinds_1 at hF
 refine calls_mk Tryd.func99 rfl rfl rfl ?_
 refine wp_seq (wc_region ?_)
 refine wl_rn (rn_pure (.bool false) rfl) ?_
 refine wl_nil (then_n (wp_seq (wc_region ?_)))
 refine wl_rn (rn_pure (.int .u32 a0) rfl) ?_
 refine wl_rn (rn_fieldp fo26_3 rfl) ?_
 refine wl_loadpd H (h1_.lens lTRule_Addr) (dInt .u32) ty24 rfl ?_
 iterate 2 refine wl_rn (rn_pure (.bool (a0 != a1.Addr)) rfl) ?_
 refine wl_nil (then_n ?_)
 refine wp_ret ?_
 have hF := Option.some.inj hF
 subst hF
 exact ret_mk rfl (RV.tmp rfl RV.nil) ⟨_, GLe.refl _, rfl, H⟩

theorem rules_kinds_2_ok {c : World} (hc : Hc c) {G : Ghost} {w : World} {σ : List Ent} {a0 : Int}  (H : St c G w (σ)) {r : Bool} (hF : rules_kinds_2 a0 = some r) :
  Calls Tryd.prog 100 ([(.int .u32 a0)] : List Value).toArray w (Ends fun v w' => ∃ (G' : Ghost), GLe G G' ∧ tup [(.bool r)] = v ∧ St c G' w' (σ)) := by
 unfold rules_kinds_2 at hF
 refine calls_mk Tryd.func100 rfl rfl rfl ?_
 refine wp_seq (wc_region ?_)
 refine wl_rn (rn_pure (.bool false) rfl) ?_
 refine wl_nil (then_n (wp_seq (wc_region ?_)))
 refine wl_rn (rn_pure (.int .u32 a0) rfl) ?_
 iterate 2 refine wl_rn (rn_pure (.bool (decide (a0 < 64))) rfl) ?_
 refine wl_nil (then_n ?_)
 refine wp_ret ?_
 have hF := Option.some.inj hF
 subst hF
 exact ret_mk rfl (RV.tmp rfl RV.nil) ⟨_, GLe.refl _, rfl, H⟩

theorem rules_never_ok {c : World} (hc : Hc c) {G : Ghost} {w : World} {σ : List Ent} {a0 : Int}  (H : St c G w (σ)) {r : Bool} (hF : rules_never a0 = some r) :
  Calls Tryd.prog 101 ([(.int .u32 a0)] : List Value).toArray w (Ends fun v w' => ∃ (G' : Ghost), GLe G G' ∧ tup [(.bool r)] = v ∧ St c G' w' (σ)) := by
 unfold rules_never at hF
 refine calls_mk Tryd.func101 rfl rfl rfl ?_
 refine wp_seq (wc_region ?_)
 refine wl_rn (rn_pure (.bool false) rfl) ?_
 refine wl_nil (then_n (wp_seq (wc_region ?_)))
 refine wl_rn (rn_pure (.bool false) rfl) ?_
 refine wl_nil (then_n ?_)
 refine wp_ret ?_
 have hF := Option.some.inj hF
 subst hF
 exact ret_mk rfl (RV.tmp rfl RV.nil) ⟨_, GLe.refl _, rfl, H⟩

theorem rules_kinds_3_ok {c : World} (hc : Hc c) {G : Ghost} {w : World} {σ : List Ent} {a0 : Int} {p1_ : Addr} {a1 : TRule} (h1_ : PtR kTRule G p1_ a1) (H : St c G w (σ)) {r : Bool} (hF : rules_kinds_3 a0 a1 = some r) :
  Calls Tryd.prog 102 ([(.int .u32 a0), (.pointer (some p1_))] : List Value).toArray w (Ends fun v w' => ∃ (G' : Ghost), GLe G G' ∧ tup [(.bool r)] = v ∧ St c G' w' (σ)) := by
 unfold rules_kinds_3 at hF
 refine calls_mk Tryd.func102 rfl rfl rfl ?_
 refine wp_seq (wc_region ?_)
 refine wl_rn (rn_pure (.bool false) rfl) ?_
 refine wl_nil (then_n (wp_seq (wc_region ?_)))
 refine wl_rn (rn_pure (.int .u32 a0) rfl) ?_
 iterate 2 refine wl_rn (rn_pure (.bool (a0 == 0)) rfl) ?_
 rcases bcases (a0 == 0) with hb1 | hb1
 ·replace hF := ifT hF hb1
  iterate 4 refine wl_no rfl rfl rfl (vb hb1) ?_
  refine wl_rn (rn_pickT (.bool true) (vb hb1) rfl) ?_
  refine wl_rn (rn_pure (.bool true) rfl) ?_
  refine wl_nil (then_n ?_)
  refine wp_ret ?_
  have hF := Option.some.inj hF
  subst hF
  exact ret_mk rfl (RV.tmp rfl RV.nil) ⟨_, GLe.refl _, rfl, H⟩
 ·replace hF := ifF hF hb1
  refine wl_yes rfl rfl rfl (vb hb1) ?_
  refine wl_rn (rn_pure (.int .u32 a0) rfl) ?_
  refine wl_yes rfl rfl rfl (vb hb1) ?_
  refine wl_rn (rn_fieldp fo26_1 rfl) ?_
  refine wl_yes rfl rfl rfl (vb hb1) ?_
  refine wl_loadpd H (h1_.lens lTRule_Magic) (dInt .u32) ty24 rfl ?_
  refine wl_yes rfl rfl rfl (vb hb1) ?_
  refine wl_rn (rn_pure (.bool (a0 == a1.Magic)) rfl) ?_
  refine wl_rn (rn_pickF (.bool (a0 == a1.Magic)) (vb hb1) rfl) ?_
  refine wl_rn (rn_pure (.bool (a0 == a1.Magic)) rfl) ?_
  refine wl_nil (then_n ?_)
  refine wp_ret ?_
  have hF := Option.some.inj hF
  subst hF
  exact ret_mk rfl (RV.tmp rfl RV.nil) ⟨_, GLe.refl _, rfl, H⟩
end Go.Proofs.YtadlndnagfnlgaaDoor.W
