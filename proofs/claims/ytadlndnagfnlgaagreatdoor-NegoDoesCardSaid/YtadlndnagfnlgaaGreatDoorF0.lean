/- Calls come to what the plain functions say: written by a program (gen.py). -/
import Derived.Test.YtadlndnagfnlgaaGreatDoorG
set_option linter.unusedVariables false
set_option maxRecDepth 20000
namespace Go.Proofs.YtadlndnagfnlgaaGreatDoor.W
open Go
set_option maxHeartbeats 4000000
attribute [local irreducible] wpList wpAny Code.wp wpListIn wpAnyIn Code.wpIn
theorem opts_Four_ok {c : World} (k : Hc c) {G : qk} {w : World} {σ : List Ent} {a0 : Int}  (H : St c G w (σ)) {r : (List Int)} (b : opts_Four a0 = some r) :
  Calls Tryz.prog 194 ([(.int .u32 a0)] : List Value).toArray w (zu fun v w' => ∃ (G' : qk) (g1' : Option Nat) (A2' : Option Addr) (c3' : Nat), GLe G G' ∧ tup [(.slice A2' r.length c3')] = v ∧ St c G' w' ((.row kB g1' A2' c3' 5 r) :: σ)) := by
 unfold opts_Four at b
 refine qG Tryz.func194 rfl rfl rfl (wp_seq (qc (qb (qa (.slice none 0 0) rfl) (qd (qe (wp_seq (qc (qb (qa (.int .u32 a0) rfl) (qb (qa (.int .u32 (sShr .u32 a0 24)) rfl) (qb (zU un27 un5 rfl) (qb (qa (.int .u32 a0) rfl) (qb (qa (.int .u32 (sShr .u32 a0 16)) rfl) (qb (zU un27 un5 rfl) ?_)))))))))))))
 refine qb (qa (.int .u32 a0) rfl) (qb (qa (.int .u32 (sShr .u32 a0 8)) rfl) (qb (zU un27 un5 rfl) (qb (qa (.int .u32 a0) rfl) (qb (zU un27 un5 rfl) ?_))))
 refine zh (K := kB) (vs := [(.int .u8 (IntKind.u8.wrap ((sShr .u32 a0 24)))), (.int .u8 (IntKind.u8.wrap ((sShr .u32 a0 16)))), (.int .u8 (IntKind.u8.wrap ((sShr .u32 a0 8)))), (.int .u8 (IntKind.u8.wrap (a0)))]) (xs := ([(IntKind.u8.wrap ((sShr .u32 a0 24))), (IntKind.u8.wrap ((sShr .u32 a0 16))), (IntKind.u8.wrap ((sShr .u32 a0 8))), (IntKind.u8.wrap (a0))] : (List Int))) H zJ el5 rfl ⟨((qz .u8).toV _ _), ((qz .u8).toV _ _), ((qz .u8).toV _ _), ((qz .u8).toV _ _), yp⟩ rfl (by decide) ?_
 intro g1 w3 H2
 refine qb (qa (.slice (some ⟨g1, 0, none⟩) ([(IntKind.u8.wrap ((sShr .u32 a0 24))), (IntKind.u8.wrap ((sShr .u32 a0 16))), (IntKind.u8.wrap ((sShr .u32 a0 8))), (IntKind.u8.wrap (a0))] : (List Int)).length 4) rfl) (qd (qe (wp_ret ?_)))
 have b := yq b
 subst b
 exact qt rfl (RV.tmp rfl RV.nil) ⟨_, (some g1), (some ⟨g1, 0, none⟩), 4, GLe.refl _, rfl, H2⟩

theorem rules_number_ok {c : World} (k : Hc c) {G : qk} {w : World} {σ : List Ent} {a0 : Int} {a1 : Int} {a2 : Int}  (H : St c G w (σ)) {r : TOpt} (b : rules_number a0 a1 a2 = some r) :
  Calls Tryz.prog 166 ([(.int .u8 a0), (.int .i64 a1), (.int .u32 a2)] : List Value).toArray w (zu fun v w' => ∃ (G' : qk) (v1' : Value), GLe G G' ∧ tup [v1'] = v ∧ St c G' w' (σ) ∧ qx.V G' v1' r) := by
 unfold rules_number at b
 refine qG Tryz.func166 rfl rfl rfl (wp_seq (qc ?_))
 refine qP H xv ?_
 intro b1 w4 H2
 refine qd (qe (wp_seq (qc (qb (qa (.int .u32 a2) rfl) ?_))))
 obtain ⟨r5, hr6, b⟩ := qu b
 refine qo (vs := [(.int .u32 a2)]) en194 rfl (opts_Four_ok k H2 hr6) ?_
 rintro v11 w10 ⟨G7, g12, A13, c14, hG8, rfl, H9⟩
 refine qb (qa (.slice A13 r5.length c14) rfl) (qd (qe (wp_seq (qc (qb (qa (.int .u8 a0) rfl) ?_)))))
 iterate 2 refine qb (qa (.slice A13 r5.length c14) rfl) ?_
 refine qb (zb zJ rfl) (qb (qa (.int .i64 a1) rfl) (qb (qa (.int .i64 (IntKind.i64.wrap ((r5.length : Int) - a1))) rfl) ?_))
 obtain ⟨G16, hG17, H18, hs19⟩ := H9.stay (i := 0) rfl (H9.capA (i := 0) rfl)
 obtain ⟨r20, hr21, b⟩ := qu b
 refine qR (rn_cut (lo := (some (IntKind.i64.wrap ((r5.length : Int) - a1)))) (hi := none) hs19 zJ ty5 rfl ⟨_, rfl⟩ yp hr21) ?_
 intro z22 hs23
 refine qR (qT (G := G16) xv rfl bs133 rfl (Parts.cons jc qX ((qz .u8).toV _ _) (Parts.cons jp qZ (zw hs23) (Parts.nil _)))) ?_
 intro v24 hv25
 refine qy (z := (TOpt.mk a0 r20)) H18 (i := 0) rfl (Lens.id qx) zc rfl rfl hv25 ?_
 intro w27 H26
 refine qd (qe (wp_ret ?_))
 obtain ⟨v28, hv29, hl30⟩ := H26.loadv (i := 0) rfl zc
 have b := yq b
 subst b
 exact qt rfl (RV.cell rfl hl30 RV.nil) ⟨_, v28, (hG8.trans hG17), rfl, (St.pk [] 1 H26 rfl (by decide)), hv29⟩

theorem rules_Ask_ok {c : World} (k : Hc c) {G : qk} {w : World} {σ : List Ent} {a0 : TRule} {v0_ : Value} (h0_ : qU.V G v0_ a0) (H : St c G w (σ)) {r : (List TOpt)} (b : rules_Ask a0 = some r) :
  Calls Tryz.prog 117 ([v0_] : List Value).toArray w (zu fun v w' => ∃ (G' : qk) (A1' : Option Addr) (c2' : Nat), GLe G G' ∧ tup [(.slice A1' r.length c2')] = v ∧ St c G' w' (σ) ∧ SlR qx G' A1' c2' r) := by
 unfold rules_Ask at b
 refine qG Tryz.func117 rfl rfl rfl (wp_seq (qc ?_))
 refine zp (K := qU) (x := a0) H rfl h0_ ?_
 intro b1 w4 H2
 refine qb (qa (.slice none 0 0) rfl) (qd (qe (wp_seq (wp_seq (qc (qb (qh fo29_0 rfl) (qp H2 (i := 0) rfl xO dBool ty4 rfl (qd (qe ?_)))))))))
 rcases qm a0.Ip with hb5 | hb5
 ·replace b := ifT b hb5
  refine qs (vb hb5) (wp_seq (qc (qb (qh fo29_4 rfl) (qp H2 (i := 0) rfl lTRule_Ours (qz .u32) ty27 rfl ?_))))
  obtain ⟨r6, hr7, b⟩ := qu b
  refine qo (vs := [(.int .u8 3), (.int .i64 4), (.int .u32 a0.Ours)]) en166 rfl (rules_number_ok k H2 hr7) ?_
  rintro v12 w11 ⟨G8, v13, hG9, rfl, H10, hv14⟩
  refine zh (K := qx) (vs := [v13]) (xs := ([r6] : (List TOpt))) H10 zQ el133 rfl ⟨hv14, yp⟩ rfl (by decide) ?_
  intro g15 w17 H16
  refine qb (qa (.slice (some ⟨g15, 0, none⟩) ([r6] : (List TOpt)).length 1) rfl) (qd (qe (wp_ret (qI ?_))))
  obtain ⟨G19, hG20, H21, hs22⟩ := H16.stay (i := 0) rfl (H16.capA (i := 0) rfl)
  have b := yq b
  subst b
  exact qt rfl (RV.tmp rfl RV.nil) ⟨_, (some ⟨g15, 0, none⟩), 1, (hG9.trans hG20), rfl, (St.pk [] 1 H21 rfl (by decide)), hs22⟩
 replace b := ifF b hb5
 refine qn (vb hb5) (wp_skip (qe (wp_seq (qc ?_))))
 refine zh (K := kB) (vs := [(.int .u8 194), (.int .u8 35), (.int .u8 5)]) (xs := ([194, 35, 5] : (List Int))) H2 zJ el5 rfl ⟨((qz .u8).toV _ _), ((qz .u8).toV _ _), ((qz .u8).toV _ _), yp⟩ rfl (by decide) ?_
 intro g23 w25 H24
 obtain ⟨G27, hG28, H29, hs30⟩ := H24.stay (i := 0) rfl (H24.capA (i := 0) rfl)
 refine qR (qT (G := G27) xv rfl bs133 rfl (Parts.cons jc qX ((qz .u8).toV _ _) (Parts.cons jp qZ (zw hs30) (Parts.nil _)))) ?_
 intro v31 hv32
 refine qb (qh fo29_1 rfl) (qp H29 (i := 0) rfl lTRule_Magic (qz .u32) ty27 rfl ?_)
 obtain ⟨r33, hr34, b⟩ := qu b
 refine qo (vs := [(.int .u8 5), (.int .i64 4), (.int .u32 a0.Magic)]) en166 rfl (rules_number_ok k H29 hr34) ?_
 rintro v39 w38 ⟨G35, v40, hG36, rfl, H37, hv41⟩
 refine zh (K := qx) (vs := [v31, v40]) (xs := ([(TOpt.mk 3 ([194, 35, 5] : (List Int))), r33] : (List TOpt))) H37 zQ el133 rfl ⟨(hv32.mono hG36), hv41, yp⟩ rfl (by decide) ?_
 intro g42 w44 H43
 refine qb (qa (.slice (some ⟨g42, 0, none⟩) ([(TOpt.mk 3 ([194, 35, 5] : (List Int))), r33] : (List TOpt)).length 2) rfl) (qd (qe (wp_ret ?_)))
 obtain ⟨G46, hG47, H48, hs49⟩ := H43.stay (i := 0) rfl (H43.capA (i := 0) rfl)
 have b := yq b
 subst b
 exact qt rfl (RV.tmp rfl RV.nil) ⟨_, (some ⟨g42, 0, none⟩), 2, ((hG28.trans hG36).trans hG47), rfl, (St.pk [] 1 H48 rfl (by decide)), hs49⟩

theorem nego_New_ok {c : World} (k : Hc c) {G : qk} {w : World} {σ : List Ent} {a0 : TRule} {v0_ : Value} (h0_ : qU.V G v0_ a0) (H : St c G w (σ)) {r : TNego} (b : nego_New a0 = some r) :
  Calls Tryz.prog 56 ([v0_] : List Value).toArray w (zu fun v w' => ∃ (G' : qk) (v1' : Value), GLe G G' ∧ tup [v1'] = v ∧ St c G' w' (σ) ∧ qv.V G' v1' r) := by
 unfold nego_New at b
 refine qG Tryz.func56 rfl rfl rfl (wp_seq (qc ?_))
 refine zp (K := qU) (x := a0) H rfl h0_ ?_
 intro b1 w4 H2
 refine qP H2 zr32 ?_
 intro b5 w8 H6
 refine qd (qe (wp_seq ?_))
 refine jP (f := 5) H6 mixed ?_
 intro w9 H10
 refine xW (by repeat (first | exact PF.base | apply PF.then_ | apply PF.blk)) ?_
 intro B E
 obtain ⟨r15, hr16, b⟩ := qu b
 refine qF (fuel := 2) (m := 7) (fun a w => ∃ T0 G1 v63 A65 c66, a = mk 7 (qQ T0 [(2, (pt b5)), (3, v63), (5, (.slice A65 r15.length c66))]) ∧ GLe G G1 ∧ St c G1 w ((.box b5 32 (qv.at_ xT)) :: σ) ∧ qU.V G1 v63 a0 ∧ SlR qx G1 A65 c66 r15) ?_ ?_
 ·rintro a w ⟨T0, G62, v63, A65, c66, rfl, hG60, H61, hv64, hs67⟩
  refine jD (i := 3) (m' := 15) rfl (qT (G := G62) zr32 rfl bs32 rfl (Parts.cons fo32_1 ym hv64 (Parts.cons fo32_2 zD (zw hs67) (Parts.nil _)))) B E ?_
  intro v72 hv73
  refine qi [4] ⟨qg (m' := 31) fun I j => ?_, yp⟩
  refine qy (z := (TNego.mk xT.A a0 r15 xT.Naks xT.Peer)) H61 (i := 0) rfl (Lens.id qv) zG rfl rfl hv73 ?_
  intro w75 H74
  refine qd (j _ _ (zA (qe (wp_ret ?_))))
  obtain ⟨v76, hv77, hl78⟩ := H74.loadv (i := 0) rfl zG
  have b := yq b
  subst b
  exact qt rfl (RV.cell rfl hl78 RV.nil) ⟨_, v76, hG60, rfl, (St.pk [] 1 H74 rfl (by decide)), hv77⟩
 intro hM59
 refine qF (fuel := 3) (m := 3) (fun a w => ∃ T0 G1 v47 v49, a = mk 7 (qQ T0 [(2, (pt b5)), (3, v47), (4, v49)]) ∧ GLe G G1 ∧ St c G1 w ((.box b5 32 (qv.at_ xT)) :: σ) ∧ qU.V G1 v47 a0 ∧ qU.V G1 v49 a0) ?_ ?_
 ·rintro a w ⟨T0, G46, v47, v49, rfl, hG44, H45, hv48, hv50⟩
  refine qi [2] ⟨qg (m' := 7) fun I j => ?_, yp⟩
  refine qo (vs := [v49]) en117 rfl (rules_Ask_ok k hv50 H45 hr16) ?_
  rintro v83 w82 ⟨G79, A84, c85, hG80, rfl, H81, hs86⟩
  refine qd (j _ _ ?_)
  exact hM59 _ _ ⟨_, _, v47, A84, c85, qf _ ⟨rfl, rfl, rfl, yp⟩, (hG44.trans hG80), H81, (hv48.mono hG80), hs86⟩
 intro hM43
 refine qi [0, 1] ⟨?_, ?_, yp⟩
 ·refine qg (m' := 1) fun I j => ?_
  refine ql H10 (i := 1) rfl (Lens.id qU) ty29 rfl ?_
  intro v87 hv88
  refine qd (j _ _ ?_)
  refine qi [1] ⟨qg (m' := 3) fun I j => ?_, yp⟩
  refine ql H10 (i := 1) rfl (Lens.id qU) ty29 rfl ?_
  intro v89 hv90
  refine qd (j _ _ ?_)
  exact hM43 _ _ ⟨_, _, v87, v89, qf _ ⟨rfl, rfl, rfl, yp⟩, GLe.refl _, (St.pk [0] 2 H10 rfl (by decide)), hv88, hv90⟩
 refine qg (m' := 2) fun I j => ?_
 refine ql H10 (i := 1) rfl (Lens.id qU) ty29 rfl ?_
 intro v91 hv92
 refine qd (j _ _ ?_)
 refine qi [0, 2] ⟨?_, ?_, yp⟩
 ·refine qg (m' := 3) fun I j => ?_
  refine ql H10 (i := 1) rfl (Lens.id qU) ty29 rfl ?_
  intro v93 hv94
  refine qd (j _ _ ?_)
  exact hM43 _ _ ⟨_, _, v93, v91, qf _ ⟨rfl, rfl, rfl, yp⟩, GLe.refl _, (St.pk [0] 2 H10 rfl (by decide)), hv94, hv92⟩
 refine qg (m' := 6) fun I j => ?_
 refine qo (vs := [v91]) en117 rfl (rules_Ask_ok k hv92 H10 hr16) ?_
 rintro v99 w98 ⟨G95, A100, c101, hG96, rfl, H97, hs102⟩
 refine qd (j _ _ ?_)
 refine qi [0] ⟨qg (m' := 7) fun I j => ?_, yp⟩
 refine ql H97 (i := 1) rfl (Lens.id qU) ty29 rfl ?_
 intro v103 hv104
 refine qd (j _ _ ?_)
 exact hM59 _ _ ⟨_, _, v103, A100, c101, qf _ ⟨rfl, rfl, rfl, yp⟩, hG96, (St.pk [0] 2 H97 rfl (by decide)), hv104, hs102⟩

theorem fsm_letters_ok {c : World} (k : Hc c) {G : qk} {w : World} {σ : List Ent}   (H : St c G w (σ)) {r : Unit} (b : fsm_letters = some r) :
  Calls Tryz.prog 212 ([] : List Value).toArray w (zu fun v w' => ∃ (G' : qk) (r1' : Nat), GLe G G' ∧ tup [(.map (some r1'))] = v ∧ St c G' w' ((.mp r1' [⟨.int .i32 117, (.int .i64 1), 0⟩, ⟨.int .i32 100, (.int .i64 2), 1⟩, ⟨.int .i32 116, (.int .i64 3), 2⟩, ⟨.int .i32 102, (.int .i64 4), 3⟩, ⟨.int .i32 105, (.int .i64 5), 4⟩, ⟨.int .i32 122, (.int .i64 6), 5⟩, ⟨.int .i32 114, (.int .i64 7), 6⟩, ⟨.int .i32 97, (.int .i64 8), 7⟩, ⟨.int .i32 110, (.int .i64 9), 8⟩, ⟨.int .i32 115, (.int .i64 10), 9⟩, ⟨.int .i32 107, (.int .i64 11), 10⟩, ⟨.int .i32 106, (.int .i64 12), 11⟩, ⟨.int .i32 101, (.int .i64 13), 12⟩] 13) :: σ)) := by
 unfold fsm_letters at b
 refine qG Tryz.func212 rfl rfl rfl (wp_seq (qc (qb (qa (.map none) rfl) (qd (qe (wp_seq (qc ?_)))))))
 refine wl_makeMap H ?_
 intro r1 w2 H3
 refine zz (key := (.int .i32 117)) (val := (.int .i64 1)) H3 (i := 0) rfl mt255 un21 rfl rfl rfl (by simp [Go.MapKept.IsKey]) rfl ?_
 intro w5 H6
 have H7 : St c G w5 ((.mp r1 [⟨.int .i32 117, (.int .i64 1), 0⟩] 1) :: σ) := H6
 refine zz (key := (.int .i32 100)) (val := (.int .i64 2)) H7 (i := 0) rfl mt255 un21 rfl rfl rfl (by simp [Go.MapKept.IsKey]) rfl ?_
 intro w8 H9
 have H10 : St c G w8 ((.mp r1 [⟨.int .i32 117, (.int .i64 1), 0⟩, ⟨.int .i32 100, (.int .i64 2), 1⟩] 2) :: σ) := H9
 refine zz (key := (.int .i32 116)) (val := (.int .i64 3)) H10 (i := 0) rfl mt255 un21 rfl rfl rfl (by simp [Go.MapKept.IsKey]) rfl ?_
 intro w11 H12
 have H13 : St c G w11 ((.mp r1 [⟨.int .i32 117, (.int .i64 1), 0⟩, ⟨.int .i32 100, (.int .i64 2), 1⟩, ⟨.int .i32 116, (.int .i64 3), 2⟩] 3) :: σ) := H12
 refine zz (key := (.int .i32 102)) (val := (.int .i64 4)) H13 (i := 0) rfl mt255 un21 rfl rfl rfl (by simp [Go.MapKept.IsKey]) rfl ?_
 intro w14 H15
 have H16 : St c G w14 ((.mp r1 [⟨.int .i32 117, (.int .i64 1), 0⟩, ⟨.int .i32 100, (.int .i64 2), 1⟩, ⟨.int .i32 116, (.int .i64 3), 2⟩, ⟨.int .i32 102, (.int .i64 4), 3⟩] 4) :: σ) := H15
 refine zz (key := (.int .i32 105)) (val := (.int .i64 5)) H16 (i := 0) rfl mt255 un21 rfl rfl rfl (by simp [Go.MapKept.IsKey]) rfl ?_
 intro w17 H18
 have H19 : St c G w17 ((.mp r1 [⟨.int .i32 117, (.int .i64 1), 0⟩, ⟨.int .i32 100, (.int .i64 2), 1⟩, ⟨.int .i32 116, (.int .i64 3), 2⟩, ⟨.int .i32 102, (.int .i64 4), 3⟩, ⟨.int .i32 105, (.int .i64 5), 4⟩] 5) :: σ) := H18
 refine zz (key := (.int .i32 122)) (val := (.int .i64 6)) H19 (i := 0) rfl mt255 un21 rfl rfl rfl (by simp [Go.MapKept.IsKey]) rfl ?_
 intro w20 H21
 have H22 : St c G w20 ((.mp r1 [⟨.int .i32 117, (.int .i64 1), 0⟩, ⟨.int .i32 100, (.int .i64 2), 1⟩, ⟨.int .i32 116, (.int .i64 3), 2⟩, ⟨.int .i32 102, (.int .i64 4), 3⟩, ⟨.int .i32 105, (.int .i64 5), 4⟩, ⟨.int .i32 122, (.int .i64 6), 5⟩] 6) :: σ) := H21
 refine zz (key := (.int .i32 114)) (val := (.int .i64 7)) H22 (i := 0) rfl mt255 un21 rfl rfl rfl (by simp [Go.MapKept.IsKey]) rfl ?_
 intro w23 H24
 have H25 : St c G w23 ((.mp r1 [⟨.int .i32 117, (.int .i64 1), 0⟩, ⟨.int .i32 100, (.int .i64 2), 1⟩, ⟨.int .i32 116, (.int .i64 3), 2⟩, ⟨.int .i32 102, (.int .i64 4), 3⟩, ⟨.int .i32 105, (.int .i64 5), 4⟩, ⟨.int .i32 122, (.int .i64 6), 5⟩, ⟨.int .i32 114, (.int .i64 7), 6⟩] 7) :: σ) := H24
 refine zz (key := (.int .i32 97)) (val := (.int .i64 8)) H25 (i := 0) rfl mt255 un21 rfl rfl rfl (by simp [Go.MapKept.IsKey]) rfl ?_
 intro w26 H27
 have H28 : St c G w26 ((.mp r1 [⟨.int .i32 117, (.int .i64 1), 0⟩, ⟨.int .i32 100, (.int .i64 2), 1⟩, ⟨.int .i32 116, (.int .i64 3), 2⟩, ⟨.int .i32 102, (.int .i64 4), 3⟩, ⟨.int .i32 105, (.int .i64 5), 4⟩, ⟨.int .i32 122, (.int .i64 6), 5⟩, ⟨.int .i32 114, (.int .i64 7), 6⟩, ⟨.int .i32 97, (.int .i64 8), 7⟩] 8) :: σ) := H27
 refine zz (key := (.int .i32 110)) (val := (.int .i64 9)) H28 (i := 0) rfl mt255 un21 rfl rfl rfl (by simp [Go.MapKept.IsKey]) rfl ?_
 intro w29 H30
 have H31 : St c G w29 ((.mp r1 [⟨.int .i32 117, (.int .i64 1), 0⟩, ⟨.int .i32 100, (.int .i64 2), 1⟩, ⟨.int .i32 116, (.int .i64 3), 2⟩, ⟨.int .i32 102, (.int .i64 4), 3⟩, ⟨.int .i32 105, (.int .i64 5), 4⟩, ⟨.int .i32 122, (.int .i64 6), 5⟩, ⟨.int .i32 114, (.int .i64 7), 6⟩, ⟨.int .i32 97, (.int .i64 8), 7⟩, ⟨.int .i32 110, (.int .i64 9), 8⟩] 9) :: σ) := H30
 refine zz (key := (.int .i32 115)) (val := (.int .i64 10)) H31 (i := 0) rfl mt255 un21 rfl rfl rfl (by simp [Go.MapKept.IsKey]) rfl ?_
 intro w32 H33
 have H34 : St c G w32 ((.mp r1 [⟨.int .i32 117, (.int .i64 1), 0⟩, ⟨.int .i32 100, (.int .i64 2), 1⟩, ⟨.int .i32 116, (.int .i64 3), 2⟩, ⟨.int .i32 102, (.int .i64 4), 3⟩, ⟨.int .i32 105, (.int .i64 5), 4⟩, ⟨.int .i32 122, (.int .i64 6), 5⟩, ⟨.int .i32 114, (.int .i64 7), 6⟩, ⟨.int .i32 97, (.int .i64 8), 7⟩, ⟨.int .i32 110, (.int .i64 9), 8⟩, ⟨.int .i32 115, (.int .i64 10), 9⟩] 10) :: σ) := H33
 refine zz (key := (.int .i32 107)) (val := (.int .i64 11)) H34 (i := 0) rfl mt255 un21 rfl rfl rfl (by simp [Go.MapKept.IsKey]) rfl ?_
 intro w35 H36
 have H37 : St c G w35 ((.mp r1 [⟨.int .i32 117, (.int .i64 1), 0⟩, ⟨.int .i32 100, (.int .i64 2), 1⟩, ⟨.int .i32 116, (.int .i64 3), 2⟩, ⟨.int .i32 102, (.int .i64 4), 3⟩, ⟨.int .i32 105, (.int .i64 5), 4⟩, ⟨.int .i32 122, (.int .i64 6), 5⟩, ⟨.int .i32 114, (.int .i64 7), 6⟩, ⟨.int .i32 97, (.int .i64 8), 7⟩, ⟨.int .i32 110, (.int .i64 9), 8⟩, ⟨.int .i32 115, (.int .i64 10), 9⟩, ⟨.int .i32 107, (.int .i64 11), 10⟩] 11) :: σ) := H36
 refine zz (key := (.int .i32 106)) (val := (.int .i64 12)) H37 (i := 0) rfl mt255 un21 rfl rfl rfl (by simp [Go.MapKept.IsKey]) rfl ?_
 intro w38 H39
 have H40 : St c G w38 ((.mp r1 [⟨.int .i32 117, (.int .i64 1), 0⟩, ⟨.int .i32 100, (.int .i64 2), 1⟩, ⟨.int .i32 116, (.int .i64 3), 2⟩, ⟨.int .i32 102, (.int .i64 4), 3⟩, ⟨.int .i32 105, (.int .i64 5), 4⟩, ⟨.int .i32 122, (.int .i64 6), 5⟩, ⟨.int .i32 114, (.int .i64 7), 6⟩, ⟨.int .i32 97, (.int .i64 8), 7⟩, ⟨.int .i32 110, (.int .i64 9), 8⟩, ⟨.int .i32 115, (.int .i64 10), 9⟩, ⟨.int .i32 107, (.int .i64 11), 10⟩, ⟨.int .i32 106, (.int .i64 12), 11⟩] 12) :: σ) := H39
 refine zz (key := (.int .i32 101)) (val := (.int .i64 13)) H40 (i := 0) rfl mt255 un21 rfl rfl rfl (by simp [Go.MapKept.IsKey]) rfl ?_
 intro w41 H42
 have H43 : St c G w41 ((.mp r1 [⟨.int .i32 117, (.int .i64 1), 0⟩, ⟨.int .i32 100, (.int .i64 2), 1⟩, ⟨.int .i32 116, (.int .i64 3), 2⟩, ⟨.int .i32 102, (.int .i64 4), 3⟩, ⟨.int .i32 105, (.int .i64 5), 4⟩, ⟨.int .i32 122, (.int .i64 6), 5⟩, ⟨.int .i32 114, (.int .i64 7), 6⟩, ⟨.int .i32 97, (.int .i64 8), 7⟩, ⟨.int .i32 110, (.int .i64 9), 8⟩, ⟨.int .i32 115, (.int .i64 10), 9⟩, ⟨.int .i32 107, (.int .i64 11), 10⟩, ⟨.int .i32 106, (.int .i64 12), 11⟩, ⟨.int .i32 101, (.int .i64 13), 12⟩] 13) :: σ) := H42
 iterate 2 refine qb (qa (.map (some r1)) rfl) ?_
 refine qd (qe (wp_ret ?_))
 have b := yq b
 subst b
 exact qt rfl (RV.tmp rfl RV.nil) ⟨_, r1, GLe.refl _, rfl, H43⟩

theorem fsm_table_ok {c : World} (k : Hc c) {G : qk} {w : World} {σ : List Ent}   (H : St c G w (σ)) {r : (List ByteArray)} (b : fsm_table = some r) :
  Calls Tryz.prog 214 ([] : List Value).toArray w (zu fun v w' => ∃ (G' : qk) (v1' : Value), GLe G G' ∧ tup [v1'] = v ∧ St c G' w' (σ) ∧ (Kd.arr 16 Kd.str).V G' v1' r) := by
 unfold fsm_table at b
 refine qG Tryz.func214 rfl rfl rfl (wp_seq (qc ?_))
 refine qP H zr259 ?_
 intro b1 w4 H2
 refine qd (qe (wp_seq (qc ?_)))
 refine qR (rn_arr (G := G) (K := Kd.str) (vs := [(.string (⟨#[50, 32, 105, 114, 54, 32, 45, 32, 45, 32, 45, 32, 45, 32, 45, 32, 45, 32, 45, 32, 45]⟩ : ByteArray)), (.string (⟨#[45, 32, 45, 32, 48, 32, 116, 49, 32, 48, 32, 49, 32, 49, 32, 49, 32, 49, 32, 100, 49]⟩ : ByteArray)), (.string (⟨#[116, 49, 32, 49, 32, 105, 114, 54, 32, 51, 32, 53, 32, 53, 32, 54, 32, 55, 32, 56, 32, 57]⟩ : ByteArray)), (.string (⟨#[48, 32, 102, 48, 32, 50, 32, 50, 32, 52, 32, 52, 32, 105, 115, 52, 32, 105, 115, 52, 32, 105, 115, 52, 32, 100, 105, 115, 52]⟩ : ByteArray)), (.string (⟨#[45, 32, 45, 32, 45, 32, 45, 32, 115, 52, 32, 115, 53, 32, 114, 54, 32, 114, 54, 32, 114, 56, 32, 45]⟩ : ByteArray)), (.string (⟨#[45, 32, 45, 32, 45, 32, 45, 32, 102, 50, 32, 102, 51, 32, 102, 51, 32, 102, 51, 32, 102, 51, 32, 45]⟩ : ByteArray)), (.string (⟨#[45, 32, 45, 32, 107, 50, 32, 105, 114, 97, 56, 32, 52, 32, 53, 32, 97, 56, 32, 97, 117, 57, 32, 97, 56, 32, 100, 114, 97, 56]⟩ : ByteArray)), (.string (⟨#[45, 32, 45, 32, 107, 50, 32, 105, 114, 110, 54, 32, 52, 32, 53, 32, 110, 54, 32, 110, 55, 32, 110, 54, 32, 100, 114, 110, 54]⟩ : ByteArray)), (.string (⟨#[45, 32, 45, 32, 107, 50, 32, 107, 51, 32, 52, 32, 53, 32, 105, 55, 32, 114, 54, 32, 105, 117, 57, 32, 100, 114, 54]⟩ : ByteArray)), (.string (⟨#[45, 32, 45, 32, 107, 50, 32, 107, 51, 32, 52, 32, 53, 32, 105, 114, 54, 32, 114, 54, 32, 105, 114, 56, 32, 100, 114, 54]⟩ : ByteArray)), (.string (⟨#[45, 32, 45, 32, 107, 50, 32, 107, 51, 32, 107, 52, 32, 107, 53, 32, 107, 54, 32, 107, 54, 32, 107, 54, 32, 100, 122, 107, 53]⟩ : ByteArray)), (.string (⟨#[45, 32, 45, 32, 50, 32, 51, 32, 102, 50, 32, 102, 51, 32, 54, 32, 54, 32, 56, 32, 100, 114, 54]⟩ : ByteArray)), (.string (⟨#[45, 32, 45, 32, 106, 50, 32, 106, 51, 32, 106, 52, 32, 106, 53, 32, 106, 54, 32, 106, 55, 32, 106, 56, 32, 106, 57]⟩ : ByteArray)), (.string (⟨#[45, 32, 45, 32, 50, 32, 51, 32, 52, 32, 53, 32, 54, 32, 54, 32, 56, 32, 57]⟩ : ByteArray)), (.string (⟨#[45, 32, 45, 32, 102, 50, 32, 102, 51, 32, 102, 50, 32, 102, 51, 32, 102, 51, 32, 102, 51, 32, 102, 51, 32, 100, 105, 115, 53]⟩ : ByteArray)), (.string (⟨#[45, 32, 45, 32, 50, 32, 51, 32, 52, 32, 53, 32, 54, 32, 55, 32, 56, 32, 101, 57]⟩ : ByteArray))]) (xs := ([(⟨#[50, 32, 105, 114, 54, 32, 45, 32, 45, 32, 45, 32, 45, 32, 45, 32, 45, 32, 45, 32, 45]⟩ : ByteArray), (⟨#[45, 32, 45, 32, 48, 32, 116, 49, 32, 48, 32, 49, 32, 49, 32, 49, 32, 49, 32, 100, 49]⟩ : ByteArray), (⟨#[116, 49, 32, 49, 32, 105, 114, 54, 32, 51, 32, 53, 32, 53, 32, 54, 32, 55, 32, 56, 32, 57]⟩ : ByteArray), (⟨#[48, 32, 102, 48, 32, 50, 32, 50, 32, 52, 32, 52, 32, 105, 115, 52, 32, 105, 115, 52, 32, 105, 115, 52, 32, 100, 105, 115, 52]⟩ : ByteArray), (⟨#[45, 32, 45, 32, 45, 32, 45, 32, 115, 52, 32, 115, 53, 32, 114, 54, 32, 114, 54, 32, 114, 56, 32, 45]⟩ : ByteArray), (⟨#[45, 32, 45, 32, 45, 32, 45, 32, 102, 50, 32, 102, 51, 32, 102, 51, 32, 102, 51, 32, 102, 51, 32, 45]⟩ : ByteArray), (⟨#[45, 32, 45, 32, 107, 50, 32, 105, 114, 97, 56, 32, 52, 32, 53, 32, 97, 56, 32, 97, 117, 57, 32, 97, 56, 32, 100, 114, 97, 56]⟩ : ByteArray), (⟨#[45, 32, 45, 32, 107, 50, 32, 105, 114, 110, 54, 32, 52, 32, 53, 32, 110, 54, 32, 110, 55, 32, 110, 54, 32, 100, 114, 110, 54]⟩ : ByteArray), (⟨#[45, 32, 45, 32, 107, 50, 32, 107, 51, 32, 52, 32, 53, 32, 105, 55, 32, 114, 54, 32, 105, 117, 57, 32, 100, 114, 54]⟩ : ByteArray), (⟨#[45, 32, 45, 32, 107, 50, 32, 107, 51, 32, 52, 32, 53, 32, 105, 114, 54, 32, 114, 54, 32, 105, 114, 56, 32, 100, 114, 54]⟩ : ByteArray), (⟨#[45, 32, 45, 32, 107, 50, 32, 107, 51, 32, 107, 52, 32, 107, 53, 32, 107, 54, 32, 107, 54, 32, 107, 54, 32, 100, 122, 107, 53]⟩ : ByteArray), (⟨#[45, 32, 45, 32, 50, 32, 51, 32, 102, 50, 32, 102, 51, 32, 54, 32, 54, 32, 56, 32, 100, 114, 54]⟩ : ByteArray), (⟨#[45, 32, 45, 32, 106, 50, 32, 106, 51, 32, 106, 52, 32, 106, 53, 32, 106, 54, 32, 106, 55, 32, 106, 56, 32, 106, 57]⟩ : ByteArray), (⟨#[45, 32, 45, 32, 50, 32, 51, 32, 52, 32, 53, 32, 54, 32, 54, 32, 56, 32, 57]⟩ : ByteArray), (⟨#[45, 32, 45, 32, 102, 50, 32, 102, 51, 32, 102, 50, 32, 102, 51, 32, 102, 51, 32, 102, 51, 32, 102, 51, 32, 100, 105, 115, 53]⟩ : ByteArray), (⟨#[45, 32, 45, 32, 50, 32, 51, 32, 52, 32, 53, 32, 54, 32, 55, 32, 56, 32, 101, 57]⟩ : ByteArray)] : (List ByteArray))) zr259 ar259 ty9 rfl ⟨(dStr.toV _ _), (dStr.toV _ _), (dStr.toV _ _), (dStr.toV _ _), (dStr.toV _ _), (dStr.toV _ _), (dStr.toV _ _), (dStr.toV _ _), (dStr.toV _ _), (dStr.toV _ _), (dStr.toV _ _), (dStr.toV _ _), (dStr.toV _ _), (dStr.toV _ _), (dStr.toV _ _), (dStr.toV _ _), yp⟩ rfl) ?_
 intro v5 hv6
 refine qy (z := ([(⟨#[50, 32, 105, 114, 54, 32, 45, 32, 45, 32, 45, 32, 45, 32, 45, 32, 45, 32, 45, 32, 45]⟩ : ByteArray), (⟨#[45, 32, 45, 32, 48, 32, 116, 49, 32, 48, 32, 49, 32, 49, 32, 49, 32, 49, 32, 100, 49]⟩ : ByteArray), (⟨#[116, 49, 32, 49, 32, 105, 114, 54, 32, 51, 32, 53, 32, 53, 32, 54, 32, 55, 32, 56, 32, 57]⟩ : ByteArray), (⟨#[48, 32, 102, 48, 32, 50, 32, 50, 32, 52, 32, 52, 32, 105, 115, 52, 32, 105, 115, 52, 32, 105, 115, 52, 32, 100, 105, 115, 52]⟩ : ByteArray), (⟨#[45, 32, 45, 32, 45, 32, 45, 32, 115, 52, 32, 115, 53, 32, 114, 54, 32, 114, 54, 32, 114, 56, 32, 45]⟩ : ByteArray), (⟨#[45, 32, 45, 32, 45, 32, 45, 32, 102, 50, 32, 102, 51, 32, 102, 51, 32, 102, 51, 32, 102, 51, 32, 45]⟩ : ByteArray), (⟨#[45, 32, 45, 32, 107, 50, 32, 105, 114, 97, 56, 32, 52, 32, 53, 32, 97, 56, 32, 97, 117, 57, 32, 97, 56, 32, 100, 114, 97, 56]⟩ : ByteArray), (⟨#[45, 32, 45, 32, 107, 50, 32, 105, 114, 110, 54, 32, 52, 32, 53, 32, 110, 54, 32, 110, 55, 32, 110, 54, 32, 100, 114, 110, 54]⟩ : ByteArray), (⟨#[45, 32, 45, 32, 107, 50, 32, 107, 51, 32, 52, 32, 53, 32, 105, 55, 32, 114, 54, 32, 105, 117, 57, 32, 100, 114, 54]⟩ : ByteArray), (⟨#[45, 32, 45, 32, 107, 50, 32, 107, 51, 32, 52, 32, 53, 32, 105, 114, 54, 32, 114, 54, 32, 105, 114, 56, 32, 100, 114, 54]⟩ : ByteArray), (⟨#[45, 32, 45, 32, 107, 50, 32, 107, 51, 32, 107, 52, 32, 107, 53, 32, 107, 54, 32, 107, 54, 32, 107, 54, 32, 100, 122, 107, 53]⟩ : ByteArray), (⟨#[45, 32, 45, 32, 50, 32, 51, 32, 102, 50, 32, 102, 51, 32, 54, 32, 54, 32, 56, 32, 100, 114, 54]⟩ : ByteArray), (⟨#[45, 32, 45, 32, 106, 50, 32, 106, 51, 32, 106, 52, 32, 106, 53, 32, 106, 54, 32, 106, 55, 32, 106, 56, 32, 106, 57]⟩ : ByteArray), (⟨#[45, 32, 45, 32, 50, 32, 51, 32, 52, 32, 53, 32, 54, 32, 54, 32, 56, 32, 57]⟩ : ByteArray), (⟨#[45, 32, 45, 32, 102, 50, 32, 102, 51, 32, 102, 50, 32, 102, 51, 32, 102, 51, 32, 102, 51, 32, 102, 51, 32, 100, 105, 115, 53]⟩ : ByteArray), (⟨#[45, 32, 45, 32, 50, 32, 51, 32, 52, 32, 53, 32, 54, 32, 55, 32, 56, 32, 101, 57]⟩ : ByteArray)] : (List ByteArray))) H2 (i := 0) rfl (Lens.id (Kd.arr 16 Kd.str)) ty259 rfl rfl hv6 ?_
 intro w8 H7
 refine qd (qe (wp_ret ?_))
 obtain ⟨v9, hv10, hl11⟩ := H7.loadv (i := 0) rfl ty259
 have b := yq b
 subst b
 exact qt rfl (RV.cell rfl hl11 RV.nil) ⟨_, v9, GLe.refl _, rfl, (St.pk [] 1 H7 rfl (by decide)), hv10⟩

theorem fsm_Next_ok {c : World} (k : Hc c) {G : qk} {w : World} {σ : List Ent} {a0 : Int} {a1 : Int}  (H : St c G w (σ)) {r : ((List Int) × Int × Bool)} (b : fsm_Next a0 a1 = some r) :
  Calls Tryz.prog 183 ([(.int .i64 a0), (.int .i64 a1)] : List Value).toArray w (zu fun v w' => ∃ (G' : qk) (A1' : Option Addr) (c2' : Nat), GLe G G' ∧ tup [(.slice A1' r.1.length c2'), (.int .i64 r.2.1), (.bool r.2.2)] = v ∧ St c G' w' (σ) ∧ SlR kI G' A1' c2' r.1) := by
 unfold fsm_Next at b
 refine qG Tryz.func183 rfl rfl rfl (wp_seq (qc (qb (qa (.slice none 0 0) rfl) (qb (qa (.int .i64 0) rfl) (qb (qa (.bool false) rfl) (qd (qe (wp_seq ?_))))))))
 refine wp_seq (join (fun a w => ∃ (T0 G1 : _) (x4 : Bool), a = mk 60 (qQ T0 [(0, (.int .i64 a0)), (1, (.int .i64 a1)), (24, (.bool x4))]) ∧ GLe G G1 ∧ St c G1 w (σ) ∧ fsm_Next_j1 a0 a1 x4 = some r) ?_ ?_)
 ·rintro a w ⟨T0, G7, x4, rfl, hG5, H6, b⟩
  rcases qm x4 with hb8 | hb8
  ·replace b := ifT b hb8
   refine qs (vb hb8) (wp_seq (qc (qb (qa (.int .i64 a0) rfl) (qb (qa (.slice none 0 0) rfl) (qb (qa (.int .i64 a0) rfl) (qb (qa (.bool false) rfl) (qd (qe (wp_ret (qI ?_))))))))))
   have b := yq b
   subst b
   exact qt rfl (RV.tmp rfl (RV.tmp rfl (RV.tmp rfl RV.nil))) ⟨_, none, 0, hG5, rfl, H6, (SlR.nil _ _)⟩
  replace b := ifF b hb8
  refine qn (vb hb8) (wp_skip (qe (wp_seq (qc (qb (qa (.slice none 0 0) rfl) (qd (qe (wp_seq (qc ?_)))))))))
  obtain ⟨r9, hr10, b⟩ := qu b
  refine qo (vs := []) en212 rfl (fsm_letters_ok k H6 hr10) ?_
  rintro v15 w14 ⟨G11, r16, hG12, rfl, H13⟩
  refine qb (qa (.map (some r16)) rfl) (qd (qe (wp_seq (wp_seq (qc ?_)))))
  obtain ⟨r18, hr19, b⟩ := qu b
  refine qo (vs := []) en214 rfl (fsm_table_ok k H13 hr19) ?_
  rintro v24 w23 ⟨G20, v25, hG21, rfl, H22, hv26⟩
  refine qb (qa (.int .i64 a1) rfl) ?_
  obtain ⟨x27, hx28, b⟩ := qu b
  refine qR (rn_indexV ar259 ty9 rfl hv26 rfl hx28) ?_
  intro v29 hv30
  obtain rfl := Det.V dStr hv30
  obtain ⟨r31, hr32, b⟩ := qu b
  refine qo (vs := [(.string x27)]) en213 rfl (flds_ok k H22 hr32) ?_
  rintro v37 w36 ⟨G33, A38, c39, hG34, rfl, H35, hs40⟩
  refine qb (qa (.int .i64 a0) rfl) ?_
  obtain ⟨x41, hx42, b⟩ := qu b
  refine qR (qY hs40 sl257 ty9 rfl rfl hx42) ?_
  intro a43 hp44
  refine zd H35 hp44 dStr ty9 rfl ?_
  refine wl_range H35 un9 rfl ?_
  intro r45 w46 H47
  refine qd (qe (wp_block ?_))
  have H157 := H47.nilrow kI none 3
  refine ja (fun (s : ((List Int) × Nat)) a w => ∃ (T0 : Fr) (G1 : qk) (g117 : Option Nat) (A118 : Option Addr) (c119 : Nat), a = mk 60 (qQ T0 [(0, (.int .i64 a0)), (7, (.slice A118 s.1.length c119)), (8, (.map (some r16))), (34, (pt r45))]) ∧ GLe G33 G1 ∧ St c G1 w ((.row kI g117 A118 c119 3 s.1) :: (.it r45 x41 s.2) :: (.mp r16 [⟨.int .i32 117, (.int .i64 1), 0⟩, ⟨.int .i32 100, (.int .i64 2), 1⟩, ⟨.int .i32 116, (.int .i64 3), 2⟩, ⟨.int .i32 102, (.int .i64 4), 3⟩, ⟨.int .i32 105, (.int .i64 5), 4⟩, ⟨.int .i32 122, (.int .i64 6), 5⟩, ⟨.int .i32 114, (.int .i64 7), 6⟩, ⟨.int .i32 97, (.int .i64 8), 7⟩, ⟨.int .i32 110, (.int .i64 9), 8⟩, ⟨.int .i32 115, (.int .i64 10), 9⟩, ⟨.int .i32 107, (.int .i64 11), 10⟩, ⟨.int .i32 106, (.int .i64 12), 11⟩, ⟨.int .i32 101, (.int .i64 13), 12⟩] 13) :: σ)) b ?_ ?_
  ·exact ⟨_, _, none, none, 0, qf _ ⟨rfl, rfl, rfl, rfl, yp⟩, GLe.refl _, H157⟩
  rintro ⟨x116, x121⟩ a w y124 ⟨T0, G125, g117, A118, c119, rfl, hG122, H123⟩ b hy49
  refine wp_seq (qc ?_)
  rcases qm (decide (x121 < x41.size)) with hb126 | hb126
  ·replace b := ifT b hb126
   refine wl_nextT H123 (i := 1) rfl rfl hb126 ?_
   intro w127 H128
   refine qb (qa (.bool true) rfl) (qd (qe (wp_seq (qs rfl (wp_skip (qe (wp_block (wp_seq (qc ?_)))))))))
   iterate 2 refine qb (qa (.int .i32 ((nxt x41 x121).1)) rfl) ?_
   refine qd (qe (wp_seq (wp_block ?_)))
   refine wp_seq (join (fun a w => ∃ (T0 G1 : _) (x130 : (List Int)) (x135 : Bool) (g131 A132 c133 : _), a = mk 60 (qQ T0 [(0, (.int .i64 a0)), (7, (.slice A132 x130.length c133)), (8, (.map (some r16))), (10, (.int .i32 ((nxt x41 x121).1))), (34, (pt r45)), (38, (.bool x135))]) ∧ GLe G125 G1 ∧ St c G1 w ((.row kI g131 A132 c133 3 x130) :: (.it r45 x41 ((nxt x41 x121).2)) :: (.mp r16 [⟨.int .i32 117, (.int .i64 1), 0⟩, ⟨.int .i32 100, (.int .i64 2), 1⟩, ⟨.int .i32 116, (.int .i64 3), 2⟩, ⟨.int .i32 102, (.int .i64 4), 3⟩, ⟨.int .i32 105, (.int .i64 5), 4⟩, ⟨.int .i32 122, (.int .i64 6), 5⟩, ⟨.int .i32 114, (.int .i64 7), 6⟩, ⟨.int .i32 97, (.int .i64 8), 7⟩, ⟨.int .i32 110, (.int .i64 9), 8⟩, ⟨.int .i32 115, (.int .i64 10), 9⟩, ⟨.int .i32 107, (.int .i64 11), 10⟩, ⟨.int .i32 106, (.int .i64 12), 11⟩, ⟨.int .i32 101, (.int .i64 13), 12⟩] 13) :: σ) ∧ fsm_Next_j3 a0 x41 x121 x130 x135 = some y124) ?_ ?_)
   ·rintro a w ⟨T0, G138, x130, x135, g131, A132, c133, rfl, hG136, H137, b⟩
    rcases qm x135 with hb139 | hb139
    ·replace b := ifT b hb139
     refine qs (vb hb139) (wp_seq (qc (qb (qa (.slice A132 x130.length c133) rfl) (qb (qa (.int .i32 ((nxt x41 x121).1)) rfl) (qb (qa (.int .i32 (IntKind.i32.wrap ((nxt x41 x121).1 - 48))) rfl) (qb (zU un21 un3 rfl) (qb (qa (.slice A132 x130.length c133) rfl) (qb (qa (.int .i64 (IntKind.i64.wrap ((IntKind.i32.wrap ((nxt x41 x121).1 - 48))))) rfl) (qb (qa (.bool true) rfl) (qd (qe ?_)))))))))))
     refine wp_ret (zg (qI (zg (qI ?_))))
     replace b := jJ b hy49
     refine zg (qI ?_)
     obtain ⟨G140, hG141, H142, hs143⟩ := H137.stay (i := 0) rfl (H137.capA (i := 0) rfl)
     have b := yq b
     subst b
     exact qt rfl (RV.tmp rfl (RV.tmp rfl (RV.tmp rfl RV.nil))) ⟨_, A132, c133, ((((((hG5.trans hG12).trans hG21).trans hG34).trans hG122).trans hG136).trans hG141), rfl, (St.pk [] 2 H142 rfl (by decide)), hs143⟩
    replace b := ifF b hb139
    refine qn (vb hb139) (wp_seq (qc (qb (qa (.int .i32 ((nxt x41 x121).1)) rfl) ?_)))
    iterate 2 refine qb (qa (.bool ((nxt x41 x121).1 == 45)) rfl) ?_
    refine qd (qe ?_)
    rcases qm ((nxt x41 x121).1 == 45) with hb144 | hb144
    ·replace b := ifT b hb144
     refine qs (vb hb144) (wp_seq (qc (qb (qa (.int .i64 a0) rfl) (qb (qa (.slice none 0 0) rfl) (qb (qa (.int .i64 a0) rfl) (qb (qa (.bool false) rfl) (qd (qe (wp_ret (zg (qI ?_)))))))))))
     refine zg (qI ?_)
     replace b := jJ b hy49
     refine zg (qI ?_)
     have b := yq b
     subst b
     exact qt rfl (RV.tmp rfl (RV.tmp rfl (RV.tmp rfl RV.nil))) ⟨_, none, 0, (((((hG5.trans hG12).trans hG21).trans hG34).trans hG122).trans hG136), rfl, (St.pk [] 3 H137 rfl (by decide)), (SlR.nil _ _)⟩
    replace b := ifF b hb144
    refine qn (vb hb144) (wp_skip (zn (qe (qc (qb (qa (.slice A132 x130.length c133) rfl) (qb (qa (.map (some r16)) rfl) (qb (qa (.int .i32 ((nxt x41 x121).1)) rfl) ?_)))))))
    refine wl_lookupI (l := [(117, 1), (100, 2), (116, 3), (102, 4), (105, 5), (122, 6), (114, 7), (97, 8), (110, 9), (115, 10), (107, 11), (106, 12), (101, 13)]) (k' := .i64) H137 (i := 2) rfl mt255 un21 rfl rfl rfl mz3 ?_
    refine zh (K := kI) (vs := [(.int .i64 ((lkI [(117, 1), (100, 2), (116, 3), (102, 4), (105, 5), (122, 6), (114, 7), (97, 8), (110, 9), (115, 10), (107, 11), (106, 12), (101, 13)] ((nxt x41 x121).1)).getD 0))]) (xs := ([((lkI [(117, 1), (100, 2), (116, 3), (102, 4), (105, 5), (122, 6), (114, 7), (97, 8), (110, 9), (115, 10), (107, 11), (106, 12), (101, 13)] ((nxt x41 x121).1)).getD 0)] : (List Int))) H137 xX el3 rfl ⟨((qz .i64).toV _ _), yp⟩ rfl (by decide) ?_
    intro g145 w147 H146
    obtain ⟨r149, hr150, b⟩ := qu b
    refine zB H146 xX el3 (i := 1) rfl rfl rfl ((H146.okAt (i := 0) rfl).src) hr150 ?_
    intro g151 A152 c153 w154 H155
    refine qb (qa (.slice A152 r149.length c153) rfl) (qd (zn (qe ?_)))
    exact ⟨_, (yq b).symm, _, _, g151, A152, c153, qf _ ⟨rfl, rfl, rfl, rfl, yp⟩, (hG122.trans hG136), (St.pk [1, 2, 3] 4 H155 rfl (by decide))⟩
   refine qc (qb (qa (.int .i32 ((nxt x41 x121).1)) rfl) ?_)
   iterate 2 refine qb (qa (.bool (decide ((nxt x41 x121).1 ≥ 48))) rfl) ?_
   rcases qm (decide ((nxt x41 x121).1 ≥ 48)) with hb156 | hb156
   ·replace b := ifT b hb156
    refine qj rfl rfl rfl (vb hb156) (qb (qa (.int .i32 ((nxt x41 x121).1)) rfl) (qj rfl rfl rfl (vb hb156) (qb (qa (.bool (decide ((nxt x41 x121).1 ≤ 57))) rfl) (qb (qB (.bool (decide ((nxt x41 x121).1 ≤ 57))) (vb hb156) rfl) (qb (qa (.bool (decide ((nxt x41 x121).1 ≤ 57))) rfl) (qd (qe ?_)))))))
    exact ⟨_, _, x116, (decide ((nxt x41 x121).1 ≤ 57)), g117, A118, c119, qf _ ⟨rfl, rfl, rfl, rfl, rfl, rfl, yp⟩, GLe.refl _, H128, b⟩
   replace b := ifF b hb156
   iterate 2 refine qJ rfl rfl rfl (vb hb156) ?_
   refine qb (qr (.bool false) (vb hb156) rfl) (qb (qa (.bool false) rfl) (qd (qe ?_)))
   exact ⟨_, _, x116, false, g117, A118, c119, qf _ ⟨rfl, rfl, rfl, rfl, rfl, rfl, yp⟩, GLe.refl _, H128, b⟩
  replace b := ifF b hb126
  refine wl_nextF H123 (i := 1) rfl rfl hb126 ?_
  refine qb (qa (.bool false) rfl) (qd (qe (wp_seq (qn rfl ?_))))
  refine wp_exit ?_
  iterate 2 refine xB ?_
  replace b := jJ b hy49
  refine blk_e ?_
  refine qe (wp_seq (qc (qb (qa (.int .i64 a0) rfl) (qb (qa (.slice none 0 0) rfl) (qb (qa (.int .i64 a0) rfl) (qb (qa (.bool false) rfl) (qd (qe (wp_ret ?_)))))))))
  have b := yq b
  subst b
  exact qt rfl (RV.tmp rfl (RV.tmp rfl (RV.tmp rfl RV.nil))) ⟨_, none, 0, ((((hG5.trans hG12).trans hG21).trans hG34).trans hG122), rfl, (St.pk [] 3 H123 rfl (by decide)), (SlR.nil _ _)⟩
 refine qc (qb (qa (.int .i64 a0) rfl) ?_)
 iterate 2 refine qb (qa (.bool (decide (a0 < 0))) rfl) ?_
 rcases qm (decide (a0 < 0)) with hb159 | hb159
 ·replace b := ifT b hb159
  iterate 2 refine qJ rfl rfl rfl (vb hb159) ?_
  refine qb (qB (.bool true) (vb hb159) rfl) (qb (qa (.bool true) rfl) ?_)
  iterate 2 refine qJ rfl rfl rfl rfl ?_
  refine qb (qB (.bool true) rfl rfl) (qb (qa (.bool true) rfl) ?_)
  iterate 2 refine qJ rfl rfl rfl rfl ?_
  refine qb (qB (.bool true) rfl rfl) (qd (qe ?_))
  exact ⟨_, _, true, qf _ ⟨rfl, rfl, rfl, yp⟩, GLe.refl _, H, b⟩
 replace b := ifF b hb159
 refine qj rfl rfl rfl (vb hb159) (qb (qa (.int .i64 a0) rfl) (qj rfl rfl rfl (vb hb159) (qb (qa (.bool (decide (a0 ≥ 10))) rfl) (qb (qr (.bool (decide (a0 ≥ 10))) (vb hb159) rfl) (qb (qa (.bool (decide (a0 ≥ 10))) rfl) ?_)))))
 rcases qm (decide (a0 ≥ 10)) with hb160 | hb160
 ·replace b := ifT b hb160
  iterate 2 refine qJ rfl rfl rfl (vb hb160) ?_
  refine qb (qB (.bool true) (vb hb160) rfl) (qb (qa (.bool true) rfl) ?_)
  iterate 2 refine qJ rfl rfl rfl rfl ?_
  refine qb (qB (.bool true) rfl rfl) (qd (qe ?_))
  exact ⟨_, _, true, qf _ ⟨rfl, rfl, rfl, yp⟩, GLe.refl _, H, b⟩
 replace b := ifF b hb160
 refine qj rfl rfl rfl (vb hb160) (qb (qa (.int .i64 a1) rfl) (qj rfl rfl rfl (vb hb160) (qb (qa (.bool (decide (a1 < 0))) rfl) (qb (qr (.bool (decide (a1 < 0))) (vb hb160) rfl) (qb (qa (.bool (decide (a1 < 0))) rfl) ?_)))))
 rcases qm (decide (a1 < 0)) with hb161 | hb161
 ·replace b := ifT b hb161
  iterate 2 refine qJ rfl rfl rfl (vb hb161) ?_
  refine qb (qB (.bool true) (vb hb161) rfl) (qd (qe ?_))
  exact ⟨_, _, true, qf _ ⟨rfl, rfl, rfl, yp⟩, GLe.refl _, H, b⟩
 replace b := ifF b hb161
 refine qj rfl rfl rfl (vb hb161) (qb (qa (.int .i64 a1) rfl) (qj rfl rfl rfl (vb hb161) (qb (qa (.bool (decide (a1 ≥ 16))) rfl) (qb (qr (.bool (decide (a1 ≥ 16))) (vb hb161) rfl) (qd (qe ?_))))))
 exact ⟨_, _, (decide (a1 ≥ 16)), qf _ ⟨rfl, rfl, rfl, yp⟩, GLe.refl _, H, b⟩

theorem slices_Index_int_ok {c : World} (k : Hc c) {G : qk} {w : World} {σ : List Ent} {a0 : (List Int)} {A0_ : Option Addr} {c0_ : Nat} {a1 : Int} (h0_ : SlR kI G A0_ c0_ a0) (H : St c G w (σ)) {r : Int} (b : slices_Index_int a0 a1 = some r) :
  Calls Tryz.prog 177 ([(.slice A0_ a0.length c0_), (.int .i64 a1)] : List Value).toArray w (zu fun v w' => ∃ (G' : qk), GLe G G' ∧ tup [(.int .i64 r)] = v ∧ St c G' w' (σ)) := by
 unfold slices_Index_int at b
 refine qG Tryz.func177 rfl rfl rfl (wp_seq (qc (qb (qa (.int .i64 0) rfl) (qd (qe (wp_seq (wp_seq (qc (qb (qa (.slice A0_ a0.length c0_) rfl) (qb (zb xX rfl) (qb (qa (.int .i64 0) rfl) (qd (qe ?_)))))))))))))
 refine wp_block ?_
 refine ja (fun (s : Int) a w => ∃ (T0 : Fr) (G1 : qk), a = mk 19 (qQ T0 [(0, (.slice A0_ a0.length c0_)), (1, (.int .i64 a1)), (7, (.int .i64 (a0.length : Int))), (8, (.int .i64 s))]) ∧ GLe G G1 ∧ St c G1 w (σ)) b ?_ ?_
 ·exact ⟨_, _, qf _ ⟨rfl, rfl, rfl, rfl, yp⟩, GLe.refl _, H⟩
 rintro x9 a w y12 ⟨T0, G13, rfl, hG10, H11⟩ b hy1
 refine wp_seq (qc (qb (qa (.bool (decide (x9 < (a0.length : Int)))) rfl) (qd (qe (wp_seq ?_)))))
 rcases qm (decide (x9 < (a0.length : Int))) with hb14 | hb14
 ·replace b := ifT b hb14
  refine qs (vb hb14) (wp_skip (qe (wp_seq (wp_block (wp_seq (qc ?_))))))
  iterate 2 refine qb (qa (.int .i64 x9) rfl) ?_
  refine qd (qe (wp_seq (qc (qb (qa (.int .i64 a1) rfl) (qb (qa (.slice A0_ a0.length c0_) rfl) (qb (qa (.int .i64 x9) rfl) ?_))))))
  obtain ⟨x15, hx16, b⟩ := qu b
  refine qR (qY (h0_.mono hG10) xX ty3 rfl rfl hx16) ?_
  intro a17 hp18
  refine zd H11 hp18 (qz .i64) ty3 rfl ?_
  refine qb (qa (.bool (a1 == x15)) rfl) (qd (qe ?_))
  rcases qm (a1 == x15) with hb19 | hb19
  ·replace b := ifT b hb19
   refine qs (vb hb19) (wp_seq (qc ?_))
   iterate 2 refine qb (qa (.int .i64 x9) rfl) ?_
   refine qd (qe (wp_ret (zg ?_)))
   iterate 2 refine qI ?_
   replace b := jJ b hy1
   refine zg (qI ?_)
   have b := yq b
   subst b
   exact qt rfl (RV.tmp rfl RV.nil) ⟨_, hG10, rfl, H11⟩
  replace b := ifF b hb19
  refine qn (vb hb19) (wp_skip (zn (qe (qc ?_))))
  iterate 2 refine qb (qa (.int .i64 (IntKind.i64.wrap (x9 + 1))) rfl) ?_
  refine qd (qe ?_)
  exact ⟨_, (yq b).symm, _, _, qf _ ⟨rfl, rfl, rfl, rfl, yp⟩, hG10, H11⟩
 replace b := ifF b hb14
 refine qn (vb hb14) ?_
 refine wp_exit ?_
 iterate 2 refine xB ?_
 replace b := jJ b hy1
 refine blk_e ?_
 refine qe (wp_seq (qc (qb (qa (.int .i64 (-1)) rfl) (qd (qe (wp_ret ?_))))))
 have b := yq b
 subst b
 exact qt rfl (RV.tmp rfl RV.nil) ⟨_, hG10, rfl, H11⟩

theorem yl {c : World} (k : Hc c) {G : qk} {w : World} {σ : List Ent} {a0 : (List Int)} {A0_ : Option Addr} {c0_ : Nat} {a1 : Int} (h0_ : SlR kI G A0_ c0_ a0) (H : St c G w (σ)) {r : Bool} (b : jC a0 a1 = some r) :
  Calls Tryz.prog 126 ([(.slice A0_ a0.length c0_), (.int .i64 a1)] : List Value).toArray w (zu fun v w' => ∃ (G' : qk), GLe G G' ∧ tup [(.bool r)] = v ∧ St c G' w' (σ)) := by
 unfold jC at b
 refine qG Tryz.func126 rfl rfl rfl (wp_seq (qc (qb (qa (.bool false) rfl) (qd (qe (wp_seq (qc (qb (qa (.slice A0_ a0.length c0_) rfl) (qb (qa (.int .i64 a1) rfl) ?_)))))))))
 obtain ⟨r1, hr2, b⟩ := qu b
 refine qo (vs := [(.slice A0_ a0.length c0_), (.int .i64 a1)]) en177 rfl (slices_Index_int_ok k h0_ H hr2) ?_
 rintro v7 w6 ⟨G3, hG4, rfl, H5⟩
 iterate 2 refine qb (qa (.bool (decide (r1 ≥ 0))) rfl) ?_
 refine qd (qe (wp_ret ?_))
 have b := yq b
 subst b
 exact qt rfl (RV.tmp rfl RV.nil) ⟨_, hG4, rfl, H5⟩

theorem auto_work_begin_ok {c : World} (k : Hc c) {G : qk} {w : World} {σ : List Ent} {b0 : Nat} {x2 : Tauto_work}  (H : St c G w ((.box b0 235 (jL.at_ x2)) :: σ)) {r : Tauto_work} (b : auto_work_begin x2 = some r) :
  Calls Tryz.prog 184 ([(pt b0)] : List Value).toArray w (zu fun v w' => ∃ (G' : qk), GLe G G' ∧ tup [] = v ∧ St c G' w' ((.box b0 235 (jL.at_ r)) :: σ)) := by
 unfold auto_work_begin at b
 refine qG Tryz.func184 rfl rfl rfl (wp_seq (qc (qb (qa (pt b0) rfl) (qb (qM rfl) (qb (qh fo235_0 rfl) (qb (qh fo26_1 rfl) ?_))))))
 refine qy (z := 5) H (i := 0) rfl (Lens.then zS jF) ty3 rfl rfl ((qz .i64).toV _ _) ?_
 intro w4 H3
 refine qd (qe (wp_seq (qc (qb (qa (pt b0) rfl) (qb (qM rfl) (qb (qh fo235_1 rfl) ?_))))))
 refine ql H3 (i := 0) rfl lTauto_work_L ty44 rfl ?_
 intro v5 hv6
 obtain ⟨A7, c8, rfl, hs9⟩ := qN hv6
 obtain ⟨r10, hr11, b⟩ := qu b
 refine qo (vs := [(.slice A7 x2.L.length c8), (.int .i64 10)]) en126 rfl (yl k hs9 H3 hr11) ?_
 rintro v16 w15 ⟨G12, hG13, rfl, H14⟩
 refine qd (qe ?_)
 rcases qm r10 with hb17 | hb17
 ·replace b := ifT b hb17
  refine qs (vb hb17) (qc (qb (qa (pt b0) rfl) (qb (qM rfl) (qb (qh fo235_0 rfl) (qb (qh fo26_1 rfl) ?_)))))
  refine qy (z := 2) H14 (i := 0) rfl (Lens.then zS jF) ty3 rfl rfl ((qz .i64).toV _ _) ?_
  intro w19 H18
  refine qd ?_
  have b := yq b
  subst b
  exact end_mk rfl RV.nil ⟨_, hG13, rfl, H18⟩
 replace b := ifF b hb17
 refine qn (vb hb17) (wp_skip ?_)
 have b := yq b
 subst b
 exact end_mk rfl RV.nil ⟨_, hG13, rfl, H14⟩

theorem auto_work_nought_ok {c : World} (k : Hc c) {G : qk} {w : World} {σ : List Ent} {b0 : Nat} {x2 : Tauto_work}  (H : St c G w ((.box b0 235 (jL.at_ x2)) :: σ)) {r : Tauto_work} (b : auto_work_nought x2 = some r) :
  Calls Tryz.prog 185 ([(pt b0)] : List Value).toArray w (zu fun v w' => ∃ (G' : qk), GLe G G' ∧ tup [] = v ∧ St c G' w' ((.box b0 235 (jL.at_ r)) :: σ)) := by
 unfold auto_work_nought at b
 refine qG Tryz.func185 rfl rfl rfl (qc ?_)
 iterate 2 refine qb (qa (pt b0) rfl) ?_
 refine qb (qM rfl) (qb (qh fo235_0 rfl) (qb (qh fo26_1 rfl) ?_))
 refine qy (z := 0) H (i := 0) rfl (Lens.then zS jF) ty3 rfl rfl ((qz .i64).toV _ _) ?_
 intro w4 H3
 refine qb (qM rfl) (qb (qh fo235_0 rfl) (qb (qh fo26_2 rfl) ?_))
 refine qy (z := 3) H3 (i := 0) rfl (Lens.then zS zM) ty3 rfl rfl ((qz .i64).toV _ _) ?_
 intro w6 H5
 refine qd ?_
 have b := yq b
 subst b
 exact end_mk rfl RV.nil ⟨_, GLe.refl _, rfl, H5⟩

theorem auto_work_send_ok {c : World} (k : Hc c) {G : qk} {w : World} {σ : List Ent} {b0 : Nat} {x2 : Tauto_work}  (H : St c G w ((.box b0 235 (jL.at_ x2)) :: σ)) {r : Tauto_work} (b : auto_work_send x2 = some r) :
  Calls Tryz.prog 186 ([(pt b0)] : List Value).toArray w (zu fun v w' => ∃ (G' : qk), GLe G G' ∧ tup [] = v ∧ St c G' w' ((.box b0 235 (jL.at_ r)) :: σ)) := by
 unfold auto_work_send at b
 refine qG Tryz.func186 rfl rfl rfl (wp_seq (qc ?_))
 iterate 3 refine qb (qa (pt b0) rfl) ?_
 refine qb (qM rfl) (qb (qh fo235_0 rfl) (qb (qh fo26_1 rfl) (qp H (i := 0) rfl (Lens.then zS jF) (qz .i64) ty3 rfl (qb (qa (.int .i64 (IntKind.i64.wrap (x2.Auto.Count - 1))) rfl) (qb (rn_max rfl rfl) (qb (qM rfl) (qb (qh fo235_0 rfl) (qb (qh fo26_1 rfl) ?_))))))))
 refine qy (z := (if (IntKind.i64.wrap (x2.Auto.Count - 1)) < 0 then 0 else (IntKind.i64.wrap (x2.Auto.Count - 1)))) H (i := 0) rfl (Lens.then zS jF) ty3 rfl rfl ((qz .i64).toV _ _) ?_
 intro w4 H3
 refine qb (qM rfl) (qb (qh fo235_0 rfl) (qb (qh fo26_2 rfl) ?_))
 refine qy (z := 3) H3 (i := 0) rfl (Lens.then zS zM) ty3 rfl rfl ((qz .i64).toV _ _) ?_
 intro w6 H5
 refine qd (qe (qc (qb (qa (pt b0) rfl) (qb (qM rfl) (qb (qh fo235_0 rfl) (qb (qh fo26_3 rfl) (qp H5 (i := 0) rfl (Lens.then zS zT) (qz .u8) ty5 rfl (qb (qa (.int .u8 (IntKind.u8.wrap (x2.Auto.Id + 1))) rfl) (qb (qM rfl) (qb (qh fo235_0 rfl) ?_))))))))))
 refine qb (qh fo26_3 rfl) ?_
 refine qy (z := (IntKind.u8.wrap (x2.Auto.Id + 1))) H5 (i := 0) rfl (Lens.then zS zT) ty5 rfl rfl ((qz .u8).toV _ _) ?_
 intro w8 H7
 refine qd ?_
 have b := yq b
 subst b
 exact end_mk rfl RV.nil ⟨_, GLe.refl _, rfl, H7⟩

theorem fsm_Timed_ok {c : World} (k : Hc c) {G : qk} {w : World} {σ : List Ent} {a0 : Int}  (H : St c G w (σ)) {r : Bool} (b : fsm_Timed a0 = some r) :
  Calls Tryz.prog 180 ([(.int .i64 a0)] : List Value).toArray w (zu fun v w' => ∃ (G' : qk), GLe G G' ∧ tup [(.bool r)] = v ∧ St c G' w' (σ)) := by
 unfold fsm_Timed at b
 refine qG Tryz.func180 rfl rfl rfl (wp_seq (qc (qb (qa (.bool false) rfl) (qd (qe (wp_seq (qc (qb (qa (.int .i64 a0) rfl) ?_))))))))
 iterate 2 refine qb (qa (.bool (decide (a0 ≥ 4))) rfl) ?_
 rcases qm (decide (a0 ≥ 4)) with hb1 | hb1
 ·replace b := ifT b hb1
  refine qj rfl rfl rfl (vb hb1) (qb (qa (.int .i64 a0) rfl) (qj rfl rfl rfl (vb hb1) (qb (qa (.bool (decide (a0 ≤ 8))) rfl) (qb (qB (.bool (decide (a0 ≤ 8))) (vb hb1) rfl) (qb (qa (.bool (decide (a0 ≤ 8))) rfl) (qd (qe (wp_ret ?_))))))))
  have b := yq b
  subst b
  exact qt rfl (RV.tmp rfl RV.nil) ⟨_, GLe.refl _, rfl, H⟩
 replace b := ifF b hb1
 iterate 2 refine qJ rfl rfl rfl (vb hb1) ?_
 refine qb (qr (.bool false) (vb hb1) rfl) (qb (qa (.bool false) rfl) (qd (qe (wp_ret ?_))))
 have b := yq b
 subst b
 exact qt rfl (RV.tmp rfl RV.nil) ⟨_, GLe.refl _, rfl, H⟩

theorem auto_Do_ok {c : World} (k : Hc c) {G : qk} {w : World} {σ : List Ent} {a0 : TAuto} {v0_ : Value} {a1 : Int} (h0_ : za.V G v0_ a0) (H : St c G w (σ)) {r : (TAuto × (List Int) × Int)} (b : auto_Do a0 a1 = some r) :
  Calls Tryz.prog 135 ([v0_, (.int .i64 a1)] : List Value).toArray w (zu fun v w' => ∃ (G' : qk) (v1' : Value) (A2' : Option Addr) (c3' : Nat), GLe G G' ∧ tup [v1', (.slice A2' r.2.1.length c3'), (.int .i64 r.2.2)] = v ∧ St c G' w' (σ) ∧ za.V G' v1' r.1 ∧ SlR kI G' A2' c3' r.2.1) := by
 unfold auto_Do at b
 refine qG Tryz.func135 rfl rfl rfl (wp_seq (qc ?_))
 refine zp (K := za) (x := a0) H rfl h0_ ?_
 intro b1 w4 H2
 refine qP H2 zr26 ?_
 intro b5 w8 H6
 refine qb (qa (.slice none 0 0) rfl) (qb (qa (.int .i64 0) rfl) (qd (qe (wp_seq (qc (qb (qh fo26_0 rfl) (qp H6 (i := 1) rfl zZ (qz .i64) ty3 rfl (qb (qa (.int .i64 a1) rfl) ?_))))))))
 obtain ⟨r9, hr10, b⟩ := qu b
 refine qo (vs := [(.int .i64 a0.State), (.int .i64 a1)]) en183 rfl (fsm_Next_ok k H6 hr10) ?_
 rintro v15 w14 ⟨G11, A16, c17, hG12, rfl, H13, hs18⟩
 refine qb (qa (.tuple #[(.slice A16 r9.1.length c17), (.int .i64 r9.2.1), (.bool r9.2.2)]) rfl) (qb (qa (.slice A16 r9.1.length c17) rfl) (qb (qa (.int .i64 r9.2.1) rfl) (qb (qa (.bool r9.2.2) rfl) (qb (qa (.slice A16 r9.1.length c17) rfl) (qb (qa (.int .i64 r9.2.1) rfl) (qb (qa (.bool r9.2.2) rfl) (qd (qe (wp_seq (wp_seq (qc ?_)))))))))))
 refine qb (qa (.bool r9.2.2) rfl) (qb (qa (.bool (!r9.2.2)) rfl) (qd (qe ?_)))
 rcases qm (!r9.2.2) with hb19 | hb19
 ·replace b := ifT b hb19
  refine qs (vb hb19) (wp_seq (qc ?_))
  refine ql H13 (i := 1) rfl (Lens.id za) xA rfl ?_
  intro v20 hv21
  refine qy (z := a0) H13 (i := 0) rfl (Lens.id za) xA rfl rfl hv21 ?_
  intro w23 H22
  refine qb (qa (.slice none 0 0) rfl) (qb (qa (.int .i64 1) rfl) (qd (qe (wp_ret (qI ?_)))))
  obtain ⟨v24, hv25, hl26⟩ := H22.loadv (i := 0) rfl xA
  have b := yq b
  subst b
  exact qt rfl (RV.cell rfl hl26 (RV.tmp rfl (RV.tmp rfl RV.nil))) ⟨_, v24, none, 0, hG12, rfl, (St.pk [] 2 H22 rfl (by decide)), hv25, (SlR.nil _ _)⟩
 replace b := ifF b hb19
 refine qn (vb hb19) (wp_skip (qe (wp_seq (qc ?_))))
 refine ql H13 (i := 1) rfl (Lens.id za) xA rfl ?_
 intro v27 hv28
 refine qb (qa (.slice A16 r9.1.length c17) rfl) ?_
 refine qR (qT (G := G11) zr235 rfl bs235 rfl (Parts.cons fo235_0 zS hv28 (Parts.cons fo235_1 lTauto_work_L (zw hs18) (Parts.nil _)))) ?_
 intro v29 hv30
 refine zp (K := jL) (x := (Tauto_work.mk a0 r9.1)) H13 rfl hv30 ?_
 intro b31 w34 H32
 refine qb (qa (pt b31) rfl) (qd (qe (wp_seq (qc ?_))))
 refine wl_makeMap H32 ?_
 intro r35 w36 H37
 refine qb (qa (pt b31) rfl) (qb (qa (.func (.func 184) #[(pt b31)] #[]) rfl) ?_)
 refine zz (key := (.int .i64 5)) (val := (.func (.func 184) #[(pt b31)] #[])) H37 (i := 0) rfl mt236 un3 rfl rfl rfl (by simp [Go.MapKept.IsKey]) rfl ?_
 intro w39 H40
 have H41 : St c G11 w39 ((.mp r35 [⟨.int .i64 5, (.func (.func 184) #[(pt b31)] #[]), 0⟩] 1) :: (.box b31 235 (jL.at_ (Tauto_work.mk a0 r9.1))) :: (.box b5 26 (za.at_ zTAuto)) :: (.box b1 26 (za.at_ a0)) :: σ) := H40
 refine qb (qa (pt b31) rfl) (qb (qa (.func (.func 185) #[(pt b31)] #[]) rfl) ?_)
 refine zz (key := (.int .i64 6)) (val := (.func (.func 185) #[(pt b31)] #[])) H41 (i := 0) rfl mt236 un3 rfl rfl rfl (by simp [Go.MapKept.IsKey]) rfl ?_
 intro w42 H43
 have H44 : St c G11 w42 ((.mp r35 [⟨.int .i64 5, (.func (.func 184) #[(pt b31)] #[]), 0⟩, ⟨.int .i64 6, (.func (.func 185) #[(pt b31)] #[]), 1⟩] 2) :: (.box b31 235 (jL.at_ (Tauto_work.mk a0 r9.1))) :: (.box b5 26 (za.at_ zTAuto)) :: (.box b1 26 (za.at_ a0)) :: σ) := H43
 refine qb (qa (pt b31) rfl) (qb (qa (.func (.func 186) #[(pt b31)] #[]) rfl) ?_)
 refine zz (key := (.int .i64 7)) (val := (.func (.func 186) #[(pt b31)] #[])) H44 (i := 0) rfl mt236 un3 rfl rfl rfl (by simp [Go.MapKept.IsKey]) rfl ?_
 intro w45 H46
 have H47 : St c G11 w45 ((.mp r35 [⟨.int .i64 5, (.func (.func 184) #[(pt b31)] #[]), 0⟩, ⟨.int .i64 6, (.func (.func 185) #[(pt b31)] #[]), 1⟩, ⟨.int .i64 7, (.func (.func 186) #[(pt b31)] #[]), 2⟩] 3) :: (.box b31 235 (jL.at_ (Tauto_work.mk a0 r9.1))) :: (.box b5 26 (za.at_ zTAuto)) :: (.box b1 26 (za.at_ a0)) :: σ) := H46
 refine qb (qa (pt b31) rfl) (qb (qa (.func (.func 186) #[(pt b31)] #[]) rfl) ?_)
 refine zz (key := (.int .i64 10)) (val := (.func (.func 186) #[(pt b31)] #[])) H47 (i := 0) rfl mt236 un3 rfl rfl rfl (by simp [Go.MapKept.IsKey]) rfl ?_
 intro w48 H49
 have H50 : St c G11 w48 ((.mp r35 [⟨.int .i64 5, (.func (.func 184) #[(pt b31)] #[]), 0⟩, ⟨.int .i64 6, (.func (.func 185) #[(pt b31)] #[]), 1⟩, ⟨.int .i64 7, (.func (.func 186) #[(pt b31)] #[]), 2⟩, ⟨.int .i64 10, (.func (.func 186) #[(pt b31)] #[]), 3⟩] 4) :: (.box b31 235 (jL.at_ (Tauto_work.mk a0 r9.1))) :: (.box b5 26 (za.at_ zTAuto)) :: (.box b1 26 (za.at_ a0)) :: σ) := H49
 iterate 2 refine qb (qa (.map (some r35)) rfl) ?_
 refine qd (qe (wp_seq (wp_seq (qc (qb (qa (.slice A16 r9.1.length c17) rfl) (qb (zb xX rfl) (qb (qa (.int .i64 0) rfl) (qd (qe (wp_block ?_))))))))))
 refine ja (fun (s : (Int × Tauto_work)) a w => ∃ (T0 : Fr) (G1 : qk), a = mk 74 (qQ T0 [(4, (pt b5)), (7, (.slice A16 r9.1.length c17)), (8, (.int .i64 r9.2.1)), (10, (pt b31)), (11, (.map (some r35))), (41, (.slice A16 r9.1.length c17)), (42, (.int .i64 (r9.1.length : Int))), (43, (.int .i64 s.1))]) ∧ GLe G11 G1 ∧ St c G1 w ((.mp r35 [⟨.int .i64 5, (.func (.func 184) #[(pt b31)] #[]), 0⟩, ⟨.int .i64 6, (.func (.func 185) #[(pt b31)] #[]), 1⟩, ⟨.int .i64 7, (.func (.func 186) #[(pt b31)] #[]), 2⟩, ⟨.int .i64 10, (.func (.func 186) #[(pt b31)] #[]), 3⟩] 4) :: (.box b31 235 (jL.at_ s.2)) :: (.box b5 26 (za.at_ zTAuto)) :: σ)) b ?_ ?_
 ·exact ⟨_, _, qf _ ⟨rfl, rfl, rfl, rfl, rfl, rfl, rfl, rfl, yp⟩, GLe.refl _, (St.pk [0, 1, 2] 4 H50 rfl (by decide))⟩
 rintro ⟨x192, x193⟩ a w y196 ⟨T0, G197, rfl, hG194, H195⟩ b hy51
 refine wp_seq (qc (qb (qa (.bool (decide (x192 < (r9.1.length : Int)))) rfl) (qd (qe (wp_seq ?_)))))
 rcases qm (decide (x192 < (r9.1.length : Int))) with hb198 | hb198
 ·replace b := ifT b hb198
  refine qs (vb hb198) (wp_skip (qe ?_))
  refine wp_seq (join (fun a w => ∃ (T0 G1 : _) (x239 : Tauto_work), a = mk 74 (qQ T0 [(4, (pt b5)), (7, (.slice A16 r9.1.length c17)), (8, (.int .i64 r9.2.1)), (10, (pt b31)), (11, (.map (some r35))), (41, (.slice A16 r9.1.length c17)), (42, (.int .i64 (r9.1.length : Int))), (43, (.int .i64 x192))]) ∧ GLe G197 G1 ∧ St c G1 w ((.mp r35 [⟨.int .i64 5, (.func (.func 184) #[(pt b31)] #[]), 0⟩, ⟨.int .i64 6, (.func (.func 185) #[(pt b31)] #[]), 1⟩, ⟨.int .i64 7, (.func (.func 186) #[(pt b31)] #[]), 2⟩, ⟨.int .i64 10, (.func (.func 186) #[(pt b31)] #[]), 3⟩] 4) :: (.box b31 235 (jL.at_ x239)) :: (.box b5 26 (za.at_ zTAuto)) :: σ) ∧ auto_Do_j2 x192 x239 = some y196) ?_ ?_)
  ·rintro a w ⟨T0, G242, x239, rfl, hG240, H241, b⟩
   refine qc ?_
   iterate 2 refine qb (qa (.int .i64 (IntKind.i64.wrap (x192 + 1))) rfl) ?_
   refine qd (qe ?_)
   exact ⟨_, (yq b).symm, _, _, qf _ ⟨rfl, rfl, rfl, rfl, rfl, rfl, rfl, rfl, yp⟩, (hG194.trans hG240), H241⟩
  refine wp_block (wp_seq (qc ?_))
  obtain ⟨x243, hx244, b⟩ := qu b
  refine qR (qY (hs18.mono hG194) xX ty3 rfl rfl hx244) ?_
  intro a245 hp246
  refine zd H195 hp246 (qz .i64) ty3 rfl ?_
  refine qb (qa (.int .i64 x243) rfl) (qd (qe (wp_seq (qc (qb (qa (.map (some r35)) rfl) (qb (qa (.int .i64 x243) rfl) ?_))))))
  rcases qm (x243 == 5) with hb251 | hb251
  ·replace b := ifT b hb251
   refine jA (key := (.int .i64 x243)) (val := (.func (.func 184) #[(pt b31)] #[])) (ok := true) H195 (i := 0) rfl mt236 un3 rfl rfl (by simp [Go.MapKept.IsKey]) ⟨_, (fnd_yes hb251), .inl ⟨_, rfl, rfl⟩⟩ ?_
   refine qb (qa (.tuple #[(.func (.func 184) #[(pt b31)] #[]), (.bool true)]) rfl) (qb (qa (.func (.func 184) #[(pt b31)] #[]) rfl) (qb (qa (.bool true) rfl) (qb (qa (.func (.func 184) #[(pt b31)] #[]) rfl) (qb (qa (.bool true) rfl) (qd (qe (wp_seq (qc (qb (qa (.bool true) rfl) (qd (qe (qs rfl (qc ?_)))))))))))))
   refine qb (qa (.func (.func 184) #[(pt b31)] #[]) rfl) ?_
   obtain ⟨r252, hr253, b⟩ := qu b
   refine jT (first := [(pt b31)]) (captured := []) (vs := [(pt b31)]) en184 rfl rfl (auto_work_begin_ok k (St.pk [1, 0, 2] 3 H195 rfl (by decide)) hr253) ?_
   rintro v258 w257 ⟨G254, hG255, rfl, H256⟩
   refine qd (zn (qe ?_))
   exact ⟨_, _, r252, qf _ ⟨rfl, rfl, rfl, rfl, rfl, rfl, rfl, rfl, yp⟩, hG255, (St.pk [1, 0, 2] 3 H256 rfl (by decide)), b⟩
  replace b := ifF b hb251
  rcases qm (x243 == 6) with hb259 | hb259
  ·replace b := ifT b hb259
   refine jA (key := (.int .i64 x243)) (val := (.func (.func 185) #[(pt b31)] #[])) (ok := true) H195 (i := 0) rfl mt236 un3 rfl rfl (by simp [Go.MapKept.IsKey]) ⟨_, (zx hb251 (fnd_yes hb259)), .inl ⟨_, rfl, rfl⟩⟩ ?_
   refine qb (qa (.tuple #[(.func (.func 185) #[(pt b31)] #[]), (.bool true)]) rfl) (qb (qa (.func (.func 185) #[(pt b31)] #[]) rfl) (qb (qa (.bool true) rfl) (qb (qa (.func (.func 185) #[(pt b31)] #[]) rfl) (qb (qa (.bool true) rfl) (qd (qe (wp_seq (qc (qb (qa (.bool true) rfl) (qd (qe (qs rfl (qc ?_)))))))))))))
   refine qb (qa (.func (.func 185) #[(pt b31)] #[]) rfl) ?_
   obtain ⟨r260, hr261, b⟩ := qu b
   refine jT (first := [(pt b31)]) (captured := []) (vs := [(pt b31)]) en185 rfl rfl (auto_work_nought_ok k (St.pk [1, 0, 2] 3 H195 rfl (by decide)) hr261) ?_
   rintro v266 w265 ⟨G262, hG263, rfl, H264⟩
   refine qd (zn (qe ?_))
   exact ⟨_, _, r260, qf _ ⟨rfl, rfl, rfl, rfl, rfl, rfl, rfl, rfl, yp⟩, hG263, (St.pk [1, 0, 2] 3 H264 rfl (by decide)), b⟩
  replace b := ifF b hb259
  rcases qm (x243 == 7) with hb267 | hb267
  ·replace b := ifT b hb267
   refine jA (key := (.int .i64 x243)) (val := (.func (.func 186) #[(pt b31)] #[])) (ok := true) H195 (i := 0) rfl mt236 un3 rfl rfl (by simp [Go.MapKept.IsKey]) ⟨_, (zx hb251 (zx hb259 (fnd_yes hb267))), .inl ⟨_, rfl, rfl⟩⟩ ?_
   refine qb (qa (.tuple #[(.func (.func 186) #[(pt b31)] #[]), (.bool true)]) rfl) (qb (qa (.func (.func 186) #[(pt b31)] #[]) rfl) (qb (qa (.bool true) rfl) (qb (qa (.func (.func 186) #[(pt b31)] #[]) rfl) (qb (qa (.bool true) rfl) (qd (qe (wp_seq (qc (qb (qa (.bool true) rfl) (qd (qe (qs rfl (qc ?_)))))))))))))
   refine qb (qa (.func (.func 186) #[(pt b31)] #[]) rfl) ?_
   obtain ⟨r268, hr269, b⟩ := qu b
   refine jT (first := [(pt b31)]) (captured := []) (vs := [(pt b31)]) en186 rfl rfl (auto_work_send_ok k (St.pk [1, 0, 2] 3 H195 rfl (by decide)) hr269) ?_
   rintro v274 w273 ⟨G270, hG271, rfl, H272⟩
   refine qd (zn (qe ?_))
   exact ⟨_, _, r268, qf _ ⟨rfl, rfl, rfl, rfl, rfl, rfl, rfl, rfl, yp⟩, hG271, (St.pk [1, 0, 2] 3 H272 rfl (by decide)), b⟩
  replace b := ifF b hb267
  rcases qm (x243 == 10) with hb275 | hb275
  ·replace b := ifT b hb275
   refine jA (key := (.int .i64 x243)) (val := (.func (.func 186) #[(pt b31)] #[])) (ok := true) H195 (i := 0) rfl mt236 un3 rfl rfl (by simp [Go.MapKept.IsKey]) ⟨_, (zx hb251 (zx hb259 (zx hb267 (fnd_yes hb275)))), .inl ⟨_, rfl, rfl⟩⟩ ?_
   refine qb (qa (.tuple #[(.func (.func 186) #[(pt b31)] #[]), (.bool true)]) rfl) (qb (qa (.func (.func 186) #[(pt b31)] #[]) rfl) (qb (qa (.bool true) rfl) (qb (qa (.func (.func 186) #[(pt b31)] #[]) rfl) (qb (qa (.bool true) rfl) (qd (qe (wp_seq (qc (qb (qa (.bool true) rfl) (qd (qe (qs rfl (qc ?_)))))))))))))
   refine qb (qa (.func (.func 186) #[(pt b31)] #[]) rfl) ?_
   obtain ⟨r276, hr277, b⟩ := qu b
   refine jT (first := [(pt b31)]) (captured := []) (vs := [(pt b31)]) en186 rfl rfl (auto_work_send_ok k (St.pk [1, 0, 2] 3 H195 rfl (by decide)) hr277) ?_
   rintro v282 w281 ⟨G278, hG279, rfl, H280⟩
   refine qd (zn (qe ?_))
   exact ⟨_, _, r276, qf _ ⟨rfl, rfl, rfl, rfl, rfl, rfl, rfl, rfl, yp⟩, hG279, (St.pk [1, 0, 2] 3 H280 rfl (by decide)), b⟩
  replace b := ifF b hb275
  refine jA (key := (.int .i64 x243)) (val := (.nilFunc)) (ok := false) H195 (i := 0) rfl mt236 un3 rfl rfl (by simp [Go.MapKept.IsKey]) ⟨_, (zx hb251 (zx hb259 (zx hb267 (zx hb275 rfl)))), .inr ⟨rfl, rfl, mz1⟩⟩ ?_
  refine qb (qa (.tuple #[(.nilFunc), (.bool false)]) rfl) (qb (qa (.nilFunc) rfl) (qb (qa (.bool false) rfl) (qb (qa (.nilFunc) rfl) (qb (qa (.bool false) rfl) (qd (qe (wp_seq (qc (qb (qa (.bool false) rfl) (qd (qe (qn rfl (wp_skip ?_)))))))))))))
  refine zn (qe ?_)
  exact ⟨_, _, x193, qf _ ⟨rfl, rfl, rfl, rfl, rfl, rfl, rfl, rfl, yp⟩, GLe.refl _, H195, b⟩
 replace b := ifF b hb198
 refine qn (vb hb198) ?_
 refine wp_exit ?_
 iterate 2 refine xB ?_
 replace b := jJ b hy51
 refine blk_e ?_
 refine qe (wp_seq (qc (qb (qa (pt b31) rfl) (qb (qa (.int .i64 r9.2.1) rfl) (qb (qM rfl) (qb (qh fo235_0 rfl) (qb (qh fo26_0 rfl) ?_)))))))
 refine qy (z := r9.2.1) H195 (i := 1) rfl (Lens.then zS zZ) ty3 rfl rfl ((qz .i64).toV _ _) ?_
 intro w284 H283
 refine qd (qe (wp_seq (wp_seq (qc (qb (qa (.int .i64 r9.2.1) rfl) ?_)))))
 obtain ⟨r285, hr286, b⟩ := qu b
 refine qo (vs := [(.int .i64 r9.2.1)]) en180 rfl (fsm_Timed_ok k H283 hr286) ?_
 rintro v291 w290 ⟨G287, hG288, rfl, H289⟩
 refine qb (qa (.bool (!r285)) rfl) (qd (qe ?_))
 rcases qm (!r285) with hb292 | hb292
 ·replace b := ifT b hb292
  refine qs (vb hb292) (qc (qb (qa (pt b31) rfl) (qb (qM rfl) (qb (qh fo235_0 rfl) (qb (qh fo26_2 rfl) ?_)))))
  refine qy (z := 0) H289 (i := 1) rfl (Lens.then zS zM) ty3 rfl rfl ((qz .i64).toV _ _) ?_
  intro w294 H293
  refine qd (qe (wp_seq (qc (qb (qa (pt b31) rfl) (qb (qM rfl) (qb (qh fo235_0 rfl) ?_))))))
  refine ql H293 (i := 1) rfl zS xA rfl ?_
  intro v295 hv296
  refine qb (qa (.slice A16 r9.1.length c17) rfl) ?_
  refine qy (z := (TAuto.mk r9.2.1 x193.Auto.Count 0 x193.Auto.Id)) H293 (i := 2) rfl (Lens.id za) xA rfl rfl hv296 ?_
  intro w298 H297
  refine qb (qa (.slice A16 r9.1.length c17) rfl) (qb (qa (.int .i64 0) rfl) (qd (qe (wp_ret ?_))))
  obtain ⟨v299, hv300, hl301⟩ := H297.loadv (i := 2) rfl xA
  have b := yq b
  subst b
  exact qt rfl (RV.cell rfl hl301 (RV.tmp rfl (RV.tmp rfl RV.nil))) ⟨_, v299, A16, c17, ((hG12.trans hG194).trans hG288), rfl, (St.pk [] 3 H297 rfl (by decide)), hv300, (hs18.mono (hG194.trans hG288))⟩
 replace b := ifF b hb292
 refine qn (vb hb292) (wp_skip (qe (wp_seq (qc (qb (qa (pt b31) rfl) (qb (qM rfl) (qb (qh fo235_0 rfl) ?_)))))))
 refine ql H289 (i := 1) rfl zS xA rfl ?_
 intro v302 hv303
 refine qb (qa (.slice A16 r9.1.length c17) rfl) ?_
 refine qy (z := (TAuto.mk r9.2.1 x193.Auto.Count x193.Auto.Left x193.Auto.Id)) H289 (i := 2) rfl (Lens.id za) xA rfl rfl hv303 ?_
 intro w305 H304
 refine qb (qa (.slice A16 r9.1.length c17) rfl) (qb (qa (.int .i64 0) rfl) (qd (qe (wp_ret ?_))))
 obtain ⟨v306, hv307, hl308⟩ := H304.loadv (i := 2) rfl xA
 have b := yq b
 subst b
 exact qt rfl (RV.cell rfl hl308 (RV.tmp rfl (RV.tmp rfl RV.nil))) ⟨_, v306, A16, c17, ((hG12.trans hG194).trans hG288), rfl, (St.pk [] 3 H304 rfl (by decide)), hv307, (hs18.mono (hG194.trans hG288))⟩

theorem opts_Bytes_ok {c : World} (k : Hc c) {G : qk} {w : World} {σ : List Ent} {a0 : (List TOpt)} {A0_ : Option Addr} {c0_ : Nat} (h0_ : SlR qx G A0_ c0_ a0) (H : St c G w (σ)) {r : ((List Int) × Int)} (b : opts_Bytes a0 = some r) :
  Calls Tryz.prog 129 ([(.slice A0_ a0.length c0_)] : List Value).toArray w (zu fun v w' => ∃ (G' : qk) (A1' : Option Addr) (c2' : Nat), GLe G G' ∧ tup [(.slice A1' r.1.length c2'), (.int .i64 r.2)] = v ∧ St c G' w' (σ) ∧ SlR kB G' A1' c2' r.1) := by
 unfold opts_Bytes at b
 refine qG Tryz.func129 rfl rfl rfl (wp_seq (qc (qb (qa (.slice none 0 0) rfl) (qb (qa (.int .i64 0) rfl) (qd (qe (wp_seq (qc (qb (qa (.slice none 0 0) rfl) (qd (qe (wp_seq (wp_seq (qc (qb (qa (.slice A0_ a0.length c0_) rfl) ?_)))))))))))))))
 refine qb (zb zQ rfl) (qb (qa (.int .i64 0) rfl) (qd (qe (wp_block ?_))))
 have H398 := H.nilrow kB none 5
 refine ja (fun (s : ((List Int) × Int)) a w => ∃ (T0 : Fr) (G1 : qk) (g107 : Option Nat) (A108 : Option Addr) (c109 : Nat), a = mk 35 (qQ T0 [(4, (.slice A108 s.1.length c109)), (7, (.slice A0_ a0.length c0_)), (8, (.int .i64 (a0.length : Int))), (9, (.int .i64 s.2))]) ∧ GLe G G1 ∧ St c G1 w ((.row kB g107 A108 c109 5 s.1) :: σ)) b ?_ ?_
 ·exact ⟨_, _, none, none, 0, qf _ ⟨rfl, rfl, rfl, rfl, yp⟩, GLe.refl _, H398⟩
 rintro ⟨x106, x111⟩ a w y114 ⟨T0, G115, g107, A108, c109, rfl, hG112, H113⟩ b hy1
 refine wp_seq (qc (qb (qa (.bool (decide (x111 < (a0.length : Int)))) rfl) (qd (qe (wp_seq ?_)))))
 rcases qm (decide (x111 < (a0.length : Int))) with hb116 | hb116
 ·replace b := ifT b hb116
  refine qs (vb hb116) (wp_skip (qe (wp_seq (wp_block (wp_seq (qc ?_))))))
  obtain ⟨x163, hx164, b⟩ := qu b
  refine qR (qY (h0_.mono hG112) zQ zc rfl rfl hx164) ?_
  intro a165 hp166
  refine zH H113 hp166 zc rfl ?_
  intro v167 hv168
  refine qP H113 xv ?_
  intro b169 w172 H170
  refine qy (z := x163) H170 (i := 0) rfl (Lens.id qx) zc rfl rfl hv168 ?_
  intro w174 H173
  refine qd (qe (wp_seq (wp_seq (qc (qb (qh jp rfl) ?_)))))
  refine ql H173 (i := 0) rfl qZ jy rfl ?_
  intro v175 hv176
  obtain ⟨A177, c178, rfl, hs179⟩ := qN hv176
  refine qb (zb zJ rfl) (qb (qa (.bool (decide ((x163.Data.length : Int) > 253))) rfl) (qd (qe ?_)))
  rcases qm (decide ((x163.Data.length : Int) > 253)) with hb180 | hb180
  ·replace b := ifT b hb180
   refine qs (vb hb180) (wp_seq (qc (qb (qa (.slice none 0 0) rfl) (qb (qa (.int .i64 1) rfl) (qd (qe (wp_ret (qI (zg ?_)))))))))
   iterate 2 refine qI ?_
   replace b := jJ b hy1
   refine zg (qI ?_)
   have b := yq b
   subst b
   exact qt rfl (RV.tmp rfl (RV.tmp rfl RV.nil)) ⟨_, none, 0, hG112, rfl, (St.pk [] 2 H173 rfl (by decide)), (SlR.nil _ _)⟩
  replace b := ifF b hb180
  refine qn (vb hb180) (wp_skip (qe ?_))
  refine jP (f := 14) H173 mixed ?_
  intro w181 H182
  refine xW (by repeat (first | exact PF.base | apply PF.then_ | apply PF.blk)) ?_
  intro B E
  obtain ⟨r192, hr193, b⟩ := qu b
  obtain ⟨r204, hr205, b⟩ := qu b
  refine qF (fuel := 2) (m := 4095) (fun a w => ∃ T0 G1 g309 A310 c311 A312 c313, a = mk 35 (qQ T0 [(7, (.slice A0_ a0.length c0_)), (8, (.int .i64 (a0.length : Int))), (9, (.int .i64 x111)), (26, (.slice A310 r192.length c311)), (28, (.slice A312 x163.Data.length c313))]) ∧ GLe G115 G1 ∧ St c G1 w ((.row kB g309 A310 c311 5 r192) :: σ) ∧ SlR kB G1 A312 c313 x163.Data) ?_ ?_
  ·rintro a w ⟨T0, G308, g309, A310, c311, A312, c313, rfl, hG306, H307, hs314⟩
   refine qi [12] ⟨qg (m' := 8191) fun I j => ?_, yp⟩
   refine zB H307 zJ el5 (i := 0) rfl rfl rfl (hs314.src H307.ag) hr205 ?_
   intro g320 A321 c322 w323 H324
   refine qd (j _ _ ?_)
   refine qq (i := 13) (m' := 16383) rfl (qa (.slice A321 r204.length c322) rfl) B E ?_
   refine zA (zn (qe (qc ?_)))
   iterate 2 refine qb (qa (.int .i64 (IntKind.i64.wrap (x111 + 1))) rfl) ?_
   refine qd (qe ?_)
   exact ⟨_, (yq b).symm, _, _, g320, A321, c322, qf _ ⟨rfl, rfl, rfl, rfl, yp⟩, (hG112.trans hG306), H324⟩
  intro hM305
  refine qF (fuel := 3) (m := 3583) (fun a w => ∃ T0 G1 g299 A300 c301 A302 c303, a = mk 35 (qQ T0 [(7, (.slice A0_ a0.length c0_)), (8, (.int .i64 (a0.length : Int))), (9, (.int .i64 x111)), (17, (.slice A108 x106.length c109)), (25, (.slice A300 ([x163.Typ, (IntKind.u8.wrap ((IntKind.i64.wrap ((x163.Data.length : Int) + 2))))] : (List Int)).length c301)), (28, (.slice A302 x163.Data.length c303))]) ∧ GLe G115 G1 ∧ St c G1 w ((.row kB g107 A108 c109 5 x106) :: (.row kB g299 A300 c301 5 ([x163.Typ, (IntKind.u8.wrap ((IntKind.i64.wrap ((x163.Data.length : Int) + 2))))] : (List Int))) :: σ) ∧ SlR kB G1 A302 c303 x163.Data) ?_ ?_
  ·rintro a w ⟨T0, G298, g299, A300, c301, A302, c303, rfl, hG296, H297, hs304⟩
   refine qi [9] ⟨qg (m' := 4095) fun I j => ?_, yp⟩
   refine zB H297 zJ el5 (i := 0) rfl rfl rfl ((H297.okAt (i := 1) rfl).src) hr193 ?_
   intro g325 A326 c327 w328 H329
   refine qd (j _ _ ?_)
   exact hM305 _ _ ⟨_, _, g325, A326, c327, A302, c303, qf _ ⟨rfl, rfl, rfl, rfl, rfl, yp⟩, hG296, (St.pk [0] 2 H329 rfl (by decide)), hs304⟩
  intro hM295
  refine qF (fuel := 4) (m := 3327) (fun a w => ∃ T0 G1 A287 c288, a = mk 35 (qQ T0 [(7, (.slice A0_ a0.length c0_)), (8, (.int .i64 (a0.length : Int))), (9, (.int .i64 x111)), (17, (.slice A108 x106.length c109)), (19, (.int .u8 x163.Typ)), (24, (.int .u8 (IntKind.u8.wrap ((IntKind.i64.wrap ((x163.Data.length : Int) + 2)))))), (28, (.slice A287 x163.Data.length c288))]) ∧ GLe G115 G1 ∧ St c G1 w ((.row kB g107 A108 c109 5 x106) :: σ) ∧ SlR kB G1 A287 c288 x163.Data) ?_ ?_
  ·rintro a w ⟨T0, G286, A287, c288, rfl, hG284, H285, hs289⟩
   refine qi [8] ⟨qg (m' := 3583) fun I j => ?_, yp⟩
   refine zh (K := kB) (vs := [(.int .u8 x163.Typ), (.int .u8 (IntKind.u8.wrap ((IntKind.i64.wrap ((x163.Data.length : Int) + 2)))))]) (xs := ([x163.Typ, (IntKind.u8.wrap ((IntKind.i64.wrap ((x163.Data.length : Int) + 2))))] : (List Int))) H285 zJ el5 rfl ⟨((qz .u8).toV _ _), ((qz .u8).toV _ _), yp⟩ rfl (by decide) ?_
   intro g330 w332 H331
   refine qd (j _ _ ?_)
   exact hM295 _ _ ⟨_, _, (some g330), (some ⟨g330, 0, none⟩), 2, A287, c288, qf _ ⟨rfl, rfl, rfl, rfl, rfl, rfl, yp⟩, hG284, (St.pk [1, 0] 2 H331 rfl (by decide)), hs289⟩
  intro hM283
  refine qF (fuel := 5) (m := 3323) (fun a w => ∃ T0 G1 A270 c271, a = mk 35 (qQ T0 [(7, (.slice A0_ a0.length c0_)), (8, (.int .i64 (a0.length : Int))), (9, (.int .i64 x111)), (17, (.slice A108 x106.length c109)), (18, (pt b169)), (24, (.int .u8 (IntKind.u8.wrap ((IntKind.i64.wrap ((x163.Data.length : Int) + 2)))))), (28, (.slice A270 x163.Data.length c271))]) ∧ GLe G115 G1 ∧ St c G1 w ((.row kB g107 A108 c109 5 x106) :: (.box b169 133 (qx.at_ x163)) :: σ) ∧ SlR kB G1 A270 c271 x163.Data) ?_ ?_
  ·rintro a w ⟨T0, G269, A270, c271, rfl, hG267, H268, hs272⟩
   refine qi [2] ⟨qg (m' := 3327) fun I j => ?_, yp⟩
   refine qp H268 (i := 1) rfl qX (qz .u8) ty5 rfl (qd (j _ _ ?_))
   exact hM283 _ _ ⟨_, _, A270, c271, qf _ ⟨rfl, rfl, rfl, rfl, rfl, rfl, rfl, yp⟩, hG267, (St.pk [0] 2 H268 rfl (by decide)), hs272⟩
  intro hM266
  refine qF (fuel := 5) (m := 1279) (fun a w => ∃ T0 G1, a = mk 35 (qQ T0 [(7, (.slice A0_ a0.length c0_)), (8, (.int .i64 (a0.length : Int))), (9, (.int .i64 x111)), (17, (.slice A108 x106.length c109)), (19, (.int .u8 x163.Typ)), (24, (.int .u8 (IntKind.u8.wrap ((IntKind.i64.wrap ((x163.Data.length : Int) + 2)))))), (27, (pu b169 1))]) ∧ GLe G115 G1 ∧ St c G1 w ((.row kB g107 A108 c109 5 x106) :: (.box b169 133 (qx.at_ x163)) :: σ)) ?_ ?_
  ·rintro a w ⟨T0, G256, rfl, hG254, H255⟩
   refine qi [8, 11] ⟨?_, ?_, yp⟩
   ·refine qg (m' := 1535) fun I j => ?_
    refine zh (K := kB) (vs := [(.int .u8 x163.Typ), (.int .u8 (IntKind.u8.wrap ((IntKind.i64.wrap ((x163.Data.length : Int) + 2)))))]) (xs := ([x163.Typ, (IntKind.u8.wrap ((IntKind.i64.wrap ((x163.Data.length : Int) + 2))))] : (List Int))) H255 zJ el5 rfl ⟨((qz .u8).toV _ _), ((qz .u8).toV _ _), yp⟩ rfl (by decide) ?_
    intro g334 w336 H335
    refine qd (j _ _ ?_)
    refine qi [9, 11] ⟨?_, ?_, yp⟩
    ·refine qg (m' := 2047) fun I j => ?_
     refine zB H335 zJ el5 (i := 1) rfl rfl rfl ((H335.okAt (i := 0) rfl).src) hr193 ?_
     intro g338 A339 c340 w341 H342
     refine qd (j _ _ ?_)
     refine qi [11] ⟨qg (m' := 4095) fun I j => ?_, yp⟩
     refine ql H342 (i := 2) rfl qZ jy rfl ?_
     intro v343 hv344
     obtain ⟨A345, c346, rfl, hs347⟩ := qN hv344
     refine qd (j _ _ ?_)
     exact hM305 _ _ ⟨_, _, g338, A339, c340, A345, c346, qf _ ⟨rfl, rfl, rfl, rfl, rfl, yp⟩, hG254, (St.pk [1] 3 H342 rfl (by decide)), hs347⟩
    refine qg (m' := 3583) fun I j => ?_
    refine ql H335 (i := 2) rfl qZ jy rfl ?_
    intro v348 hv349
    obtain ⟨A350, c351, rfl, hs352⟩ := qN hv349
    refine qd (j _ _ ?_)
    exact hM295 _ _ ⟨_, _, (some g334), (some ⟨g334, 0, none⟩), 2, A350, c351, qf _ ⟨rfl, rfl, rfl, rfl, rfl, rfl, yp⟩, hG254, (St.pk [1, 0] 3 H335 rfl (by decide)), hs352⟩
   refine qg (m' := 3327) fun I j => ?_
   refine ql H255 (i := 1) rfl qZ jy rfl ?_
   intro v353 hv354
   obtain ⟨A355, c356, rfl, hs357⟩ := qN hv354
   refine qd (j _ _ ?_)
   exact hM283 _ _ ⟨_, _, A355, c356, qf _ ⟨rfl, rfl, rfl, rfl, rfl, rfl, rfl, yp⟩, hG254, (St.pk [0] 2 H255 rfl (by decide)), hs357⟩
  intro hM253
  refine qF (fuel := 8) (m := 3087) (fun a w => ∃ T0 G1 A240 c241, a = mk 35 (qQ T0 [(7, (.slice A0_ a0.length c0_)), (8, (.int .i64 (a0.length : Int))), (9, (.int .i64 x111)), (17, (.slice A108 x106.length c109)), (19, (.int .u8 x163.Typ)), (20, (pu b169 1)), (28, (.slice A240 x163.Data.length c241))]) ∧ GLe G115 G1 ∧ St c G1 w ((.row kB g107 A108 c109 5 x106) :: (.box b169 133 (qx.at_ x163)) :: σ) ∧ SlR kB G1 A240 c241 x163.Data) ?_ ?_
  ·rintro a w ⟨T0, G239, A240, c241, rfl, hG237, H238, hs242⟩
   refine qi [4] ⟨qg (m' := 3103) fun I j => ?_, yp⟩
   refine ql H238 (i := 1) rfl qZ jy rfl ?_
   intro v358 hv359
   obtain ⟨A360, c361, rfl, hs362⟩ := qN hv359
   refine qd (j _ _ ?_)
   refine qq (i := 5) (m' := 3135) rfl (zb zJ rfl) B E ?_
   refine qq (i := 6) (m' := 3199) rfl (qa (.int .i64 (IntKind.i64.wrap ((x163.Data.length : Int) + 2))) rfl) B E ?_
   refine qq (i := 7) (m' := 3327) rfl (zU un3 un5 rfl) B E ?_
   exact hM283 _ _ ⟨_, _, A240, c241, qf _ ⟨rfl, rfl, rfl, rfl, rfl, rfl, rfl, yp⟩, hG237, (St.pk [0] 2 H238 rfl (by decide)), hs242⟩
  intro hM236
  refine qq (i := 0) (m' := 1) rfl (qa (.slice A108 x106.length c109) rfl) B E ?_
  refine qq (i := 1) (m' := 3) rfl (qh jc rfl) B E ?_
  refine qq (i := 3) (m' := 11) rfl (qh jp rfl) B E ?_
  refine qq (i := 10) (m' := 1035) rfl (qh jp rfl) B E ?_
  refine qi [2, 4, 11] ⟨?_, ?_, ?_, yp⟩
  ·refine qg (m' := 1039) fun I j => ?_
   refine qp H182 (i := 0) rfl qX (qz .u8) ty5 rfl (qd (j _ _ ?_))
   refine qi [4, 11] ⟨?_, ?_, yp⟩
   ·refine qg (m' := 1055) fun I j => ?_
    refine ql H182 (i := 0) rfl qZ jy rfl ?_
    intro v363 hv364
    obtain ⟨A365, c366, rfl, hs367⟩ := qN hv364
    refine qd (j _ _ ?_)
    refine qq (i := 5) (m' := 1087) rfl (zb zJ rfl) B E ?_
    refine qq (i := 6) (m' := 1151) rfl (qa (.int .i64 (IntKind.i64.wrap ((x163.Data.length : Int) + 2))) rfl) B E ?_
    refine qq (i := 7) (m' := 1279) rfl (zU un3 un5 rfl) B E ?_
    exact hM253 _ _ ⟨_, _, qf _ ⟨rfl, rfl, rfl, rfl, rfl, rfl, rfl, yp⟩, GLe.refl _, (St.pk [1, 0] 2 H182 rfl (by decide))⟩
   refine qg (m' := 3087) fun I j => ?_
   refine ql H182 (i := 0) rfl qZ jy rfl ?_
   intro v368 hv369
   obtain ⟨A370, c371, rfl, hs372⟩ := qN hv369
   refine qd (j _ _ ?_)
   exact hM236 _ _ ⟨_, _, A370, c371, qf _ ⟨rfl, rfl, rfl, rfl, rfl, rfl, rfl, yp⟩, GLe.refl _, (St.pk [1, 0] 2 H182 rfl (by decide)), hs372⟩
  ·refine qg (m' := 1051) fun I j => ?_
   refine ql H182 (i := 0) rfl qZ jy rfl ?_
   intro v373 hv374
   obtain ⟨A375, c376, rfl, hs377⟩ := qN hv374
   refine qd (j _ _ ?_)
   refine qq (i := 5) (m' := 1083) rfl (zb zJ rfl) B E ?_
   refine qq (i := 6) (m' := 1147) rfl (qa (.int .i64 (IntKind.i64.wrap ((x163.Data.length : Int) + 2))) rfl) B E ?_
   refine qq (i := 7) (m' := 1275) rfl (zU un3 un5 rfl) B E ?_
   refine qi [2, 11] ⟨?_, ?_, yp⟩
   ·refine qg (m' := 1279) fun I j => ?_
    refine qp H182 (i := 0) rfl qX (qz .u8) ty5 rfl (qd (j _ _ ?_))
    exact hM253 _ _ ⟨_, _, qf _ ⟨rfl, rfl, rfl, rfl, rfl, rfl, rfl, yp⟩, GLe.refl _, (St.pk [1, 0] 2 H182 rfl (by decide))⟩
   refine qg (m' := 3323) fun I j => ?_
   refine ql H182 (i := 0) rfl qZ jy rfl ?_
   intro v378 hv379
   obtain ⟨A380, c381, rfl, hs382⟩ := qN hv379
   refine qd (j _ _ ?_)
   exact hM266 _ _ ⟨_, _, A380, c381, qf _ ⟨rfl, rfl, rfl, rfl, rfl, rfl, rfl, yp⟩, GLe.refl _, (St.pk [1, 0] 2 H182 rfl (by decide)), hs382⟩
  refine qg (m' := 3083) fun I j => ?_
  refine ql H182 (i := 0) rfl qZ jy rfl ?_
  intro v383 hv384
  obtain ⟨A385, c386, rfl, hs387⟩ := qN hv384
  refine qd (j _ _ ?_)
  refine qi [2, 4] ⟨?_, ?_, yp⟩
  ·refine qg (m' := 3087) fun I j => ?_
   refine qp H182 (i := 0) rfl qX (qz .u8) ty5 rfl (qd (j _ _ ?_))
   exact hM236 _ _ ⟨_, _, A385, c386, qf _ ⟨rfl, rfl, rfl, rfl, rfl, rfl, rfl, yp⟩, GLe.refl _, (St.pk [1, 0] 2 H182 rfl (by decide)), hs387⟩
  refine qg (m' := 3099) fun I j => ?_
  refine ql H182 (i := 0) rfl qZ jy rfl ?_
  intro v388 hv389
  obtain ⟨A390, c391, rfl, hs392⟩ := qN hv389
  refine qd (j _ _ ?_)
  refine qq (i := 5) (m' := 3131) rfl (zb zJ rfl) B E ?_
  refine qq (i := 6) (m' := 3195) rfl (qa (.int .i64 (IntKind.i64.wrap ((x163.Data.length : Int) + 2))) rfl) B E ?_
  refine qq (i := 7) (m' := 3323) rfl (zU un3 un5 rfl) B E ?_
  exact hM266 _ _ ⟨_, _, A385, c386, qf _ ⟨rfl, rfl, rfl, rfl, rfl, rfl, rfl, yp⟩, GLe.refl _, (St.pk [1, 0] 2 H182 rfl (by decide)), hs387⟩
 replace b := ifF b hb116
 refine qn (vb hb116) ?_
 refine wp_exit ?_
 iterate 2 refine xB ?_
 replace b := jJ b hy1
 refine blk_e ?_
 refine qe (wp_seq (wp_seq (qc (qb (qa (.slice A108 x106.length c109) rfl) (qb (zb zJ rfl) (qb (qa (.bool (decide ((x106.length : Int) > 1496))) rfl) (qd (qe ?_))))))))
 rcases qm (decide ((x106.length : Int) > 1496)) with hb393 | hb393
 ·replace b := ifT b hb393
  refine qs (vb hb393) (wp_seq (qc (qb (qa (.slice none 0 0) rfl) (qb (qa (.int .i64 1) rfl) (qd (qe (wp_ret (qI ?_))))))))
  have b := yq b
  subst b
  exact qt rfl (RV.tmp rfl (RV.tmp rfl RV.nil)) ⟨_, none, 0, hG112, rfl, (St.pk [] 1 H113 rfl (by decide)), (SlR.nil _ _)⟩
 replace b := ifF b hb393
 refine qn (vb hb393) (wp_skip (qe (wp_seq (qc ?_))))
 iterate 2 refine qb (qa (.slice A108 x106.length c109) rfl) ?_
 refine qb (qa (.int .i64 0) rfl) (qd (qe (wp_ret ?_)))
 obtain ⟨G394, hG395, H396, hs397⟩ := H113.stay (i := 0) rfl (H113.capA (i := 0) rfl)
 have b := yq b
 subst b
 exact qt rfl (RV.tmp rfl (RV.tmp rfl RV.nil)) ⟨_, A108, c109, (hG112.trans hG395), rfl, H396, hs397⟩

theorem nego_work_acts_ok {c : World} (k : Hc c) {G : qk} {w : World} {σ : List Ent} {b0 : Nat} {x2 : TNego} {x3 : (List TPkt)} {x8 : (List Int)} {x13 : TPkt} {g4 : Option Nat} {A5 : Option Addr} {c6 : Nat} {g9 : Option Nat} {A10 : Option Addr} {c11 : Nat} {a1 : Int} {a2 : (List Int)} {A2_ : Option Addr} {c2_ : Nat} {a3 : TPkt} {v3_ : Value} (h2_ : SlR kI G A2_ c2_ a2) (h3_ : qC.V G v3_ a3) (H : St c G w ((.box b0 136 (qA.at_ (Tnego_workV.mk x2 (.slice A5 x3.length c6) (.slice A10 x8.length c11) x13))) :: (.row qC g4 A5 c6 46 x3) :: (.row kI g9 A10 c11 3 x8) :: σ)) {r : (TNego × (List TPkt) × (List Int) × TPkt)} (b : xQ x2 x3 x8 x13 a1 a2 a3 = some r) :
  Calls Tryz.prog 77 ([(pt b0), (.int .i64 a1), (.slice A2_ a2.length c2_), v3_] : List Value).toArray w (zu fun v w' => ∃ (G' : qk) (g1' : Option Nat) (A2' : Option Addr) (c3' : Nat) (g4' : Option Nat) (A5' : Option Addr) (c6' : Nat), GLe G G' ∧ tup [] = v ∧ St c G' w' ((.box b0 136 (qA.at_ (Tnego_workV.mk r.1 (.slice A2' r.2.1.length c3') (.slice A5' r.2.2.1.length c6') r.2.2.2))) :: (.row qC g1' A2' c3' 46 r.2.1) :: (.row kI g4' A5' c6' 3 r.2.2.1) :: σ)) := by
 unfold xQ at b
 refine qG Tryz.func77 rfl rfl rfl (wp_seq (qc ?_))
 refine zp (K := qC) (x := a3) H rfl h3_ ?_
 intro b14 w17 H15
 refine qd (qe ?_)
 refine wp_seq (join (fun a w => ∃ (T0 G1 : _) (x66 : TNego) (x67 : (List TPkt)) (x72 : (List Int)) (x77 : TPkt) (g68 A69 c70 g73 A74 c75 : _), a = mk 141 (qQ T0 [(0, (pt b0)), (2, (.slice A2_ a2.length c2_)), (7, (pt b14))]) ∧ GLe G G1 ∧ St c G1 w ((.box b14 46 (qC.at_ a3)) :: (.box b0 136 (qA.at_ (Tnego_workV.mk x66 (.slice A69 x67.length c70) (.slice A74 x72.length c75) x77))) :: (.row qC g68 A69 c70 46 x67) :: (.row kI g73 A74 c75 3 x72) :: σ) ∧ nego_work_acts_j1 a2 a3 x66 x67 x72 x77 = some r) ?_ ?_)
 ·rintro a w ⟨T0, G80, x66, x67, x72, x77, g68, A69, c70, g73, A74, c75, rfl, hG78, H79, b⟩
  refine wp_seq (qc (qb (qa (.slice A2_ a2.length c2_) rfl) (qb (zb xX rfl) (qb (qa (.int .i64 0) rfl) (qd (qe (wp_block ?_)))))))
  refine ja (fun (s : (Int × TNego × (List TPkt) × (List Int) × TPkt)) a w => ∃ (T0 : Fr) (G1 : qk) (g416 : Option Nat) (A417 : Option Addr) (c418 : Nat) (g421 : Option Nat) (A422 : Option Addr) (c423 : Nat), a = mk 141 (qQ T0 [(0, (pt b0)), (7, (pt b14)), (40, (.slice A2_ a2.length c2_)), (41, (.int .i64 (a2.length : Int))), (42, (.int .i64 s.1))]) ∧ GLe G80 G1 ∧ St c G1 w ((.box b14 46 (qC.at_ a3)) :: (.box b0 136 (qA.at_ (Tnego_workV.mk s.2.1 (.slice A417 s.2.2.1.length c418) (.slice A422 s.2.2.2.1.length c423) s.2.2.2.2))) :: (.row qC g416 A417 c418 46 s.2.2.1) :: (.row kI g421 A422 c423 3 s.2.2.2.1) :: σ)) b ?_ ?_
  ·exact ⟨_, _, g68, A69, c70, g73, A74, c75, qf _ ⟨rfl, rfl, rfl, rfl, rfl, yp⟩, GLe.refl _, H79⟩
  rintro ⟨x413, x414, x415, x420, x425⟩ a w y428 ⟨T0, G429, g416, A417, c418, g421, A422, c423, rfl, hG426, H427⟩ b hy81
  refine wp_seq (qc (qb (qa (.bool (decide (x413 < (a2.length : Int)))) rfl) (qd (qe (wp_seq ?_)))))
  rcases qm (decide (x413 < (a2.length : Int))) with hb430 | hb430
  ·replace b := ifT b hb430
   refine qs (vb hb430) (wp_skip (qe ?_))
   refine wp_seq (join (fun a w => ∃ (T0 G1 : _) (x570 : TNego) (x571 : (List TPkt)) (x576 : (List Int)) (x581 : TPkt) (g572 A573 c574 g577 A578 c579 : _), a = mk 141 (qQ T0 [(0, (pt b0)), (7, (pt b14)), (40, (.slice A2_ a2.length c2_)), (41, (.int .i64 (a2.length : Int))), (42, (.int .i64 x413))]) ∧ GLe G429 G1 ∧ St c G1 w ((.box b14 46 (qC.at_ a3)) :: (.box b0 136 (qA.at_ (Tnego_workV.mk x570 (.slice A573 x571.length c574) (.slice A578 x576.length c579) x581))) :: (.row qC g572 A573 c574 46 x571) :: (.row kI g577 A578 c579 3 x576) :: σ) ∧ jm x413 x570 x571 x576 x581 = some y428) ?_ ?_)
   ·rintro a w ⟨T0, G584, x570, x571, x576, x581, g572, A573, c574, g577, A578, c579, rfl, hG582, H583, b⟩
    refine qc ?_
    iterate 2 refine qb (qa (.int .i64 (IntKind.i64.wrap (x413 + 1))) rfl) ?_
    refine qd (qe ?_)
    exact ⟨_, (yq b).symm, _, _, g572, A573, c574, g577, A578, c579, qf _ ⟨rfl, rfl, rfl, rfl, rfl, yp⟩, (hG426.trans hG582), H583⟩
   refine wp_block (wp_seq (qc ?_))
   obtain ⟨x585, hx586, b⟩ := qu b
   refine qR (qY (h2_.mono (hG78.trans hG426)) xX ty3 rfl rfl hx586) ?_
   intro a587 hp588
   refine zd H427 hp588 (qz .i64) ty3 rfl ?_
   refine qb (qa (.int .i64 x585) rfl) (qd (qe (wp_seq (qc (qb (qa (.int .i64 x585) rfl) (qd (qe (wp_block (wp_seq (qc ?_))))))))))
   iterate 2 refine qb (qa (.bool (x585 == 7)) rfl) ?_
   refine qd (qe ?_)
   rcases qm (x585 == 7) with hb589 | hb589
   ·replace b := ifT b hb589
    refine qs (vb hb589) (wp_seq (qc (qb (qa (pt b0) rfl) (qb (qM rfl) (qb (qh jH rfl) (qb (qh fo32_2 rfl) ?_))))))
    refine ql H427 (i := 1) rfl (Lens.then qH zD) ty30 rfl ?_
    intro v590 hv591
    obtain ⟨A592, c593, rfl, hs594⟩ := qN hv591
    obtain ⟨r595, hr596, b⟩ := qu b
    refine qo (vs := [(.slice A592 x414.Ours.length c593)]) en129 rfl (opts_Bytes_ok k hs594 H427 hr596) ?_
    rintro v601 w600 ⟨G597, A602, c603, hG598, rfl, H599, hs604⟩
    refine qb (qa (.tuple #[(.slice A602 r595.1.length c603), (.int .i64 r595.2)]) rfl) (qb (qa (.slice A602 r595.1.length c603) rfl) (qb (qa (.int .i64 r595.2) rfl) (qb (qa (.slice A602 r595.1.length c603) rfl) (qb (qa (.int .i64 r595.2) rfl) (qd (qe ?_))))))
    refine jP (f := 18) H599 mixed ?_
    intro w605 H606
    refine xW (by repeat (first | exact PF.base | apply PF.then_ | apply PF.blk)) ?_
    intro B E
    obtain ⟨r615, hr616, b⟩ := qu b
    refine qF (fuel := 4) (m := 16383) (fun a w => ∃ T0 G1 g648 A649 c650, a = mk 141 (qQ T0 [(0, (pt b0)), (7, (pt b14)), (40, (.slice A2_ a2.length c2_)), (41, (.int .i64 (a2.length : Int))), (42, (.int .i64 x413)), (58, (pt b0)), (62, (.slice A417 x415.length c418)), (71, (.slice A649 ([(TPkt.mk 1 x414.A.Id r595.1)] : (List TPkt)).length c650))]) ∧ GLe G597 G1 ∧ St c G1 w ((.box b0 136 (qA.at_ (Tnego_workV.mk x414 (.slice A417 x415.length c418) (.slice A422 x420.length c423) x425))) :: (.row qC g416 A417 c418 46 x415) :: (.row kI g421 A422 c423 3 x420) :: (.box b14 46 (qC.at_ a3)) :: (.row qC g648 A649 c650 46 ([(TPkt.mk 1 x414.A.Id r595.1)] : (List TPkt))) :: σ)) ?_ ?_
    ·rintro a w ⟨T0, G647, g648, A649, c650, rfl, hG645, H646⟩
     refine qi [14] ⟨qg (m' := 32767) fun I j => ?_, yp⟩
     refine zB H646 sl71 el46 (i := 1) rfl rfl rfl ((H646.okAt (i := 4) rfl).src) hr616 ?_
     intro g658 A659 c660 w661 H662
     refine qd (j _ _ ?_)
     refine qq (i := 15) (m' := 65535) rfl (qM rfl) B E ?_
     refine qq (i := 16) (m' := 131071) rfl (qh fo136_1 rfl) B E ?_
     refine qi [17] ⟨qg (m' := 262143) fun I j => ?_, yp⟩
     refine qy (z := (.slice A659 r615.length c660)) H662 (i := 0) rfl zk ty71 rfl rfl ⟨[_], rfl, rfl, rfl⟩ ?_
     intro w664 H663
     refine qd (j _ _ (zA ?_))
     iterate 2 refine zn ?_
     refine qe ?_
     exact ⟨_, _, x414, r615, x420, x425, g658, A659, c660, g421, A422, c423, qf _ ⟨rfl, rfl, rfl, rfl, rfl, yp⟩, (hG598.trans hG645), (St.pk [3, 0, 1, 2] 5 H663 rfl (by decide)), b⟩
    intro hM644
    refine qF (fuel := 5) (m := 8191) (fun a w => ∃ T0 G1 v638, a = mk 141 (qQ T0 [(0, (pt b0)), (7, (pt b14)), (40, (.slice A2_ a2.length c2_)), (41, (.int .i64 (a2.length : Int))), (42, (.int .i64 x413)), (58, (pt b0)), (62, (.slice A417 x415.length c418)), (70, v638)]) ∧ GLe G597 G1 ∧ St c G1 w ((.box b0 136 (qA.at_ (Tnego_workV.mk x414 (.slice A417 x415.length c418) (.slice A422 x420.length c423) x425))) :: (.row qC g416 A417 c418 46 x415) :: (.row kI g421 A422 c423 3 x420) :: (.box b14 46 (qC.at_ a3)) :: σ) ∧ qC.V G1 v638 (TPkt.mk 1 x414.A.Id r595.1)) ?_ ?_
    ·rintro a w ⟨T0, G637, v638, rfl, hG635, H636, hv639⟩
     refine qi [13] ⟨qg (m' := 16383) fun I j => ?_, yp⟩
     refine zh (K := qC) (vs := [v638]) (xs := ([(TPkt.mk 1 x414.A.Id r595.1)] : (List TPkt))) H636 sl71 el46 rfl ⟨hv639, yp⟩ rfl (by decide) ?_
     intro g665 w667 H666
     refine qd (j _ _ ?_)
     exact hM644 _ _ ⟨_, _, (some g665), (some ⟨g665, 0, none⟩), 1, qf _ ⟨rfl, rfl, rfl, rfl, rfl, rfl, rfl, rfl, yp⟩, hG635, (St.pk [1, 2, 3, 4, 0] 5 H666 rfl (by decide))⟩
    intro hM634
    refine qq (i := 0) (m' := 1) rfl (qa (pt b0) rfl) B E ?_
    refine qq (i := 1) (m' := 3) rfl (qa (pt b0) rfl) B E ?_
    refine qq (i := 2) (m' := 7) rfl (qM rfl) B E ?_
    refine qq (i := 3) (m' := 15) rfl (qh fo136_1 rfl) B E ?_
    refine qq (i := 5) (m' := 47) rfl (qa (pt b0) rfl) B E ?_
    refine qq (i := 6) (m' := 111) rfl (qM rfl) B E ?_
    refine qq (i := 7) (m' := 239) rfl (qh jH rfl) B E ?_
    refine qq (i := 8) (m' := 495) rfl (qh xe rfl) B E ?_
    refine qq (i := 9) (m' := 1007) rfl (qh fo26_3 rfl) B E ?_
    refine qq (i := 11) (m' := 3055) rfl (qa (.slice A602 r595.1.length c603) rfl) B E ?_
    refine qi [4, 10] ⟨?_, ?_, yp⟩
    ·refine qg (m' := 3071) fun I j => ?_
     refine ql H606 (i := 1) rfl zk ty71 rfl ?_
     intro v669 hv670
     obtain rfl := val_V hv670
     refine qd (j _ _ ?_)
     refine qi [10] ⟨qg (m' := 4095) fun I j => ?_, yp⟩
     refine qp H606 (i := 1) rfl (Lens.then (Lens.then qH zq) zT) (qz .u8) ty5 rfl (qd (j _ _ ?_))
     refine jD (i := 12) (m' := 8191) rfl (qT (G := G597) zr46 rfl bs46 rfl (Parts.cons jO qW ((qz .u8).toV _ _) (Parts.cons jw zf ((qz .u8).toV _ _) (Parts.cons xG zm (zw hs604) (Parts.nil _))))) B E ?_
     intro v671 hv672
     exact hM634 _ _ ⟨_, _, v671, qf _ ⟨rfl, rfl, rfl, rfl, rfl, rfl, rfl, rfl, yp⟩, GLe.refl _, (St.pk [1, 2, 3, 0] 4 H606 rfl (by decide)), hv672⟩
    refine qg (m' := 4079) fun I j => ?_
    refine qp H606 (i := 1) rfl (Lens.then (Lens.then qH zq) zT) (qz .u8) ty5 rfl (qd (j _ _ ?_))
    refine jD (i := 12) (m' := 8175) rfl (qT (G := G597) zr46 rfl bs46 rfl (Parts.cons jO qW ((qz .u8).toV _ _) (Parts.cons jw zf ((qz .u8).toV _ _) (Parts.cons xG zm (zw hs604) (Parts.nil _))))) B E ?_
    intro v673 hv674
    refine qi [4, 13] ⟨?_, ?_, yp⟩
    ·refine qg (m' := 8191) fun I j => ?_
     refine ql H606 (i := 1) rfl zk ty71 rfl ?_
     intro v675 hv676
     obtain rfl := val_V hv676
     refine qd (j _ _ ?_)
     exact hM634 _ _ ⟨_, _, v673, qf _ ⟨rfl, rfl, rfl, rfl, rfl, rfl, rfl, rfl, yp⟩, GLe.refl _, (St.pk [1, 2, 3, 0] 4 H606 rfl (by decide)), hv674⟩
    refine qg (m' := 16367) fun I j => ?_
    refine zh (K := qC) (vs := [v673]) (xs := ([(TPkt.mk 1 x414.A.Id r595.1)] : (List TPkt))) H606 sl71 el46 rfl ⟨hv674, yp⟩ rfl (by decide) ?_
    intro g677 w679 H678
    refine qd (j _ _ ?_)
    refine qi [4] ⟨qg (m' := 16383) fun I j => ?_, yp⟩
    refine ql H678 (i := 2) rfl zk ty71 rfl ?_
    intro v681 hv682
    obtain rfl := val_V hv682
    refine qd (j _ _ ?_)
    exact hM644 _ _ ⟨_, _, (some g677), (some ⟨g677, 0, none⟩), 1, qf _ ⟨rfl, rfl, rfl, rfl, rfl, rfl, rfl, rfl, yp⟩, GLe.refl _, (St.pk [2, 3, 4, 1, 0] 5 H678 rfl (by decide))⟩
   replace b := ifF b hb589
   refine qn (vb hb589) (wp_seq (qc ?_))
   iterate 2 refine qb (qa (.bool (x585 == 10)) rfl) ?_
   refine qd (qe ?_)
   rcases qm (x585 == 10) with hb683 | hb683
   ·replace b := ifT b hb683
    refine qs (vb hb683) ?_
    refine jP (f := 17) H427 mixed ?_
    intro w684 H685
    refine xW (by repeat (first | exact PF.base | apply PF.then_ | apply PF.blk)) ?_
    intro B E
    obtain ⟨r694, hr695, b⟩ := qu b
    refine qF (fuel := 4) (m := 8191) (fun a w => ∃ T0 G1 g727 A728 c729, a = mk 141 (qQ T0 [(0, (pt b0)), (7, (pt b14)), (40, (.slice A2_ a2.length c2_)), (41, (.int .i64 (a2.length : Int))), (42, (.int .i64 x413)), (77, (pt b0)), (81, (.slice A417 x415.length c418)), (89, (.slice A728 ([(TPkt.mk 5 x414.A.Id zj.Data)] : (List TPkt)).length c729))]) ∧ GLe G429 G1 ∧ St c G1 w ((.box b0 136 (qA.at_ (Tnego_workV.mk x414 (.slice A417 x415.length c418) (.slice A422 x420.length c423) x425))) :: (.row qC g416 A417 c418 46 x415) :: (.row kI g421 A422 c423 3 x420) :: (.box b14 46 (qC.at_ a3)) :: (.row qC g727 A728 c729 46 ([(TPkt.mk 5 x414.A.Id zj.Data)] : (List TPkt))) :: σ)) ?_ ?_
    ·rintro a w ⟨T0, G726, g727, A728, c729, rfl, hG724, H725⟩
     refine qi [13] ⟨qg (m' := 16383) fun I j => ?_, yp⟩
     refine zB H725 sl71 el46 (i := 1) rfl rfl rfl ((H725.okAt (i := 4) rfl).src) hr695 ?_
     intro g737 A738 c739 w740 H741
     refine qd (j _ _ ?_)
     refine qq (i := 14) (m' := 32767) rfl (qM rfl) B E ?_
     refine qq (i := 15) (m' := 65535) rfl (qh fo136_1 rfl) B E ?_
     refine qi [16] ⟨qg (m' := 131071) fun I j => ?_, yp⟩
     refine qy (z := (.slice A738 r694.length c739)) H741 (i := 0) rfl zk ty71 rfl rfl ⟨[_], rfl, rfl, rfl⟩ ?_
     intro w743 H742
     refine qd (j _ _ (zA ?_))
     iterate 2 refine zn ?_
     refine qe ?_
     exact ⟨_, _, x414, r694, x420, x425, g737, A738, c739, g421, A422, c423, qf _ ⟨rfl, rfl, rfl, rfl, rfl, yp⟩, hG724, (St.pk [3, 0, 1, 2] 5 H742 rfl (by decide)), b⟩
    intro hM723
    refine qF (fuel := 5) (m := 4095) (fun a w => ∃ T0 G1 v717, a = mk 141 (qQ T0 [(0, (pt b0)), (7, (pt b14)), (40, (.slice A2_ a2.length c2_)), (41, (.int .i64 (a2.length : Int))), (42, (.int .i64 x413)), (77, (pt b0)), (81, (.slice A417 x415.length c418)), (88, v717)]) ∧ GLe G429 G1 ∧ St c G1 w ((.box b0 136 (qA.at_ (Tnego_workV.mk x414 (.slice A417 x415.length c418) (.slice A422 x420.length c423) x425))) :: (.row qC g416 A417 c418 46 x415) :: (.row kI g421 A422 c423 3 x420) :: (.box b14 46 (qC.at_ a3)) :: σ) ∧ qC.V G1 v717 (TPkt.mk 5 x414.A.Id zj.Data)) ?_ ?_
    ·rintro a w ⟨T0, G716, v717, rfl, hG714, H715, hv718⟩
     refine qi [12] ⟨qg (m' := 8191) fun I j => ?_, yp⟩
     refine zh (K := qC) (vs := [v717]) (xs := ([(TPkt.mk 5 x414.A.Id zj.Data)] : (List TPkt))) H715 sl71 el46 rfl ⟨hv718, yp⟩ rfl (by decide) ?_
     intro g744 w746 H745
     refine qd (j _ _ ?_)
     exact hM723 _ _ ⟨_, _, (some g744), (some ⟨g744, 0, none⟩), 1, qf _ ⟨rfl, rfl, rfl, rfl, rfl, rfl, rfl, rfl, yp⟩, hG714, (St.pk [1, 2, 3, 4, 0] 5 H745 rfl (by decide))⟩
    intro hM713
    refine qq (i := 0) (m' := 1) rfl (qa (pt b0) rfl) B E ?_
    refine qq (i := 1) (m' := 3) rfl (qa (pt b0) rfl) B E ?_
    refine qq (i := 2) (m' := 7) rfl (qM rfl) B E ?_
    refine qq (i := 3) (m' := 15) rfl (qh fo136_1 rfl) B E ?_
    refine qq (i := 5) (m' := 47) rfl (qa (pt b0) rfl) B E ?_
    refine qq (i := 6) (m' := 111) rfl (qM rfl) B E ?_
    refine qq (i := 7) (m' := 239) rfl (qh jH rfl) B E ?_
    refine qq (i := 8) (m' := 495) rfl (qh xe rfl) B E ?_
    refine qq (i := 9) (m' := 1007) rfl (qh fo26_3 rfl) B E ?_
    refine qi [4, 10] ⟨?_, ?_, yp⟩
    ·refine qg (m' := 1023) fun I j => ?_
     refine ql H685 (i := 1) rfl zk ty71 rfl ?_
     intro v748 hv749
     obtain rfl := val_V hv749
     refine qd (j _ _ ?_)
     refine qi [10] ⟨qg (m' := 2047) fun I j => ?_, yp⟩
     refine qp H685 (i := 1) rfl (Lens.then (Lens.then qH zq) zT) (qz .u8) ty5 rfl (qd (j _ _ ?_))
     refine jD (i := 11) (m' := 4095) rfl (qT (G := G429) zr46 rfl bs46 rfl (Parts.cons jO qW ((qz .u8).toV _ _) (Parts.cons jw zf ((qz .u8).toV _ _) (Parts.nil _)))) B E ?_
     intro v750 hv751
     exact hM713 _ _ ⟨_, _, v750, qf _ ⟨rfl, rfl, rfl, rfl, rfl, rfl, rfl, rfl, yp⟩, GLe.refl _, (St.pk [1, 2, 3, 0] 4 H685 rfl (by decide)), hv751⟩
    refine qg (m' := 2031) fun I j => ?_
    refine qp H685 (i := 1) rfl (Lens.then (Lens.then qH zq) zT) (qz .u8) ty5 rfl (qd (j _ _ ?_))
    refine jD (i := 11) (m' := 4079) rfl (qT (G := G429) zr46 rfl bs46 rfl (Parts.cons jO qW ((qz .u8).toV _ _) (Parts.cons jw zf ((qz .u8).toV _ _) (Parts.nil _)))) B E ?_
    intro v752 hv753
    refine qi [4, 12] ⟨?_, ?_, yp⟩
    ·refine qg (m' := 4095) fun I j => ?_
     refine ql H685 (i := 1) rfl zk ty71 rfl ?_
     intro v754 hv755
     obtain rfl := val_V hv755
     refine qd (j _ _ ?_)
     exact hM713 _ _ ⟨_, _, v752, qf _ ⟨rfl, rfl, rfl, rfl, rfl, rfl, rfl, rfl, yp⟩, GLe.refl _, (St.pk [1, 2, 3, 0] 4 H685 rfl (by decide)), hv753⟩
    refine qg (m' := 8175) fun I j => ?_
    refine zh (K := qC) (vs := [v752]) (xs := ([(TPkt.mk 5 x414.A.Id zj.Data)] : (List TPkt))) H685 sl71 el46 rfl ⟨hv753, yp⟩ rfl (by decide) ?_
    intro g756 w758 H757
    refine qd (j _ _ ?_)
    refine qi [4] ⟨qg (m' := 8191) fun I j => ?_, yp⟩
    refine ql H757 (i := 2) rfl zk ty71 rfl ?_
    intro v760 hv761
    obtain rfl := val_V hv761
    refine qd (j _ _ ?_)
    exact hM723 _ _ ⟨_, _, (some g756), (some ⟨g756, 0, none⟩), 1, qf _ ⟨rfl, rfl, rfl, rfl, rfl, rfl, rfl, rfl, yp⟩, GLe.refl _, (St.pk [2, 3, 4, 1, 0] 5 H757 rfl (by decide))⟩
   replace b := ifF b hb683
   refine qn (vb hb683) (wp_seq (qc ?_))
   iterate 2 refine qb (qa (.bool (x585 == 11)) rfl) ?_
   refine qd (qe ?_)
   rcases qm (x585 == 11) with hb762 | hb762
   ·replace b := ifT b hb762
    refine qs (vb hb762) ?_
    refine jP (f := 16) H427 mixed ?_
    intro w763 H764
    refine xW (by repeat (first | exact PF.base | apply PF.then_ | apply PF.blk)) ?_
    intro B E
    obtain ⟨r773, hr774, b⟩ := qu b
    refine qF (fuel := 4) (m := 4095) (fun a w => ∃ T0 G1 g806 A807 c808, a = mk 141 (qQ T0 [(0, (pt b0)), (7, (pt b14)), (40, (.slice A2_ a2.length c2_)), (41, (.int .i64 (a2.length : Int))), (42, (.int .i64 x413)), (95, (pt b0)), (99, (.slice A417 x415.length c418)), (106, (.slice A807 ([(TPkt.mk 6 x425.Id zj.Data)] : (List TPkt)).length c808))]) ∧ GLe G429 G1 ∧ St c G1 w ((.box b0 136 (qA.at_ (Tnego_workV.mk x414 (.slice A417 x415.length c418) (.slice A422 x420.length c423) x425))) :: (.row qC g416 A417 c418 46 x415) :: (.row kI g421 A422 c423 3 x420) :: (.box b14 46 (qC.at_ a3)) :: (.row qC g806 A807 c808 46 ([(TPkt.mk 6 x425.Id zj.Data)] : (List TPkt))) :: σ)) ?_ ?_
    ·rintro a w ⟨T0, G805, g806, A807, c808, rfl, hG803, H804⟩
     refine qi [12] ⟨qg (m' := 8191) fun I j => ?_, yp⟩
     refine zB H804 sl71 el46 (i := 1) rfl rfl rfl ((H804.okAt (i := 4) rfl).src) hr774 ?_
     intro g816 A817 c818 w819 H820
     refine qd (j _ _ ?_)
     refine qq (i := 13) (m' := 16383) rfl (qM rfl) B E ?_
     refine qq (i := 14) (m' := 32767) rfl (qh fo136_1 rfl) B E ?_
     refine qi [15] ⟨qg (m' := 65535) fun I j => ?_, yp⟩
     refine qy (z := (.slice A817 r773.length c818)) H820 (i := 0) rfl zk ty71 rfl rfl ⟨[_], rfl, rfl, rfl⟩ ?_
     intro w822 H821
     refine qd (j _ _ (zA ?_))
     iterate 2 refine zn ?_
     refine qe ?_
     exact ⟨_, _, x414, r773, x420, x425, g816, A817, c818, g421, A422, c423, qf _ ⟨rfl, rfl, rfl, rfl, rfl, yp⟩, hG803, (St.pk [3, 0, 1, 2] 5 H821 rfl (by decide)), b⟩
    intro hM802
    refine qF (fuel := 5) (m := 2047) (fun a w => ∃ T0 G1 v796, a = mk 141 (qQ T0 [(0, (pt b0)), (7, (pt b14)), (40, (.slice A2_ a2.length c2_)), (41, (.int .i64 (a2.length : Int))), (42, (.int .i64 x413)), (95, (pt b0)), (99, (.slice A417 x415.length c418)), (105, v796)]) ∧ GLe G429 G1 ∧ St c G1 w ((.box b0 136 (qA.at_ (Tnego_workV.mk x414 (.slice A417 x415.length c418) (.slice A422 x420.length c423) x425))) :: (.row qC g416 A417 c418 46 x415) :: (.row kI g421 A422 c423 3 x420) :: (.box b14 46 (qC.at_ a3)) :: σ) ∧ qC.V G1 v796 (TPkt.mk 6 x425.Id zj.Data)) ?_ ?_
    ·rintro a w ⟨T0, G795, v796, rfl, hG793, H794, hv797⟩
     refine qi [11] ⟨qg (m' := 4095) fun I j => ?_, yp⟩
     refine zh (K := qC) (vs := [v796]) (xs := ([(TPkt.mk 6 x425.Id zj.Data)] : (List TPkt))) H794 sl71 el46 rfl ⟨hv797, yp⟩ rfl (by decide) ?_
     intro g823 w825 H824
     refine qd (j _ _ ?_)
     exact hM802 _ _ ⟨_, _, (some g823), (some ⟨g823, 0, none⟩), 1, qf _ ⟨rfl, rfl, rfl, rfl, rfl, rfl, rfl, rfl, yp⟩, hG793, (St.pk [1, 2, 3, 4, 0] 5 H824 rfl (by decide))⟩
    intro hM792
    refine qq (i := 0) (m' := 1) rfl (qa (pt b0) rfl) B E ?_
    refine qq (i := 1) (m' := 3) rfl (qa (pt b0) rfl) B E ?_
    refine qq (i := 2) (m' := 7) rfl (qM rfl) B E ?_
    refine qq (i := 3) (m' := 15) rfl (qh fo136_1 rfl) B E ?_
    refine qq (i := 5) (m' := 47) rfl (qa (pt b0) rfl) B E ?_
    refine qq (i := 6) (m' := 111) rfl (qM rfl) B E ?_
    refine qq (i := 7) (m' := 239) rfl (qh fo136_3 rfl) B E ?_
    refine qq (i := 8) (m' := 495) rfl (qh jw rfl) B E ?_
    refine qi [4, 9] ⟨?_, ?_, yp⟩
    ·refine qg (m' := 511) fun I j => ?_
     refine ql H764 (i := 1) rfl zk ty71 rfl ?_
     intro v827 hv828
     obtain rfl := val_V hv828
     refine qd (j _ _ ?_)
     refine qi [9] ⟨qg (m' := 1023) fun I j => ?_, yp⟩
     refine qp H764 (i := 1) rfl (Lens.then zi zf) (qz .u8) ty5 rfl (qd (j _ _ ?_))
     refine jD (i := 10) (m' := 2047) rfl (qT (G := G429) zr46 rfl bs46 rfl (Parts.cons jO qW ((qz .u8).toV _ _) (Parts.cons jw zf ((qz .u8).toV _ _) (Parts.nil _)))) B E ?_
     intro v829 hv830
     exact hM792 _ _ ⟨_, _, v829, qf _ ⟨rfl, rfl, rfl, rfl, rfl, rfl, rfl, rfl, yp⟩, GLe.refl _, (St.pk [1, 2, 3, 0] 4 H764 rfl (by decide)), hv830⟩
    refine qg (m' := 1007) fun I j => ?_
    refine qp H764 (i := 1) rfl (Lens.then zi zf) (qz .u8) ty5 rfl (qd (j _ _ ?_))
    refine jD (i := 10) (m' := 2031) rfl (qT (G := G429) zr46 rfl bs46 rfl (Parts.cons jO qW ((qz .u8).toV _ _) (Parts.cons jw zf ((qz .u8).toV _ _) (Parts.nil _)))) B E ?_
    intro v831 hv832
    refine qi [4, 11] ⟨?_, ?_, yp⟩
    ·refine qg (m' := 2047) fun I j => ?_
     refine ql H764 (i := 1) rfl zk ty71 rfl ?_
     intro v833 hv834
     obtain rfl := val_V hv834
     refine qd (j _ _ ?_)
     exact hM792 _ _ ⟨_, _, v831, qf _ ⟨rfl, rfl, rfl, rfl, rfl, rfl, rfl, rfl, yp⟩, GLe.refl _, (St.pk [1, 2, 3, 0] 4 H764 rfl (by decide)), hv832⟩
    refine qg (m' := 4079) fun I j => ?_
    refine zh (K := qC) (vs := [v831]) (xs := ([(TPkt.mk 6 x425.Id zj.Data)] : (List TPkt))) H764 sl71 el46 rfl ⟨hv832, yp⟩ rfl (by decide) ?_
    intro g835 w837 H836
    refine qd (j _ _ ?_)
    refine qi [4] ⟨qg (m' := 4095) fun I j => ?_, yp⟩
    refine ql H836 (i := 2) rfl zk ty71 rfl ?_
    intro v839 hv840
    obtain rfl := val_V hv840
    refine qd (j _ _ ?_)
    exact hM802 _ _ ⟨_, _, (some g835), (some ⟨g835, 0, none⟩), 1, qf _ ⟨rfl, rfl, rfl, rfl, rfl, rfl, rfl, rfl, yp⟩, GLe.refl _, (St.pk [2, 3, 4, 1, 0] 5 H836 rfl (by decide))⟩
   replace b := ifF b hb762
   refine qn (vb hb762) ?_
   refine wp_seq (join (fun a w => ∃ (T0 G1 : _) (x844 : Bool) (x845 : TNego) (x846 : (List TPkt)) (x851 : (List Int)) (x856 : TPkt) (g847 A848 c849 g852 A853 c854 : _), a = mk 141 (qQ T0 [(0, (pt b0)), (7, (pt b14)), (9, (.int .i64 x585)), (40, (.slice A2_ a2.length c2_)), (41, (.int .i64 (a2.length : Int))), (42, (.int .i64 x413)), (46, (.int .i64 x585)), (110, (.bool x844))]) ∧ GLe G429 G1 ∧ St c G1 w ((.box b14 46 (qC.at_ a3)) :: (.box b0 136 (qA.at_ (Tnego_workV.mk x845 (.slice A848 x846.length c849) (.slice A853 x851.length c854) x856))) :: (.row qC g847 A848 c849 46 x846) :: (.row kI g852 A853 c854 3 x851) :: σ) ∧ xd a3 x413 x585 x844 x845 x846 x851 x856 = some y428) ?_ ?_)
   ·rintro a w ⟨T0, G859, x844, x845, x846, x851, x856, g847, A848, c849, g852, A853, c854, rfl, hG857, H858, b⟩
    rcases qm x844 with hb860 | hb860
    ·replace b := ifT b hb860
     refine qs (vb hb860) ?_
     refine jP (f := 11) H858 mixed ?_
     intro w861 H862
     refine xW (by repeat (first | exact PF.base | apply PF.then_ | apply PF.blk)) ?_
     intro B E
     obtain ⟨r871, hr872, b⟩ := qu b
     refine qF (fuel := 4) (m := 127) (fun a w => ∃ T0 G1 g904 A905 c906, a = mk 141 (qQ T0 [(0, (pt b0)), (7, (pt b14)), (40, (.slice A2_ a2.length c2_)), (41, (.int .i64 (a2.length : Int))), (42, (.int .i64 x413)), (115, (pt b0)), (119, (.slice A848 x846.length c849)), (121, (.slice A905 ([a3] : (List TPkt)).length c906))]) ∧ GLe G859 G1 ∧ St c G1 w ((.box b0 136 (qA.at_ (Tnego_workV.mk x845 (.slice A848 x846.length c849) (.slice A853 x851.length c854) x856))) :: (.row qC g847 A848 c849 46 x846) :: (.row kI g852 A853 c854 3 x851) :: (.box b14 46 (qC.at_ a3)) :: (.row qC g904 A905 c906 46 ([a3] : (List TPkt))) :: σ)) ?_ ?_
     ·rintro a w ⟨T0, G903, g904, A905, c906, rfl, hG901, H902⟩
      refine qi [7] ⟨qg (m' := 255) fun I j => ?_, yp⟩
      refine zB H902 sl71 el46 (i := 1) rfl rfl rfl ((H902.okAt (i := 4) rfl).src) hr872 ?_
      intro g914 A915 c916 w917 H918
      refine qd (j _ _ ?_)
      refine qq (i := 8) (m' := 511) rfl (qM rfl) B E ?_
      refine qq (i := 9) (m' := 1023) rfl (qh fo136_1 rfl) B E ?_
      refine qi [10] ⟨qg (m' := 2047) fun I j => ?_, yp⟩
      refine qy (z := (.slice A915 r871.length c916)) H918 (i := 0) rfl zk ty71 rfl rfl ⟨[_], rfl, rfl, rfl⟩ ?_
      intro w920 H919
      refine qd (j _ _ (zA ?_))
      iterate 2 refine zn ?_
      refine qe ?_
      exact ⟨_, _, x845, r871, x851, x856, g914, A915, c916, g852, A853, c854, qf _ ⟨rfl, rfl, rfl, rfl, rfl, yp⟩, (hG857.trans hG901), (St.pk [3, 0, 1, 2] 5 H919 rfl (by decide)), b⟩
     intro hM900
     refine qF (fuel := 5) (m := 63) (fun a w => ∃ T0 G1 v894, a = mk 141 (qQ T0 [(0, (pt b0)), (7, (pt b14)), (40, (.slice A2_ a2.length c2_)), (41, (.int .i64 (a2.length : Int))), (42, (.int .i64 x413)), (115, (pt b0)), (119, (.slice A848 x846.length c849)), (120, v894)]) ∧ GLe G859 G1 ∧ St c G1 w ((.box b0 136 (qA.at_ (Tnego_workV.mk x845 (.slice A848 x846.length c849) (.slice A853 x851.length c854) x856))) :: (.row qC g847 A848 c849 46 x846) :: (.row kI g852 A853 c854 3 x851) :: (.box b14 46 (qC.at_ a3)) :: σ) ∧ qC.V G1 v894 a3) ?_ ?_
     ·rintro a w ⟨T0, G893, v894, rfl, hG891, H892, hv895⟩
      refine qi [6] ⟨qg (m' := 127) fun I j => ?_, yp⟩
      refine zh (K := qC) (vs := [v894]) (xs := ([a3] : (List TPkt))) H892 sl71 el46 rfl ⟨hv895, yp⟩ rfl (by decide) ?_
      intro g921 w923 H922
      refine qd (j _ _ ?_)
      exact hM900 _ _ ⟨_, _, (some g921), (some ⟨g921, 0, none⟩), 1, qf _ ⟨rfl, rfl, rfl, rfl, rfl, rfl, rfl, rfl, yp⟩, hG891, (St.pk [1, 2, 3, 4, 0] 5 H922 rfl (by decide))⟩
     intro hM890
     refine qq (i := 0) (m' := 1) rfl (qa (pt b0) rfl) B E ?_
     refine qq (i := 1) (m' := 3) rfl (qa (pt b0) rfl) B E ?_
     refine qq (i := 2) (m' := 7) rfl (qM rfl) B E ?_
     refine qq (i := 3) (m' := 15) rfl (qh fo136_1 rfl) B E ?_
     refine qi [4, 5] ⟨?_, ?_, yp⟩
     ·refine qg (m' := 31) fun I j => ?_
      refine ql H862 (i := 1) rfl zk ty71 rfl ?_
      intro v925 hv926
      obtain rfl := val_V hv926
      refine qd (j _ _ ?_)
      refine qi [5] ⟨qg (m' := 63) fun I j => ?_, yp⟩
      refine ql H862 (i := 0) rfl (Lens.id qC) ty46 rfl ?_
      intro v927 hv928
      refine qd (j _ _ ?_)
      exact hM890 _ _ ⟨_, _, v927, qf _ ⟨rfl, rfl, rfl, rfl, rfl, rfl, rfl, rfl, yp⟩, GLe.refl _, (St.pk [1, 2, 3, 0] 4 H862 rfl (by decide)), hv928⟩
     refine qg (m' := 47) fun I j => ?_
     refine ql H862 (i := 0) rfl (Lens.id qC) ty46 rfl ?_
     intro v929 hv930
     refine qd (j _ _ ?_)
     refine qi [4, 6] ⟨?_, ?_, yp⟩
     ·refine qg (m' := 63) fun I j => ?_
      refine ql H862 (i := 1) rfl zk ty71 rfl ?_
      intro v931 hv932
      obtain rfl := val_V hv932
      refine qd (j _ _ ?_)
      exact hM890 _ _ ⟨_, _, v929, qf _ ⟨rfl, rfl, rfl, rfl, rfl, rfl, rfl, rfl, yp⟩, GLe.refl _, (St.pk [1, 2, 3, 0] 4 H862 rfl (by decide)), hv930⟩
     refine qg (m' := 111) fun I j => ?_
     refine zh (K := qC) (vs := [v929]) (xs := ([a3] : (List TPkt))) H862 sl71 el46 rfl ⟨hv930, yp⟩ rfl (by decide) ?_
     intro g933 w935 H934
     refine qd (j _ _ ?_)
     refine qi [4] ⟨qg (m' := 127) fun I j => ?_, yp⟩
     refine ql H934 (i := 2) rfl zk ty71 rfl ?_
     intro v937 hv938
     obtain rfl := val_V hv938
     refine qd (j _ _ ?_)
     exact hM900 _ _ ⟨_, _, (some g933), (some ⟨g933, 0, none⟩), 1, qf _ ⟨rfl, rfl, rfl, rfl, rfl, rfl, rfl, rfl, yp⟩, GLe.refl _, (St.pk [2, 3, 4, 1, 0] 5 H934 rfl (by decide))⟩
    replace b := ifF b hb860
    refine qn (vb hb860) ?_
    refine wp_seq (join (fun a w => ∃ (T0 G1 : _) (x942 : Bool) (x943 : TNego) (x944 : (List TPkt)) (x949 : (List Int)) (x954 : TPkt) (g945 A946 c947 g950 A951 c952 : _), a = mk 141 (qQ T0 [(0, (pt b0)), (7, (pt b14)), (9, (.int .i64 x585)), (40, (.slice A2_ a2.length c2_)), (41, (.int .i64 (a2.length : Int))), (42, (.int .i64 x413)), (125, (.bool x942))]) ∧ GLe G859 G1 ∧ St c G1 w ((.box b14 46 (qC.at_ a3)) :: (.box b0 136 (qA.at_ (Tnego_workV.mk x943 (.slice A946 x944.length c947) (.slice A951 x949.length c952) x954))) :: (.row qC g945 A946 c947 46 x944) :: (.row kI g950 A951 c952 3 x949) :: σ) ∧ xH x413 x585 x942 x943 x944 x949 x954 = some y428) ?_ ?_)
    ·rintro a w ⟨T0, G957, x942, x943, x944, x949, x954, g945, A946, c947, g950, A951, c952, rfl, hG955, H956, b⟩
     rcases qm x942 with hb958 | hb958
     ·replace b := ifT b hb958
      refine qs (vb hb958) (qc ?_)
      iterate 2 refine qb (qa (pt b0) rfl) ?_
      refine qb (qM rfl) (qb (qh fo136_2 rfl) ?_)
      refine ql H956 (i := 1) rfl xN ty44 rfl ?_
      intro v959 hv960
      obtain rfl := val_V hv960
      refine qb (qa (.int .i64 x585) rfl) ?_
      refine zh (K := kI) (vs := [(.int .i64 x585)]) (xs := ([x585] : (List Int))) H956 xX el3 rfl ⟨((qz .i64).toV _ _), yp⟩ rfl (by decide) ?_
      intro g961 w963 H962
      obtain ⟨r965, hr966, b⟩ := qu b
      refine zB H962 xX el3 (i := 4) rfl rfl rfl ((H962.okAt (i := 0) rfl).src) hr966 ?_
      intro g967 A968 c969 w970 H971
      refine qb (qM rfl) (qb (qh fo136_2 rfl) ?_)
      refine qy (z := (.slice A968 r965.length c969)) H971 (i := 2) rfl xN ty44 rfl rfl ⟨[_], rfl, rfl, rfl⟩ ?_
      intro w973 H972
      refine qd (zn (zn (qe ?_)))
      exact ⟨_, _, x943, x944, r965, x954, g945, A946, c947, g967, A968, c969, qf _ ⟨rfl, rfl, rfl, rfl, rfl, yp⟩, (hG857.trans hG955), (St.pk [1, 2, 3, 4] 5 H972 rfl (by decide)), b⟩
     replace b := ifF b hb958
     refine qn (vb hb958) (wp_skip ?_)
     iterate 2 refine zn ?_
     refine qe ?_
     exact ⟨_, _, x943, x944, x949, x954, g945, A946, c947, g950, A951, c952, qf _ ⟨rfl, rfl, rfl, rfl, rfl, yp⟩, (hG857.trans hG955), H956, b⟩
    refine wp_seq (qc ?_)
    iterate 2 refine qb (qa (.bool (x585 == 1)) rfl) ?_
    refine qd (qe ?_)
    rcases qm (x585 == 1) with hb974 | hb974
    ·replace b := ifT b hb974
     refine qs (vb hb974) (wp_skip (qe ?_))
     exact ⟨_, _, (x585 == 1), x845, x846, x851, x856, g847, A848, c849, g852, A853, c854, qf _ ⟨rfl, rfl, rfl, rfl, rfl, rfl, rfl, yp⟩, GLe.refl _, H858, b⟩
    replace b := ifF b hb974
    refine qn (vb hb974) (wp_seq (qc ?_))
    iterate 2 refine qb (qa (.bool (x585 == 2)) rfl) ?_
    refine qd (qe ?_)
    rcases qm (x585 == 2) with hb975 | hb975
    ·replace b := ifT b hb975
     refine qs (vb hb975) (wp_skip (qe ?_))
     exact ⟨_, _, (x585 == 2), x845, x846, x851, x856, g847, A848, c849, g852, A853, c854, qf _ ⟨rfl, rfl, rfl, rfl, rfl, rfl, rfl, yp⟩, GLe.refl _, H858, b⟩
    replace b := ifF b hb975
    refine qn (vb hb975) (wp_seq (qc ?_))
    iterate 2 refine qb (qa (.bool (x585 == 3)) rfl) ?_
    refine qd (qe ?_)
    rcases qm (x585 == 3) with hb976 | hb976
    ·replace b := ifT b hb976
     refine qs (vb hb976) (wp_skip (qe ?_))
     exact ⟨_, _, (x585 == 3), x845, x846, x851, x856, g847, A848, c849, g852, A853, c854, qf _ ⟨rfl, rfl, rfl, rfl, rfl, rfl, rfl, yp⟩, GLe.refl _, H858, b⟩
    replace b := ifF b hb976
    refine qn (vb hb976) (qc ?_)
    iterate 2 refine qb (qa (.bool (x585 == 4)) rfl) ?_
    refine qd (qe ?_)
    exact ⟨_, _, (x585 == 4), x845, x846, x851, x856, g847, A848, c849, g852, A853, c854, qf _ ⟨rfl, rfl, rfl, rfl, rfl, rfl, rfl, yp⟩, GLe.refl _, H858, b⟩
   refine wp_seq (qc ?_)
   iterate 2 refine qb (qa (.bool (x585 == 8)) rfl) ?_
   refine qd (qe ?_)
   rcases qm (x585 == 8) with hb977 | hb977
   ·replace b := ifT b hb977
    refine qs (vb hb977) (wp_skip (qe ?_))
    exact ⟨_, _, (x585 == 8), x414, x415, x420, x425, g416, A417, c418, g421, A422, c423, qf _ ⟨rfl, rfl, rfl, rfl, rfl, rfl, rfl, rfl, yp⟩, GLe.refl _, H427, b⟩
   replace b := ifF b hb977
   refine qn (vb hb977) (wp_seq (qc ?_))
   iterate 2 refine qb (qa (.bool (x585 == 9)) rfl) ?_
   refine qd (qe ?_)
   rcases qm (x585 == 9) with hb978 | hb978
   ·replace b := ifT b hb978
    refine qs (vb hb978) (wp_skip (qe ?_))
    exact ⟨_, _, (x585 == 9), x414, x415, x420, x425, g416, A417, c418, g421, A422, c423, qf _ ⟨rfl, rfl, rfl, rfl, rfl, rfl, rfl, rfl, yp⟩, GLe.refl _, H427, b⟩
   replace b := ifF b hb978
   refine qn (vb hb978) (wp_seq (qc ?_))
   iterate 2 refine qb (qa (.bool (x585 == 12)) rfl) ?_
   refine qd (qe ?_)
   rcases qm (x585 == 12) with hb979 | hb979
   ·replace b := ifT b hb979
    refine qs (vb hb979) (wp_skip (qe ?_))
    exact ⟨_, _, (x585 == 12), x414, x415, x420, x425, g416, A417, c418, g421, A422, c423, qf _ ⟨rfl, rfl, rfl, rfl, rfl, rfl, rfl, rfl, yp⟩, GLe.refl _, H427, b⟩
   replace b := ifF b hb979
   refine qn (vb hb979) (qc ?_)
   iterate 2 refine qb (qa (.bool (x585 == 13)) rfl) ?_
   refine qd (qe ?_)
   exact ⟨_, _, (x585 == 13), x414, x415, x420, x425, g416, A417, c418, g421, A422, c423, qf _ ⟨rfl, rfl, rfl, rfl, rfl, rfl, rfl, rfl, yp⟩, GLe.refl _, H427, b⟩
  replace b := ifF b hb430
  refine qn (vb hb430) ?_
  refine wp_exit ?_
  iterate 2 refine xB ?_
  replace b := jJ b hy81
  refine blk_e ?_
  have b := yq b
  subst b
  exact end_mk rfl RV.nil ⟨_, g416, A417, c418, g421, A422, c423, (hG78.trans hG426), rfl, (St.pk [1, 2, 3] 4 H427 rfl (by decide))⟩
 refine wp_seq (join (fun a w => ∃ (T0 G1 : _) (x996 : Bool) (x997 : TNego) (x998 : (List TPkt)) (x1003 : (List Int)) (x1008 : TPkt) (g999 A1000 c1001 g1004 A1005 c1006 : _), a = mk 141 (qQ T0 [(0, (pt b0)), (2, (.slice A2_ a2.length c2_)), (7, (pt b14)), (21, (.bool x996))]) ∧ GLe G G1 ∧ St c G1 w ((.box b14 46 (qC.at_ a3)) :: (.box b0 136 (qA.at_ (Tnego_workV.mk x997 (.slice A1000 x998.length c1001) (.slice A1005 x1003.length c1006) x1008))) :: (.row qC g999 A1000 c1001 46 x998) :: (.row kI g1004 A1005 c1006 3 x1003) :: σ) ∧ xJ a2 a3 x996 x997 x998 x1003 x1008 = some r) ?_ ?_)
 ·rintro a w ⟨T0, G1011, x996, x997, x998, x1003, x1008, g999, A1000, c1001, g1004, A1005, c1006, rfl, hG1009, H1010, b⟩
  rcases qm x996 with hb1012 | hb1012
  ·replace b := ifT b hb1012
   refine qs (vb hb1012) (qc ?_)
   iterate 4 refine qb (qa (pt b0) rfl) ?_
   refine qb (qM rfl) (qb (qh jH rfl) (qb (qh fo32_1 rfl) ?_))
   refine ql H1010 (i := 1) rfl (Lens.then qH ym) ty29 rfl ?_
   intro v1013 hv1014
   obtain ⟨r1015, hr1016, b⟩ := qu b
   refine qo (vs := [v1013]) en117 rfl (rules_Ask_ok k hv1014 H1010 hr1016) ?_
   rintro v1021 w1020 ⟨G1017, A1022, c1023, hG1018, rfl, H1019, hs1024⟩
   refine qb (qM rfl) (qb (qh jH rfl) (qb (qh fo32_2 rfl) ?_))
   refine qy (z := r1015) H1019 (i := 1) rfl (Lens.then qH zD) ty30 rfl rfl (zw hs1024) ?_
   intro w1026 H1025
   refine qb (qM rfl) (qb (qh jH rfl) (qb (qh fo32_3 rfl) ?_))
   refine qy (z := 0) H1025 (i := 1) rfl (Lens.then qH jb) ty3 rfl rfl ((qz .i64).toV _ _) ?_
   intro w1028 H1027
   refine qb (qM rfl) (qb (qh jH rfl) (qb (qh fo32_4 rfl) ?_))
   refine qy (z := []) H1027 (i := 1) rfl (Lens.then qH lTNego_Peer) ty30 rfl rfl (zw (SlR.nil _ _)) ?_
   intro w1030 H1029
   refine qd (qe ?_)
   exact ⟨_, _, (TNego.mk x997.A x997.R r1015 0 []), x998, x1003, x1008, g999, A1000, c1001, g1004, A1005, c1006, qf _ ⟨rfl, rfl, rfl, yp⟩, (hG1009.trans hG1018), H1029, b⟩
  replace b := ifF b hb1012
  refine qn (vb hb1012) (wp_skip (qe ?_))
  exact ⟨_, _, x997, x998, x1003, x1008, g999, A1000, c1001, g1004, A1005, c1006, qf _ ⟨rfl, rfl, rfl, yp⟩, hG1009, H1010, b⟩
 refine qc (qb (qa (.int .i64 a1) rfl) ?_)
 iterate 2 refine qb (qa (.bool (decide (a1 ≤ 3))) rfl) ?_
 rcases qm (decide (a1 ≤ 3)) with hb1031 | hb1031
 ·replace b := ifT b hb1031
  refine qj rfl rfl rfl (vb hb1031) (qb (qa (.slice A2_ a2.length c2_) rfl) (qj rfl rfl rfl (vb hb1031) ?_))
  obtain ⟨r1032, hr1033, b⟩ := qu b
  refine qo (vs := [(.slice A2_ a2.length c2_), (.int .i64 5)]) en126 rfl (yl k h2_ H15 hr1033) ?_
  rintro v1038 w1037 ⟨G1034, hG1035, rfl, H1036⟩
  refine qb (qB (.bool r1032) (vb hb1031) rfl) (qb (qa (.bool r1032) rfl) ?_)
  rcases qm r1032 with hb1039 | hb1039
  ·replace b := ifT b hb1039
   refine qj rfl rfl rfl (vb hb1039) (qb (qa (.slice A2_ a2.length c2_) rfl) (qj rfl rfl rfl (vb hb1039) ?_))
   obtain ⟨r1040, hr1041, b⟩ := qu b
   refine qo (vs := [(.slice A2_ a2.length c2_), (.int .i64 7)]) en126 rfl (yl k (h2_.mono hG1035) H1036 hr1041) ?_
   rintro v1046 w1045 ⟨G1042, hG1043, rfl, H1044⟩
   refine qb (qB (.bool r1040) (vb hb1039) rfl) (qd (qe ?_))
   exact ⟨_, _, r1040, x2, x3, x8, x13, g4, A5, c6, g9, A10, c11, qf _ ⟨rfl, rfl, rfl, rfl, yp⟩, (hG1035.trans hG1043), H1044, b⟩
  replace b := ifF b hb1039
  iterate 2 refine qJ rfl rfl rfl (vb hb1039) ?_
  refine qb (qr (.bool false) (vb hb1039) rfl) (qd (qe ?_))
  exact ⟨_, _, false, x2, x3, x8, x13, g4, A5, c6, g9, A10, c11, qf _ ⟨rfl, rfl, rfl, rfl, yp⟩, hG1035, H1036, b⟩
 replace b := ifF b hb1031
 iterate 2 refine qJ rfl rfl rfl (vb hb1031) ?_
 refine qb (qr (.bool false) (vb hb1031) rfl) (qb (qa (.bool false) rfl) ?_)
 iterate 2 refine qJ rfl rfl rfl rfl ?_
 refine qb (qr (.bool false) rfl rfl) (qd (qe ?_))
 exact ⟨_, _, false, x2, x3, x8, x13, g4, A5, c6, g9, A10, c11, qf _ ⟨rfl, rfl, rfl, rfl, yp⟩, GLe.refl _, H15, b⟩

theorem jg {c : World} (k : Hc c) {G : qk} {w : World} {σ : List Ent} {b0 : Nat} {x2 : TNego} {x3 : (List TPkt)} {x8 : (List Int)} {x13 : TPkt} {g4 : Option Nat} {A5 : Option Addr} {c6 : Nat} {g9 : Option Nat} {A10 : Option Addr} {c11 : Nat} {a1 : Int} {a2 : TPkt} {v2_ : Value} (h2_ : qC.V G v2_ a2) (H : St c G w ((.box b0 136 (qA.at_ (Tnego_workV.mk x2 (.slice A5 x3.length c6) (.slice A10 x8.length c11) x13))) :: (.row qC g4 A5 c6 46 x3) :: (.row kI g9 A10 c11 3 x8) :: σ)) {r : ((List Int) × TNego × (List TPkt) × (List Int) × TPkt)} (b : ze x2 x3 x8 x13 a1 a2 = some r) :
  Calls Tryz.prog 74 ([(pt b0), (.int .i64 a1), v2_] : List Value).toArray w (zu fun v w' => ∃ (G' : qk) (A1' : Option Addr) (c2' : Nat) (g3' : Option Nat) (A4' : Option Addr) (c5' : Nat) (g6' : Option Nat) (A7' : Option Addr) (c8' : Nat), GLe G G' ∧ tup [(.slice A1' r.1.length c2')] = v ∧ St c G' w' ((.box b0 136 (qA.at_ (Tnego_workV.mk r.2.1 (.slice A4' r.2.2.1.length c5') (.slice A7' r.2.2.2.1.length c8') r.2.2.2.2))) :: (.row qC g3' A4' c5' 46 r.2.2.1) :: (.row kI g6' A7' c8' 3 r.2.2.2.1) :: σ) ∧ SlR kI G' A1' c2' r.1) := by
 unfold ze at b
 refine qG Tryz.func74 rfl rfl rfl (wp_seq (qc ?_))
 refine zp (K := qC) (x := a2) H rfl h2_ ?_
 intro b14 w17 H15
 refine qb (qa (.slice none 0 0) rfl) (qd (qe (wp_seq (qc (qb (qa (pt b0) rfl) (qb (qM rfl) (qb (qh jH rfl) (qb (qh xe rfl) (qb (qh fo26_0 rfl) (qp H15 (i := 1) rfl (Lens.then (Lens.then qH zq) zZ) (qz .i64) ty3 rfl (qb (qa (.int .i64 x2.A.State) rfl) (qd (qe (wp_seq (qc ?_)))))))))))))))
 refine qb (qa (pt b0) rfl) (qb (qM rfl) (qb (qh jH rfl) (qb (qh xe rfl) ?_)))
 refine ql H15 (i := 1) rfl (Lens.then qH zq) xA rfl ?_
 intro v18 hv19
 refine qb (qa (.int .i64 a1) rfl) ?_
 obtain ⟨r20, hr21, b⟩ := qu b
 refine qo (vs := [v18, (.int .i64 a1)]) en135 rfl (auto_Do_ok k hv19 H15 hr21) ?_
 rintro v26 w25 ⟨G22, v27, A29, c30, hG23, rfl, H24, hv28, hs31⟩
 refine qb (qa (.tuple #[v27, (.slice A29 r20.2.1.length c30), (.int .i64 r20.2.2)]) rfl) (qb (qa v27 rfl) (qb (qa (.slice A29 r20.2.1.length c30) rfl) (qb (qa (.int .i64 r20.2.2) rfl) ?_)))
 refine qP H24 zr26 ?_
 intro b32 w35 H33
 refine qy (z := r20.1) H33 (i := 0) rfl (Lens.id za) xA rfl rfl hv28 ?_
 intro w37 H36
 refine qb (qa (.slice A29 r20.2.1.length c30) rfl) (qb (qa (.int .i64 r20.2.2) rfl) (qd (qe (wp_seq (wp_seq (qc (qb (qa (.int .i64 r20.2.2) rfl) (qb (qa (.bool (r20.2.2 != 0)) rfl) (qd (qe ?_))))))))))
 rcases qm (r20.2.2 != 0) with hb38 | hb38
 ·replace b := ifT b hb38
  refine qs (vb hb38) (wp_seq (qc (qb (qa (.slice none 0 0) rfl) (qd (qe (wp_ret (qI ?_)))))))
  have b := yq b
  subst b
  exact qt rfl (RV.tmp rfl RV.nil) ⟨_, none, 0, g4, A5, c6, g9, A10, c11, hG23, rfl, (St.pk [2, 3, 4] 5 H36 rfl (by decide)), (SlR.nil _ _)⟩
 replace b := ifF b hb38
 refine qn (vb hb38) (wp_skip (qe (wp_seq (qc (qb (qa (pt b0) rfl) ?_)))))
 refine ql H36 (i := 0) rfl (Lens.id za) xA rfl ?_
 intro v39 hv40
 refine qb (qM rfl) (qb (qh jH rfl) (qb (qh xe rfl) ?_))
 refine qy (z := r20.1) H36 (i := 2) rfl (Lens.then qH zq) xA rfl rfl hv40 ?_
 intro w42 H41
 refine qd (qe (wp_seq (qc (qb (qa (pt b0) rfl) (qb (qa (.int .i64 x2.A.State) rfl) (qb (qa (.slice A29 r20.2.1.length c30) rfl) ?_))))))
 refine ql H41 (i := 1) rfl (Lens.id qC) ty46 rfl ?_
 intro v43 hv44
 obtain ⟨r45, hr46, b⟩ := qu b
 refine qo (vs := [(pt b0), (.int .i64 x2.A.State), (.slice A29 r20.2.1.length c30), v43]) en77 rfl (nego_work_acts_ok k hs31 hv44 (St.pk [2, 3, 4, 0, 1] 5 H41 rfl (by decide)) hr46) ?_
 rintro v51 w50 ⟨G47, g52, A53, c54, g55, A56, c57, hG48, rfl, H49⟩
 refine qd (qe (wp_seq (qc ?_)))
 iterate 2 refine qb (qa (.slice A29 r20.2.1.length c30) rfl) ?_
 refine qd (qe (wp_ret ?_))
 have b := yq b
 subst b
 exact qt rfl (RV.tmp rfl RV.nil) ⟨_, A29, c30, g52, A53, c54, g55, A56, c57, (hG23.trans hG48), rfl, (St.pk [0, 1, 2] 5 H49 rfl (by decide)), (hs31.mono hG48)⟩
end Go.Proofs.YtadlndnagfnlgaaGreatDoor.W
