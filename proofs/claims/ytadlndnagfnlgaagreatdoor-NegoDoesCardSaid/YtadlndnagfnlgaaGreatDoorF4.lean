/- Calls come to what the plain functions say: written by a program (gen.py). -/
import Derived.Test.YtadlndnagfnlgaaGreatDoorG
import Derived.Test.YtadlndnagfnlgaaGreatDoorF3
set_option linter.unusedVariables false
set_option maxRecDepth 20000
namespace Go.Proofs.YtadlndnagfnlgaaGreatDoor.W
open Go
set_option maxHeartbeats 4000000
attribute [local irreducible] wpList wpAny Code.wp wpListIn wpAnyIn Code.wpIn
theorem pr12_Right_ok {c : World} (k : Hc c) {G : qk} {w : World} {σ : List Ent} {a0 : TAuto} {v0_ : Value} (h0_ : za.V G v0_ a0) (H : St c G w (σ)) {r : Bool} (b : pr12_Right a0 = some r) :
  Calls Tryz.prog 72 ([v0_] : List Value).toArray w (zu fun v w' => ∃ (G' : qk), GLe G G' ∧ tup [(.bool r)] = v ∧ St c G' w' (σ)) := by
 unfold pr12_Right at b
 refine qG Tryz.func72 rfl rfl rfl (wp_seq (qc ?_))
 refine zp (K := za) (x := a0) H rfl h0_ ?_
 intro b1 w4 H2
 refine qb (qa (.bool false) rfl) (qd (qe (wp_seq ?_)))
 refine wp_seq (join (fun a w => ∃ (T0 G1 : _) (x8 : Bool), a = mk 45 (qQ T0 [(1, (pt b1)), (21, (.bool x8))]) ∧ GLe G G1 ∧ St c G1 w ((.box b1 26 (za.at_ a0)) :: σ) ∧ xh a0 x8 = some r) ?_ ?_)
 ·rintro a w ⟨T0, G11, x8, rfl, hG9, H10, b⟩
  rcases qm x8 with hb12 | hb12
  ·replace b := ifT b hb12
   refine qs (vb hb12) (wp_seq (qc (qb (qa (.bool false) rfl) (qd (qe (wp_ret (qI ?_)))))))
   have b := yq b
   subst b
   exact qt rfl (RV.tmp rfl RV.nil) ⟨_, hG9, rfl, (St.pk [] 1 H10 rfl (by decide))⟩
  replace b := ifF b hb12
  refine qn (vb hb12) (wp_skip (qe (wp_seq (qc (qb (qh fo26_0 rfl) (qp H10 (i := 0) rfl zZ (qz .i64) ty3 rfl ?_))))))
  obtain ⟨r13, hr14, b⟩ := qu b
  refine qo (vs := [(.int .i64 a0.State)]) en134 rfl (pr11_Timed_ok k H10 hr14) ?_
  rintro v19 w18 ⟨G15, hG16, rfl, H17⟩
  refine qb (qa (.bool r13) rfl) (qd (qe (wp_seq (qc ?_))))
  iterate 2 refine qb (qa (.bool r13) rfl) ?_
  rcases qm r13 with hb20 | hb20
  ·replace b := ifT b hb20
   refine qj rfl rfl rfl (vb hb20) (qb (qh fo26_2 rfl) (qj rfl rfl rfl (vb hb20) (qp H17 (i := 0) rfl zM (qz .i64) ty3 rfl (qj rfl rfl rfl (vb hb20) (qb (qa (.bool (decide (a0.Left ≥ 1))) rfl) (qb (qB (.bool (decide (a0.Left ≥ 1))) (vb hb20) rfl) (qb (qa (.bool (decide (a0.Left ≥ 1))) rfl) ?_)))))))
   rcases qm (decide (a0.Left ≥ 1)) with hb21 | hb21
   ·replace b := ifT b hb21
    refine qj rfl rfl rfl (vb hb21) (qb (qh fo26_2 rfl) (qj rfl rfl rfl (vb hb21) (qp H17 (i := 0) rfl zM (qz .i64) ty3 rfl (qj rfl rfl rfl (vb hb21) (qb (qa (.bool (decide (a0.Left ≤ 3))) rfl) (qb (qB (.bool (decide (a0.Left ≤ 3))) (vb hb21) rfl) (qb (qa (.bool (decide (a0.Left ≤ 3))) rfl) ?_)))))))
    rcases qm (decide (a0.Left ≤ 3)) with hb22 | hb22
    ·replace b := ifT b hb22
     iterate 3 refine qJ rfl rfl rfl (vb hb22) ?_
     iterate 3 refine wl_nou rfl rfl rfl rfl ?_
     refine qJ rfl rfl rfl (vb hb22) (qb (qB (.bool true) (vb hb22) rfl) (qb (qa (.bool true) rfl) (qd (qe (wp_ret ?_)))))
     have b := yq b
     subst b
     exact qt rfl (RV.tmp rfl RV.nil) ⟨_, (hG9.trans hG16), rfl, (St.pk [] 1 H17 rfl (by decide))⟩
    replace b := ifF b hb22
    refine qj rfl rfl rfl (vb hb22) (qb (qa (.bool r13) rfl) (qj rfl rfl rfl (vb hb22) (qb (qa (.bool (!r13)) rfl) (qj rfl rfl rfl (vb hb22) (qb (qa (.bool (!r13)) rfl) ?_)))))
    rcases qm (!r13) with hb23 | hb23
    ·replace b := ifT b hb23
     refine qj rfl rfl rfl (vb hb23) (qb (qh fo26_2 rfl) (qj rfl rfl rfl (vb hb23) (qp H17 (i := 0) rfl zM (qz .i64) ty3 rfl (qj rfl rfl rfl (vb hb23) (qb (qa (.bool (a0.Left == 0)) rfl) (qj rfl rfl rfl (vb hb22) (qb (qB (.bool (a0.Left == 0)) (vb hb23) rfl) (qb (qr (.bool (a0.Left == 0)) (vb hb22) rfl) (qb (qa (.bool (a0.Left == 0)) rfl) ?_)))))))))
     refine qd (qe (wp_ret ?_))
     have b := yq b
     subst b
     exact qt rfl (RV.tmp rfl RV.nil) ⟨_, (hG9.trans hG16), rfl, (St.pk [] 1 H17 rfl (by decide))⟩
    replace b := ifF b hb23
    iterate 3 refine qJ rfl rfl rfl (vb hb23) ?_
    refine qj rfl rfl rfl (vb hb22) (qb (qr (.bool false) (vb hb23) rfl) (qb (qr (.bool false) (vb hb22) rfl) (qb (qa (.bool false) rfl) (qd (qe (wp_ret ?_))))))
    have b := yq b
    subst b
    exact qt rfl (RV.tmp rfl RV.nil) ⟨_, (hG9.trans hG16), rfl, (St.pk [] 1 H17 rfl (by decide))⟩
   replace b := ifF b hb21
   iterate 3 refine qJ rfl rfl rfl (vb hb21) ?_
   refine qb (qr (.bool false) (vb hb21) rfl) (qb (qa (.bool false) rfl) (qj rfl rfl rfl rfl (qb (qa (.bool r13) rfl) (qj rfl rfl rfl rfl (qb (qa (.bool (!r13)) rfl) (qj rfl rfl rfl rfl (qb (qa (.bool (!r13)) rfl) ?_)))))))
   rcases qm (!r13) with hb24 | hb24
   ·replace b := ifT b hb24
    refine qj rfl rfl rfl (vb hb24) (qb (qh fo26_2 rfl) (qj rfl rfl rfl (vb hb24) (qp H17 (i := 0) rfl zM (qz .i64) ty3 rfl (qj rfl rfl rfl (vb hb24) (qb (qa (.bool (a0.Left == 0)) rfl) (qj rfl rfl rfl rfl (qb (qB (.bool (a0.Left == 0)) (vb hb24) rfl) (qb (qr (.bool (a0.Left == 0)) rfl rfl) (qb (qa (.bool (a0.Left == 0)) rfl) ?_)))))))))
    refine qd (qe (wp_ret ?_))
    have b := yq b
    subst b
    exact qt rfl (RV.tmp rfl RV.nil) ⟨_, (hG9.trans hG16), rfl, (St.pk [] 1 H17 rfl (by decide))⟩
   replace b := ifF b hb24
   iterate 3 refine qJ rfl rfl rfl (vb hb24) ?_
   refine qj rfl rfl rfl rfl (qb (qr (.bool false) (vb hb24) rfl) (qb (qr (.bool false) rfl rfl) (qb (qa (.bool false) rfl) (qd (qe (wp_ret ?_))))))
   have b := yq b
   subst b
   exact qt rfl (RV.tmp rfl RV.nil) ⟨_, (hG9.trans hG16), rfl, (St.pk [] 1 H17 rfl (by decide))⟩
  replace b := ifF b hb20
  iterate 3 refine qJ rfl rfl rfl (vb hb20) ?_
  refine qb (qr (.bool false) (vb hb20) rfl) (qb (qa (.bool false) rfl) ?_)
  iterate 3 refine qJ rfl rfl rfl rfl ?_
  refine qb (qr (.bool false) rfl rfl) (qb (qa (.bool false) rfl) (qj rfl rfl rfl rfl (qb (qa (.bool r13) rfl) (qj rfl rfl rfl rfl (qb (qa (.bool (!r13)) rfl) (qj rfl rfl rfl rfl (qb (qa (.bool (!r13)) rfl) ?_)))))))
  rcases qm (!r13) with hb25 | hb25
  ·replace b := ifT b hb25
   refine qj rfl rfl rfl (vb hb25) (qb (qh fo26_2 rfl) (qj rfl rfl rfl (vb hb25) (qp H17 (i := 0) rfl zM (qz .i64) ty3 rfl (qj rfl rfl rfl (vb hb25) (qb (qa (.bool (a0.Left == 0)) rfl) (qj rfl rfl rfl rfl (qb (qB (.bool (a0.Left == 0)) (vb hb25) rfl) (qb (qr (.bool (a0.Left == 0)) rfl rfl) (qb (qa (.bool (a0.Left == 0)) rfl) ?_)))))))))
   refine qd (qe (wp_ret ?_))
   have b := yq b
   subst b
   exact qt rfl (RV.tmp rfl RV.nil) ⟨_, (hG9.trans hG16), rfl, (St.pk [] 1 H17 rfl (by decide))⟩
  replace b := ifF b hb25
  iterate 3 refine qJ rfl rfl rfl (vb hb25) ?_
  refine qj rfl rfl rfl rfl (qb (qr (.bool false) (vb hb25) rfl) (qb (qr (.bool false) rfl rfl) (qb (qa (.bool false) rfl) (qd (qe (wp_ret ?_))))))
  have b := yq b
  subst b
  exact qt rfl (RV.tmp rfl RV.nil) ⟨_, (hG9.trans hG16), rfl, (St.pk [] 1 H17 rfl (by decide))⟩
 refine qc (qb (qh fo26_0 rfl) (qp H2 (i := 0) rfl zZ (qz .i64) ty3 rfl ?_))
 iterate 2 refine qb (qa (.bool (decide (a0.State < 0))) rfl) ?_
 rcases qm (decide (a0.State < 0)) with hb26 | hb26
 ·replace b := ifT b hb26
  iterate 3 refine qJ rfl rfl rfl (vb hb26) ?_
  refine qb (qB (.bool true) (vb hb26) rfl) (qb (qa (.bool true) rfl) ?_)
  iterate 3 refine qJ rfl rfl rfl rfl ?_
  refine qb (qB (.bool true) rfl rfl) (qb (qa (.bool true) rfl) ?_)
  iterate 3 refine qJ rfl rfl rfl rfl ?_
  refine qb (qB (.bool true) rfl rfl) (qd (qe ?_))
  exact ⟨_, _, true, qf _ ⟨rfl, rfl, yp⟩, GLe.refl _, H2, b⟩
 replace b := ifF b hb26
 refine qj rfl rfl rfl (vb hb26) (qb (qh fo26_0 rfl) (qj rfl rfl rfl (vb hb26) (qp H2 (i := 0) rfl zZ (qz .i64) ty3 rfl (qj rfl rfl rfl (vb hb26) (qb (qa (.bool (decide (a0.State > 9))) rfl) (qb (qr (.bool (decide (a0.State > 9))) (vb hb26) rfl) (qb (qa (.bool (decide (a0.State > 9))) rfl) ?_)))))))
 rcases qm (decide (a0.State > 9)) with hb27 | hb27
 ·replace b := ifT b hb27
  iterate 3 refine qJ rfl rfl rfl (vb hb27) ?_
  refine qb (qB (.bool true) (vb hb27) rfl) (qb (qa (.bool true) rfl) ?_)
  iterate 3 refine qJ rfl rfl rfl rfl ?_
  refine qb (qB (.bool true) rfl rfl) (qd (qe ?_))
  exact ⟨_, _, true, qf _ ⟨rfl, rfl, yp⟩, GLe.refl _, H2, b⟩
 replace b := ifF b hb27
 refine qj rfl rfl rfl (vb hb27) (qb (qh fo26_1 rfl) (qj rfl rfl rfl (vb hb27) (qp H2 (i := 0) rfl jF (qz .i64) ty3 rfl (qj rfl rfl rfl (vb hb27) (qb (qa (.bool (decide (a0.Count < 0))) rfl) (qb (qr (.bool (decide (a0.Count < 0))) (vb hb27) rfl) (qb (qa (.bool (decide (a0.Count < 0))) rfl) ?_)))))))
 rcases qm (decide (a0.Count < 0)) with hb28 | hb28
 ·replace b := ifT b hb28
  iterate 3 refine qJ rfl rfl rfl (vb hb28) ?_
  refine qb (qB (.bool true) (vb hb28) rfl) (qd (qe ?_))
  exact ⟨_, _, true, qf _ ⟨rfl, rfl, yp⟩, GLe.refl _, H2, b⟩
 replace b := ifF b hb28
 refine qj rfl rfl rfl (vb hb28) (qb (qh fo26_1 rfl) (qj rfl rfl rfl (vb hb28) (qp H2 (i := 0) rfl jF (qz .i64) ty3 rfl (qj rfl rfl rfl (vb hb28) (qb (qa (.bool (decide (a0.Count > 5))) rfl) (qb (qr (.bool (decide (a0.Count > 5))) (vb hb28) rfl) (qd (qe ?_))))))))
 exact ⟨_, _, (decide (a0.Count > 5)), qf _ ⟨rfl, rfl, yp⟩, GLe.refl _, H2, b⟩

theorem pr10_Bytes_ok {c : World} (k : Hc c) {G : qk} {w : World} {σ : List Ent} {a0 : (List TOpt)} {A0_ : Option Addr} {c0_ : Nat} (h0_ : SlR qx G A0_ c0_ a0) (H : St c G w (σ)) {r : ((List Int) × Int)} (b : zL a0 = some r) :
  Calls Tryz.prog 73 ([(.slice A0_ a0.length c0_)] : List Value).toArray w (zu fun v w' => ∃ (G' : qk) (A1' : Option Addr) (c2' : Nat), GLe G G' ∧ tup [(.slice A1' r.1.length c2'), (.int .i64 r.2)] = v ∧ St c G' w' (σ) ∧ SlR kB G' A1' c2' r.1) := by
 unfold zL at b
 refine qG Tryz.func73 rfl rfl rfl (wp_seq (qc (qb (qa (.slice none 0 0) rfl) (qb (qa (.int .i64 0) rfl) (qd (qe (wp_seq (qc (qb (qa (.slice none 0 0) rfl) (qd (qe (wp_seq (wp_seq (qc (qb (qa (.int .i64 0) rfl) ?_)))))))))))))))
 refine qd (qe (wp_block ?_))
 have H230 := H.nilrow kB none 5
 refine ja (fun (s : ((List Int) × Int)) a w => ∃ (T0 : Fr) (G1 : qk) (g89 : Option Nat) (A90 : Option Addr) (c91 : Nat), a = mk 46 (qQ T0 [(0, (.slice A0_ a0.length c0_)), (4, (.slice A90 s.1.length c91)), (5, (.int .i64 s.2))]) ∧ GLe G G1 ∧ St c G1 w ((.row kB g89 A90 c91 5 s.1) :: σ)) b ?_ ?_
 ·exact ⟨_, _, none, none, 0, qf _ ⟨rfl, rfl, rfl, yp⟩, GLe.refl _, H230⟩
 rintro ⟨x88, x93⟩ a w y96 ⟨T0, G97, g89, A90, c91, rfl, hG94, H95⟩ b hy1
 refine wp_seq (wp_seq (qc (qb (qa (.int .i64 x93) rfl) (qb (qa (.slice A0_ a0.length c0_) rfl) (qb (zb zQ rfl) (qb (qa (.bool (decide (x93 < (a0.length : Int)))) rfl) (qd (qe ?_))))))))
 rcases qm (decide (x93 < (a0.length : Int))) with hb98 | hb98
 ·replace b := ifT b hb98
  refine qs (vb hb98) (wp_skip (qe (wp_seq (wp_block (wp_seq (wp_seq (qc (qb (qa (.slice A0_ a0.length c0_) rfl) (qb (qa (.int .i64 x93) rfl) ?_)))))))))
  obtain ⟨x99, hx100, b⟩ := qu b
  refine qR (qY (h0_.mono hG94) zQ zc rfl rfl hx100) ?_
  intro a101 hp102
  refine qb (jW jp rfl) ?_
  refine zH H95 (hp102.lens qZ) jy rfl ?_
  intro v103 hv104
  obtain ⟨A105, c106, rfl, hs107⟩ := qN hv104
  refine qb (zb zJ rfl) (qb (qa (.bool (decide ((x99.Data.length : Int) > 253))) rfl) (qd (qe ?_)))
  rcases qm (decide ((x99.Data.length : Int) > 253)) with hb108 | hb108
  ·replace b := ifT b hb108
   refine qs (vb hb108) (wp_seq (qc (qb (qa (.slice none 0 0) rfl) (qb (qa (.int .i64 1) rfl) (qd (qe (wp_ret (qI (zg ?_)))))))))
   iterate 2 refine qI ?_
   replace b := jJ b hy1
   refine zg (qI ?_)
   have b := yq b
   subst b
   exact qt rfl (RV.tmp rfl (RV.tmp rfl RV.nil)) ⟨_, none, 0, hG94, rfl, (St.pk [] 1 H95 rfl (by decide)), (SlR.nil _ _)⟩
  replace b := ifF b hb108
  refine qn (vb hb108) (wp_skip (qe (wp_seq ?_)))
  refine jP (f := 17) H95 mixed ?_
  intro w133 H134
  refine xW (by repeat (first | exact PF.base | apply PF.then_ | apply PF.blk)) ?_
  intro B E
  obtain ⟨x135, hx136, b⟩ := qu b
  obtain ⟨x139, hx140, b⟩ := qu b
  obtain ⟨r152, hr153, b⟩ := qu b
  refine qF (fuel := 3) (m := 16383) (fun a w => ∃ T0 G1, a = mk 46 (qQ T0 [(0, (.slice A0_ a0.length c0_)), (5, (.int .i64 x93)), (19, (.slice A90 x88.length c91)), (24, (.int .u8 x135.Typ)), (32, (.int .u8 (IntKind.u8.wrap ((IntKind.i64.wrap (2 + (x139.Data.length : Int)))))))]) ∧ GLe G97 G1 ∧ St c G1 w ((.row kB g89 A90 c91 5 x88) :: σ)) ?_ ?_
  ·rintro a w ⟨T0, G176, rfl, hG174, H175⟩
   refine qi [14] ⟨qg (m' := 32767) fun I j => ?_, yp⟩
   refine zh (K := kB) (vs := [(.int .u8 x135.Typ), (.int .u8 (IntKind.u8.wrap ((IntKind.i64.wrap (2 + (x139.Data.length : Int))))))]) (xs := ([x135.Typ, (IntKind.u8.wrap ((IntKind.i64.wrap (2 + (x139.Data.length : Int)))))] : (List Int))) H175 zJ el5 rfl ⟨((qz .u8).toV _ _), ((qz .u8).toV _ _), yp⟩ rfl (by decide) ?_
   intro g186 w188 H187
   refine qd (j _ _ ?_)
   refine qi [15] ⟨qg (m' := 65535) fun I j => ?_, yp⟩
   refine zB H187 zJ el5 (i := 1) rfl rfl rfl ((H187.okAt (i := 0) rfl).src) hr153 ?_
   intro g190 A191 c192 w193 H194
   refine qd (j _ _ ?_)
   refine qq (i := 16) (m' := 131071) rfl (qa (.slice A191 r152.length c192) rfl) B E ?_
   refine zA (qe (qc (qb (qa (.slice A191 r152.length c192) rfl) (qb (qa (.slice A0_ a0.length c0_) rfl) (qb (qa (.int .i64 x93) rfl) ?_)))))
   obtain ⟨x195, hx196, b⟩ := qu b
   refine qR (qY (h0_.mono (hG94.trans hG174)) zQ zc rfl rfl hx196) ?_
   intro a197 hp198
   refine qb (jW jp rfl) ?_
   refine zH H194 (hp198.lens qZ) jy rfl ?_
   intro v199 hv200
   obtain ⟨A201, c202, rfl, hs203⟩ := qN hv200
   obtain ⟨r204, hr205, b⟩ := qu b
   refine zB H194 zJ el5 (i := 1) rfl rfl rfl (hs203.src H194.ag) hr205 ?_
   intro g206 A207 c208 w209 H210
   refine qb (qa (.slice A207 r204.length c208) rfl) (qd (zn (qe (qc (qb (qa (.int .i64 x93) rfl) ?_)))))
   iterate 2 refine qb (qa (.int .i64 (IntKind.i64.wrap (x93 + 1))) rfl) ?_
   refine qd (qe ?_)
   exact ⟨_, (yq b).symm, _, _, g206, A207, c208, qf _ ⟨rfl, rfl, rfl, yp⟩, (hG94.trans hG174), (St.pk [1] 2 H210 rfl (by decide))⟩
  intro hM173
  refine qq (i := 0) (m' := 1) rfl (qa (.slice A90 x88.length c91) rfl) B E ?_
  refine qq (i := 1) (m' := 3) rfl (qa (.slice A0_ a0.length c0_) rfl) B E ?_
  refine qq (i := 2) (m' := 7) rfl (qa (.int .i64 x93) rfl) B E ?_
  refine jD (i := 3) (m' := 15) rfl (qY (h0_.mono hG94) zQ zc rfl rfl hx136) B E ?_
  intro a211 hp212
  refine qq (i := 4) (m' := 31) rfl (jW jc rfl) B E ?_
  refine qq (i := 6) (m' := 95) rfl (qa (.slice A0_ a0.length c0_) rfl) B E ?_
  refine qq (i := 7) (m' := 223) rfl (qa (.int .i64 x93) rfl) B E ?_
  refine jD (i := 8) (m' := 479) rfl (qY (h0_.mono hG94) zQ zc rfl rfl hx140) B E ?_
  intro a213 hp214
  refine qq (i := 9) (m' := 991) rfl (jW jp rfl) B E ?_
  refine qi [5, 10] ⟨?_, ?_, yp⟩
  ·refine qg (m' := 1023) fun I j => ?_
   refine zd H134 (hp212.lens qX) (qz .u8) ty5 rfl ?_
   refine qd (j _ _ ?_)
   refine qi [10] ⟨qg (m' := 2047) fun I j => ?_, yp⟩
   refine zH H134 (hp214.lens qZ) jy rfl ?_
   intro v215 hv216
   obtain ⟨A217, c218, rfl, hs219⟩ := qN hv216
   refine qd (j _ _ ?_)
   refine qq (i := 11) (m' := 4095) rfl (zb zJ rfl) B E ?_
   refine qq (i := 12) (m' := 8191) rfl (qa (.int .i64 (IntKind.i64.wrap (2 + (x139.Data.length : Int)))) rfl) B E ?_
   refine qq (i := 13) (m' := 16383) rfl (zU un3 un5 rfl) B E ?_
   exact hM173 _ _ ⟨_, _, qf _ ⟨rfl, rfl, rfl, rfl, rfl, yp⟩, GLe.refl _, H134⟩
  refine qg (m' := 2015) fun I j => ?_
  refine zH H134 (hp214.lens qZ) jy rfl ?_
  intro v220 hv221
  obtain ⟨A222, c223, rfl, hs224⟩ := qN hv221
  refine qd (j _ _ ?_)
  refine qq (i := 11) (m' := 4063) rfl (zb zJ rfl) B E ?_
  refine qq (i := 12) (m' := 8159) rfl (qa (.int .i64 (IntKind.i64.wrap (2 + (x139.Data.length : Int)))) rfl) B E ?_
  refine qq (i := 13) (m' := 16351) rfl (zU un3 un5 rfl) B E ?_
  refine qi [5] ⟨qg (m' := 16383) fun I j => ?_, yp⟩
  refine zd H134 (hp212.lens qX) (qz .u8) ty5 rfl ?_
  refine qd (j _ _ ?_)
  exact hM173 _ _ ⟨_, _, qf _ ⟨rfl, rfl, rfl, rfl, rfl, yp⟩, GLe.refl _, H134⟩
 replace b := ifF b hb98
 refine qn (vb hb98) ?_
 refine wp_exit ?_
 iterate 2 refine xB ?_
 replace b := jJ b hy1
 refine blk_e ?_
 refine qe (wp_seq (wp_seq (qc (qb (qa (.slice A90 x88.length c91) rfl) (qb (zb zJ rfl) (qb (qa (.bool (decide ((x88.length : Int) > 1496))) rfl) (qd (qe ?_))))))))
 rcases qm (decide ((x88.length : Int) > 1496)) with hb225 | hb225
 ·replace b := ifT b hb225
  refine qs (vb hb225) (wp_seq (qc (qb (qa (.slice none 0 0) rfl) (qb (qa (.int .i64 1) rfl) (qd (qe (wp_ret (qI ?_))))))))
  have b := yq b
  subst b
  exact qt rfl (RV.tmp rfl (RV.tmp rfl RV.nil)) ⟨_, none, 0, hG94, rfl, (St.pk [] 1 H95 rfl (by decide)), (SlR.nil _ _)⟩
 replace b := ifF b hb225
 refine qn (vb hb225) (wp_skip (qe (wp_seq (qc ?_))))
 iterate 2 refine qb (qa (.slice A90 x88.length c91) rfl) ?_
 refine qb (qa (.int .i64 0) rfl) (qd (qe (wp_ret ?_)))
 obtain ⟨G226, hG227, H228, hs229⟩ := H95.stay (i := 0) rfl (H95.capA (i := 0) rfl)
 have b := yq b
 subst b
 exact qt rfl (RV.tmp rfl (RV.tmp rfl RV.nil)) ⟨_, A90, c91, (hG94.trans hG227), rfl, H228, hs229⟩

theorem pr14_Right_ok {c : World} (k : Hc c) {G : qk} {w : World} {σ : List Ent} {a0 : TNego} {v0_ : Value} (h0_ : qv.V G v0_ a0) (H : St c G w (σ)) {r : Bool} (b : pr14_Right a0 = some r) :
  Calls Tryz.prog 26 ([v0_] : List Value).toArray w (zu fun v w' => ∃ (G' : qk), GLe G G' ∧ tup [(.bool r)] = v ∧ St c G' w' (σ)) := by
 unfold pr14_Right at b
 refine qG Tryz.func26 rfl rfl rfl (wp_seq (qc ?_))
 refine zp (K := qv) (x := a0) H rfl h0_ ?_
 intro b1 w4 H2
 refine qb (qa (.bool false) rfl) (qd (qe (wp_seq (qc (qb (qh xe rfl) ?_)))))
 refine ql H2 (i := 0) rfl zq xA rfl ?_
 intro v5 hv6
 obtain ⟨r7, hr8, b⟩ := qu b
 refine qo (vs := [v5]) en72 rfl (pr12_Right_ok k hv6 H2 hr8) ?_
 rintro v13 w12 ⟨G9, hG10, rfl, H11⟩
 refine qb (qa (.bool r7) rfl) (qd (qe (wp_seq (qc (qb (qh fo32_2 rfl) ?_)))))
 refine ql H11 (i := 0) rfl zD ty30 rfl ?_
 intro v14 hv15
 obtain ⟨A16, c17, rfl, hs18⟩ := qN hv15
 obtain ⟨r19, hr20, b⟩ := qu b
 refine qo (vs := [(.slice A16 a0.Ours.length c17)]) en73 rfl (pr10_Bytes_ok k hs18 H11 hr20) ?_
 rintro v25 w24 ⟨G21, A26, c27, hG22, rfl, H23, hs28⟩
 refine qb (qa (.tuple #[(.slice A26 r19.1.length c27), (.int .i64 r19.2)]) rfl) (qb (qa (.slice A26 r19.1.length c27) rfl) (qb (qa (.int .i64 r19.2) rfl) (qb (qa (.slice A26 r19.1.length c27) rfl) (qb (qa (.int .i64 r19.2) rfl) (qd (qe (wp_seq (wp_seq (qc (qb (qa (.int .i64 0) rfl) (qd (qe ?_))))))))))))
 refine wp_block ?_
 refine ja (fun (s : Int) a w => ∃ (T0 : Fr) (G1 : qk), a = mk 55 (qQ T0 [(1, (pt b1)), (3, (.bool r7)), (5, (.int .i64 r19.2)), (6, (.int .i64 s))]) ∧ GLe G21 G1 ∧ St c G1 w ((.box b1 32 (qv.at_ a0)) :: σ)) b ?_ ?_
 ·exact ⟨_, _, qf _ ⟨rfl, rfl, rfl, rfl, yp⟩, GLe.refl _, H23⟩
 rintro x66 a w y69 ⟨T0, G70, rfl, hG67, H68⟩ b hy29
 refine wp_seq (wp_seq (qc (qb (qa (.int .i64 x66) rfl) (qb (qh fo32_2 rfl) ?_))))
 refine ql H68 (i := 0) rfl zD ty30 rfl ?_
 intro v71 hv72
 obtain ⟨A73, c74, rfl, hs75⟩ := qN hv72
 refine qb (zb zQ rfl) (qb (qa (.bool (decide (x66 < (a0.Ours.length : Int)))) rfl) (qd (qe ?_)))
 rcases qm (decide (x66 < (a0.Ours.length : Int))) with hb76 | hb76
 ·replace b := ifT b hb76
  refine qs (vb hb76) (wp_skip (qe (wp_seq (wp_block ?_))))
  refine wp_seq (join (fun a w => ∃ (T0 G1 : _) (x101 : Bool), a = mk 55 (qQ T0 [(1, (pt b1)), (3, (.bool r7)), (5, (.int .i64 r19.2)), (6, (.int .i64 x66)), (39, (.bool x101))]) ∧ GLe G70 G1 ∧ St c G1 w ((.box b1 32 (qv.at_ a0)) :: σ) ∧ pr14_Right_j2 x66 x101 = some y69) ?_ ?_)
  ·rintro a w ⟨T0, G104, x101, rfl, hG102, H103, b⟩
   rcases qm x101 with hb105 | hb105
   ·replace b := ifT b hb105
    refine qs (vb hb105) (wp_seq (qc (qb (qa (.bool false) rfl) (qd (qe (wp_ret (zg ?_)))))))
    iterate 2 refine qI ?_
    replace b := jJ b hy29
    refine zg (qI ?_)
    have b := yq b
    subst b
    exact qt rfl (RV.tmp rfl RV.nil) ⟨_, (((hG10.trans hG22).trans hG67).trans hG102), rfl, (St.pk [] 1 H103 rfl (by decide))⟩
   replace b := ifF b hb105
   refine qn (vb hb105) (wp_skip (zn (qe (qc (qb (qa (.int .i64 x66) rfl) ?_)))))
   iterate 2 refine qb (qa (.int .i64 (IntKind.i64.wrap (x66 + 1))) rfl) ?_
   refine qd (qe ?_)
   exact ⟨_, (yq b).symm, _, _, qf _ ⟨rfl, rfl, rfl, rfl, yp⟩, (hG67.trans hG102), H103⟩
  refine qc (qb (qh fo32_2 rfl) ?_)
  refine ql H68 (i := 0) rfl zD ty30 rfl ?_
  intro v106 hv107
  obtain ⟨A108, c109, rfl, hs110⟩ := qN hv107
  refine qb (qa (.int .i64 x66) rfl) ?_
  obtain ⟨x111, hx112, b⟩ := qu b
  refine qR (qY hs110 zQ zc rfl rfl hx112) ?_
  intro a113 hp114
  refine qb (jW jc rfl) ?_
  refine zd H68 (hp114.lens qX) (qz .u8) ty5 rfl ?_
  iterate 2 refine qb (qa (.bool (x111.Typ == 5)) rfl) ?_
  rcases qm (x111.Typ == 5) with hb115 | hb115
  ·replace b := ifT b hb115
   refine qj rfl rfl rfl (vb hb115) (qb (qh fo32_2 rfl) (qj rfl rfl rfl (vb hb115) ?_))
   refine ql H68 (i := 0) rfl zD ty30 rfl ?_
   intro v116 hv117
   obtain ⟨A118, c119, rfl, hs120⟩ := qN hv117
   refine qj rfl rfl rfl (vb hb115) (qb (qa (.int .i64 x66) rfl) (qj rfl rfl rfl (vb hb115) ?_))
   obtain ⟨x121, hx122, b⟩ := qu b
   refine qR (qY hs120 zQ zc rfl rfl hx122) ?_
   intro a123 hp124
   refine qj rfl rfl rfl (vb hb115) (qb (jW jp rfl) (qj rfl rfl rfl (vb hb115) ?_))
   refine zH H68 (hp124.lens qZ) jy rfl ?_
   intro v125 hv126
   obtain ⟨A127, c128, rfl, hs129⟩ := qN hv126
   refine qj rfl rfl rfl (vb hb115) (qb (zb zJ rfl) (qj rfl rfl rfl (vb hb115) (qb (qa (.bool ((x121.Data.length : Int) != 4)) rfl) (qb (qB (.bool ((x121.Data.length : Int) != 4)) (vb hb115) rfl) (qd (qe ?_))))))
   exact ⟨_, _, ((x121.Data.length : Int) != 4), qf _ ⟨rfl, rfl, rfl, rfl, rfl, yp⟩, GLe.refl _, H68, b⟩
  replace b := ifF b hb115
  iterate 8 refine qJ rfl rfl rfl (vb hb115) ?_
  refine qb (qr (.bool false) (vb hb115) rfl) (qd (qe ?_))
  exact ⟨_, _, false, qf _ ⟨rfl, rfl, rfl, rfl, rfl, yp⟩, GLe.refl _, H68, b⟩
 replace b := ifF b hb76
 refine qn (vb hb76) ?_
 refine wp_exit ?_
 iterate 2 refine xB ?_
 replace b := jJ b hy29
 refine blk_e ?_
 refine qe (wp_seq (qc ?_))
 iterate 2 refine qb (qa (.bool r7) rfl) ?_
 rcases qm r7 with hb130 | hb130
 ·replace b := ifT b hb130
  refine qj rfl rfl rfl (vb hb130) (qb (qh fo32_3 rfl) (qj rfl rfl rfl (vb hb130) (qp H68 (i := 0) rfl jb (qz .i64) ty3 rfl (qj rfl rfl rfl (vb hb130) (qb (qa (.bool (decide (a0.Naks ≥ 0))) rfl) (qb (qB (.bool (decide (a0.Naks ≥ 0))) (vb hb130) rfl) (qb (qa (.bool (decide (a0.Naks ≥ 0))) rfl) ?_)))))))
  rcases qm (decide (a0.Naks ≥ 0)) with hb131 | hb131
  ·replace b := ifT b hb131
   refine qj rfl rfl rfl (vb hb131) (qb (qh fo32_3 rfl) (qj rfl rfl rfl (vb hb131) (qp H68 (i := 0) rfl jb (qz .i64) ty3 rfl (qj rfl rfl rfl (vb hb131) (qb (qa (.bool (decide (a0.Naks ≤ 3))) rfl) (qb (qB (.bool (decide (a0.Naks ≤ 3))) (vb hb131) rfl) (qb (qa (.bool (decide (a0.Naks ≤ 3))) rfl) ?_)))))))
   rcases qm (decide (a0.Naks ≤ 3)) with hb132 | hb132
   ·replace b := ifT b hb132
    refine qj rfl rfl rfl (vb hb132) (qb (qa (.int .i64 r19.2) rfl) (qj rfl rfl rfl (vb hb132) (qb (qa (.bool (r19.2 == 0)) rfl) (qb (qB (.bool (r19.2 == 0)) (vb hb132) rfl) (qb (qa (.bool (r19.2 == 0)) rfl) (qd (qe (wp_ret ?_))))))))
    have b := yq b
    subst b
    exact qt rfl (RV.tmp rfl RV.nil) ⟨_, ((hG10.trans hG22).trans hG67), rfl, (St.pk [] 1 H68 rfl (by decide))⟩
   replace b := ifF b hb132
   iterate 2 refine qJ rfl rfl rfl (vb hb132) ?_
   refine qb (qr (.bool false) (vb hb132) rfl) (qb (qa (.bool false) rfl) (qd (qe (wp_ret ?_))))
   have b := yq b
   subst b
   exact qt rfl (RV.tmp rfl RV.nil) ⟨_, ((hG10.trans hG22).trans hG67), rfl, (St.pk [] 1 H68 rfl (by decide))⟩
  replace b := ifF b hb131
  iterate 3 refine qJ rfl rfl rfl (vb hb131) ?_
  refine qb (qr (.bool false) (vb hb131) rfl) (qb (qa (.bool false) rfl) ?_)
  iterate 2 refine qJ rfl rfl rfl rfl ?_
  refine qb (qr (.bool false) rfl rfl) (qb (qa (.bool false) rfl) (qd (qe (wp_ret ?_))))
  have b := yq b
  subst b
  exact qt rfl (RV.tmp rfl RV.nil) ⟨_, ((hG10.trans hG22).trans hG67), rfl, (St.pk [] 1 H68 rfl (by decide))⟩
 replace b := ifF b hb130
 iterate 3 refine qJ rfl rfl rfl (vb hb130) ?_
 refine qb (qr (.bool false) (vb hb130) rfl) (qb (qa (.bool false) rfl) ?_)
 iterate 3 refine qJ rfl rfl rfl rfl ?_
 refine qb (qr (.bool false) rfl rfl) (qb (qa (.bool false) rfl) ?_)
 iterate 2 refine qJ rfl rfl rfl rfl ?_
 refine qb (qr (.bool false) rfl rfl) (qb (qa (.bool false) rfl) (qd (qe (wp_ret ?_))))
 have b := yq b
 subst b
 exact qt rfl (RV.tmp rfl RV.nil) ⟨_, ((hG10.trans hG22).trans hG67), rfl, (St.pk [] 1 H68 rfl (by decide))⟩

theorem pr11_never_ok {c : World} (k : Hc c) {G : qk} {w : World} {σ : List Ent} {a0 : Int}  (H : St c G w (σ)) {r : ((List Int) × Int × Bool)} (b : ya a0 = some r) :
  Calls Tryz.prog 221 ([(.int .i64 a0)] : List Value).toArray w (zu fun v w' => ∃ (G' : qk) (A1' : Option Addr) (c2' : Nat), GLe G G' ∧ tup [(.slice A1' r.1.length c2'), (.int .i64 r.2.1), (.bool r.2.2)] = v ∧ St c G' w' (σ) ∧ SlR kI G' A1' c2' r.1) := by
 unfold ya at b
 refine qG Tryz.func221 rfl rfl rfl (wp_seq (qc (qb (qa (.slice none 0 0) rfl) (qb (qa (.int .i64 0) rfl) (qb (qa (.bool false) rfl) (qd (qe (wp_seq (qc (qb (qa (.int .i64 a0) rfl) (qb (qa (.slice none 0 0) rfl) (qb (qa (.int .i64 a0) rfl) (qb (qa (.bool false) rfl) ?_)))))))))))))
 refine qd (qe (wp_ret ?_))
 have b := yq b
 subst b
 exact qt rfl (RV.tmp rfl (RV.tmp rfl (RV.tmp rfl RV.nil))) ⟨_, none, 0, GLe.refl _, rfl, H, (SlR.nil _ _)⟩

theorem zl {c : World} (k : Hc c) {G : qk} {w : World} {σ : List Ent} {a0 : Int}  (H : St c G w (σ)) {r : ((List Int) × Int × Bool)} (b : zo a0 = some r) :
  Calls Tryz.prog 233 ([(.int .i64 a0)] : List Value).toArray w (zu fun v w' => ∃ (G' : qk) (A1' : Option Addr) (c2' : Nat), GLe G G' ∧ tup [(.slice A1' r.1.length c2'), (.int .i64 r.2.1), (.bool r.2.2)] = v ∧ St c G' w' (σ) ∧ SlR kI G' A1' c2' r.1) := by
 unfold zo at b
 refine qG Tryz.func233 rfl rfl rfl (wp_seq (qc (qb (qa (.slice none 0 0) rfl) (qb (qa (.int .i64 0) rfl) (qb (qa (.bool false) rfl) (qd (qe (wp_seq (qc (qb (qa (.int .i64 a0) rfl) (qb (qa (.slice none 0 0) rfl) (qb (qa (.int .i64 a0) rfl) (qb (qa (.bool true) rfl) ?_)))))))))))))
 refine qd (qe (wp_ret ?_))
 have b := yq b
 subst b
 exact qt rfl (RV.tmp rfl (RV.tmp rfl (RV.tmp rfl RV.nil))) ⟨_, none, 0, GLe.refl _, rfl, H, (SlR.nil _ _)⟩

theorem qK {c : World} (k : Hc c) {G : qk} {w : World} {σ : List Ent} {a0 : Int} {a1 : (List Int)} {A1_ : Option Addr} {c1_ : Nat} (h1_ : SlR kI G A1_ c1_ a1) (H : St c G w (σ)) {r : ((List Int) × Int × Bool)} (b : qO a0 a1 = some r) :
  Calls Tryz.prog 231 ([(.int .i64 a0), (.slice A1_ a1.length c1_)] : List Value).toArray w (zu fun v w' => ∃ (G' : qk) (A1' : Option Addr) (c2' : Nat), GLe G G' ∧ tup [(.slice A1' r.1.length c2'), (.int .i64 r.2.1), (.bool r.2.2)] = v ∧ St c G' w' (σ) ∧ SlR kI G' A1' c2' r.1) := by
 unfold qO at b
 refine qG Tryz.func231 rfl rfl rfl (wp_seq (qc (qb (qa (.slice none 0 0) rfl) (qb (qa (.int .i64 0) rfl) (qb (qa (.bool false) rfl) (qd (qe (wp_seq (qc (qb (qa (.slice A1_ a1.length c1_) rfl) (qb (qa (.int .i64 a0) rfl) (qb (qa (.slice A1_ a1.length c1_) rfl) (qb (qa (.int .i64 a0) rfl) ?_)))))))))))))
 refine qb (qa (.bool true) rfl) (qd (qe (wp_ret ?_)))
 have b := yq b
 subst b
 exact qt rfl (RV.tmp rfl (RV.tmp rfl (RV.tmp rfl RV.nil))) ⟨_, A1_, c1_, GLe.refl _, rfl, H, h1_⟩

theorem pr11_up_ok {c : World} (k : Hc c) {G : qk} {w : World} {σ : List Ent} {a0 : Int}  (H : St c G w (σ)) {r : ((List Int) × Int × Bool)} (b : pr11_up a0 = some r) :
  Calls Tryz.prog 222 ([(.int .i64 a0)] : List Value).toArray w (zu fun v w' => ∃ (G' : qk) (A1' : Option Addr) (c2' : Nat), GLe G G' ∧ tup [(.slice A1' r.1.length c2'), (.int .i64 r.2.1), (.bool r.2.2)] = v ∧ St c G' w' (σ) ∧ SlR kI G' A1' c2' r.1) := by
 unfold pr11_up at b
 refine qG Tryz.func222 rfl rfl rfl (wp_seq (qc (qb (qa (.slice none 0 0) rfl) (qb (qa (.int .i64 0) rfl) (qb (qa (.bool false) rfl) (qd (qe (wp_seq (wp_seq (qc (qb (qa (.int .i64 a0) rfl) (qb (qa (.bool (a0 == 0)) rfl) ?_))))))))))))
 refine qd (qe ?_)
 rcases qm (a0 == 0) with hb1 | hb1
 ·replace b := ifT b hb1
  refine qs (vb hb1) (wp_seq (qc ?_))
  obtain ⟨r2, hr3, b⟩ := qu b
  refine qo (vs := [(.int .i64 2)]) en233 rfl (zl k H hr3) ?_
  rintro v8 w7 ⟨G4, A9, c10, hG5, rfl, H6, hs11⟩
  refine qb (qa (.slice A9 r2.1.length c10) rfl) (qb (qa (.int .i64 r2.2.1) rfl) (qb (qa (.bool r2.2.2) rfl) (qb (qa (.slice A9 r2.1.length c10) rfl) (qb (qa (.int .i64 r2.2.1) rfl) (qb (qa (.bool r2.2.2) rfl) (qd (qe (wp_ret (qI ?_)))))))))
  have b := yq b
  subst b
  exact qt rfl (RV.tmp rfl (RV.tmp rfl (RV.tmp rfl RV.nil))) ⟨_, A9, c10, hG5, rfl, H6, hs11⟩
 replace b := ifF b hb1
 refine qn (vb hb1) (wp_skip (qe (wp_seq (wp_seq (qc (qb (qa (.int .i64 a0) rfl) (qb (qa (.bool (a0 == 1)) rfl) (qd (qe ?_)))))))))
 rcases qm (a0 == 1) with hb12 | hb12
 ·replace b := ifT b hb12
  refine qs (vb hb12) (wp_seq (qc ?_))
  refine zh (K := kI) (vs := [(.int .i64 5), (.int .i64 7)]) (xs := ([5, 7] : (List Int))) H xX el3 rfl ⟨((qz .i64).toV _ _), ((qz .i64).toV _ _), yp⟩ rfl (by decide) ?_
  intro g13 w15 H14
  obtain ⟨G17, hG18, H19, hs20⟩ := H14.stay (i := 0) rfl (H14.capA (i := 0) rfl)
  obtain ⟨r21, hr22, b⟩ := qu b
  refine qo (vs := [(.int .i64 6), (.slice (some ⟨g13, 0, none⟩) ([5, 7] : (List Int)).length 2)]) en231 rfl (qK k hs20 H19 hr22) ?_
  rintro v27 w26 ⟨G23, A28, c29, hG24, rfl, H25, hs30⟩
  refine qb (qa (.slice A28 r21.1.length c29) rfl) (qb (qa (.int .i64 r21.2.1) rfl) (qb (qa (.bool r21.2.2) rfl) (qb (qa (.slice A28 r21.1.length c29) rfl) (qb (qa (.int .i64 r21.2.1) rfl) (qb (qa (.bool r21.2.2) rfl) (qd (qe (wp_ret (qI ?_)))))))))
  have b := yq b
  subst b
  exact qt rfl (RV.tmp rfl (RV.tmp rfl (RV.tmp rfl RV.nil))) ⟨_, A28, c29, (hG18.trans hG24), rfl, H25, hs30⟩
 replace b := ifF b hb12
 refine qn (vb hb12) (wp_skip (qe (wp_seq (qc (qb (qa (.int .i64 a0) rfl) ?_)))))
 obtain ⟨r31, hr32, b⟩ := qu b
 refine qo (vs := [(.int .i64 a0)]) en221 rfl (pr11_never_ok k H hr32) ?_
 rintro v37 w36 ⟨G33, A38, c39, hG34, rfl, H35, hs40⟩
 refine qb (qa (.slice A38 r31.1.length c39) rfl) (qb (qa (.int .i64 r31.2.1) rfl) (qb (qa (.bool r31.2.2) rfl) (qb (qa (.slice A38 r31.1.length c39) rfl) (qb (qa (.int .i64 r31.2.1) rfl) (qb (qa (.bool r31.2.2) rfl) (qd (qe (wp_ret ?_))))))))
 have b := yq b
 subst b
 exact qt rfl (RV.tmp rfl (RV.tmp rfl (RV.tmp rfl RV.nil))) ⟨_, A38, c39, hG34, rfl, H35, hs40⟩

theorem pr11_down_ok {c : World} (k : Hc c) {G : qk} {w : World} {σ : List Ent} {a0 : Int}  (H : St c G w (σ)) {r : ((List Int) × Int × Bool)} (b : pr11_down a0 = some r) :
  Calls Tryz.prog 223 ([(.int .i64 a0)] : List Value).toArray w (zu fun v w' => ∃ (G' : qk) (A1' : Option Addr) (c2' : Nat), GLe G G' ∧ tup [(.slice A1' r.1.length c2'), (.int .i64 r.2.1), (.bool r.2.2)] = v ∧ St c G' w' (σ) ∧ SlR kI G' A1' c2' r.1) := by
 unfold pr11_down at b
 refine qG Tryz.func223 rfl rfl rfl (wp_seq (qc (qb (qa (.slice none 0 0) rfl) (qb (qa (.int .i64 0) rfl) (qb (qa (.bool false) rfl) (qd (qe (wp_seq (wp_seq (qc (qb (qa (.int .i64 a0) rfl) (qd (qe ?_)))))))))))))
 refine wp_block ?_
 refine wp_seq (join (fun a w => ∃ (T0 G1 : _) (x2 : Bool), a = mk 39 (qQ T0 [(0, (.int .i64 a0)), (5, (.int .i64 a0)), (6, (.bool x2))]) ∧ GLe G G1 ∧ St c G1 w (σ) ∧ pr11_down_j1 a0 x2 = some r) ?_ ?_)
 ·rintro a w ⟨T0, G5, x2, rfl, hG3, H4, b⟩
  rcases qm x2 with hb6 | hb6
  ·replace b := ifT b hb6
   refine qs (vb hb6) (wp_seq (qc (qb (qa (.int .i64 a0) rfl) ?_)))
   obtain ⟨r7, hr8, b⟩ := qu b
   refine qo (vs := [(.int .i64 a0)]) en221 rfl (pr11_never_ok k H4 hr8) ?_
   rintro v13 w12 ⟨G9, A14, c15, hG10, rfl, H11, hs16⟩
   refine qb (qa (.slice A14 r7.1.length c15) rfl) (qb (qa (.int .i64 r7.2.1) rfl) (qb (qa (.bool r7.2.2) rfl) (qb (qa (.slice A14 r7.1.length c15) rfl) (qb (qa (.int .i64 r7.2.1) rfl) (qb (qa (.bool r7.2.2) rfl) (qd (qe (wp_ret (zg (qI ?_))))))))))
   have b := yq b
   subst b
   exact qt rfl (RV.tmp rfl (RV.tmp rfl (RV.tmp rfl RV.nil))) ⟨_, A14, c15, (hG3.trans hG10), rfl, H11, hs16⟩
  replace b := ifF b hb6
  refine qn (vb hb6) ?_
  refine wp_seq (join (fun a w => ∃ (T0 G1 : _) (x18 : Bool), a = mk 39 (qQ T0 [(5, (.int .i64 a0)), (14, (.bool x18))]) ∧ GLe G5 G1 ∧ St c G1 w (σ) ∧ pr11_down_j2 a0 x18 = some r) ?_ ?_)
  ·rintro a w ⟨T0, G21, x18, rfl, hG19, H20, b⟩
   rcases qm x18 with hb22 | hb22
   ·replace b := ifT b hb22
    refine qs (vb hb22) (wp_seq (qc ?_))
    obtain ⟨r23, hr24, b⟩ := qu b
    refine qo (vs := [(.int .i64 0)]) en233 rfl (zl k H20 hr24) ?_
    rintro v29 w28 ⟨G25, A30, c31, hG26, rfl, H27, hs32⟩
    refine qb (qa (.slice A30 r23.1.length c31) rfl) (qb (qa (.int .i64 r23.2.1) rfl) (qb (qa (.bool r23.2.2) rfl) (qb (qa (.slice A30 r23.1.length c31) rfl) (qb (qa (.int .i64 r23.2.1) rfl) (qb (qa (.bool r23.2.2) rfl) (qd (qe (wp_ret (zg (qI ?_))))))))))
    have b := yq b
    subst b
    exact qt rfl (RV.tmp rfl (RV.tmp rfl (RV.tmp rfl RV.nil))) ⟨_, A30, c31, ((hG3.trans hG19).trans hG26), rfl, H27, hs32⟩
   replace b := ifF b hb22
   refine qn (vb hb22) (wp_seq (qc ?_))
   iterate 2 refine qb (qa (.bool (a0 == 3)) rfl) ?_
   refine qd (qe ?_)
   rcases qm (a0 == 3) with hb33 | hb33
   ·replace b := ifT b hb33
    refine qs (vb hb33) (wp_seq (qc ?_))
    refine zh (K := kI) (vs := [(.int .i64 3)]) (xs := ([3] : (List Int))) H20 xX el3 rfl ⟨((qz .i64).toV _ _), yp⟩ rfl (by decide) ?_
    intro g34 w36 H35
    obtain ⟨G38, hG39, H40, hs41⟩ := H35.stay (i := 0) rfl (H35.capA (i := 0) rfl)
    obtain ⟨r42, hr43, b⟩ := qu b
    refine qo (vs := [(.int .i64 1), (.slice (some ⟨g34, 0, none⟩) ([3] : (List Int)).length 1)]) en231 rfl (qK k hs41 H40 hr43) ?_
    rintro v48 w47 ⟨G44, A49, c50, hG45, rfl, H46, hs51⟩
    refine qb (qa (.slice A49 r42.1.length c50) rfl) (qb (qa (.int .i64 r42.2.1) rfl) (qb (qa (.bool r42.2.2) rfl) (qb (qa (.slice A49 r42.1.length c50) rfl) (qb (qa (.int .i64 r42.2.1) rfl) (qb (qa (.bool r42.2.2) rfl) (qd (qe (wp_ret (zg (qI ?_))))))))))
    have b := yq b
    subst b
    exact qt rfl (RV.tmp rfl (RV.tmp rfl (RV.tmp rfl RV.nil))) ⟨_, A49, c50, (((hG3.trans hG19).trans hG39).trans hG45), rfl, H46, hs51⟩
   replace b := ifF b hb33
   refine qn (vb hb33) (wp_seq (qc ?_))
   iterate 2 refine qb (qa (.bool (a0 == 9)) rfl) ?_
   refine qd (qe ?_)
   rcases qm (a0 == 9) with hb52 | hb52
   ·replace b := ifT b hb52
    refine qs (vb hb52) (wp_seq (qc ?_))
    refine zh (K := kI) (vs := [(.int .i64 2)]) (xs := ([2] : (List Int))) H20 xX el3 rfl ⟨((qz .i64).toV _ _), yp⟩ rfl (by decide) ?_
    intro g53 w55 H54
    obtain ⟨G57, hG58, H59, hs60⟩ := H54.stay (i := 0) rfl (H54.capA (i := 0) rfl)
    obtain ⟨r61, hr62, b⟩ := qu b
    refine qo (vs := [(.int .i64 1), (.slice (some ⟨g53, 0, none⟩) ([2] : (List Int)).length 1)]) en231 rfl (qK k hs60 H59 hr62) ?_
    rintro v67 w66 ⟨G63, A68, c69, hG64, rfl, H65, hs70⟩
    refine qb (qa (.slice A68 r61.1.length c69) rfl) (qb (qa (.int .i64 r61.2.1) rfl) (qb (qa (.bool r61.2.2) rfl) (qb (qa (.slice A68 r61.1.length c69) rfl) (qb (qa (.int .i64 r61.2.1) rfl) (qb (qa (.bool r61.2.2) rfl) (qd (qe (wp_ret (zg (qI ?_))))))))))
    have b := yq b
    subst b
    exact qt rfl (RV.tmp rfl (RV.tmp rfl (RV.tmp rfl RV.nil))) ⟨_, A68, c69, (((hG3.trans hG19).trans hG58).trans hG64), rfl, H65, hs70⟩
   replace b := ifF b hb52
   refine qn (vb hb52) (wp_skip (zn (qe (wp_seq (qc ?_)))))
   obtain ⟨r71, hr72, b⟩ := qu b
   refine qo (vs := [(.int .i64 1)]) en233 rfl (zl k H20 hr72) ?_
   rintro v77 w76 ⟨G73, A78, c79, hG74, rfl, H75, hs80⟩
   refine qb (qa (.slice A78 r71.1.length c79) rfl) (qb (qa (.int .i64 r71.2.1) rfl) (qb (qa (.bool r71.2.2) rfl) (qb (qa (.slice A78 r71.1.length c79) rfl) (qb (qa (.int .i64 r71.2.1) rfl) (qb (qa (.bool r71.2.2) rfl) (qd (qe (wp_ret ?_))))))))
   have b := yq b
   subst b
   exact qt rfl (RV.tmp rfl (RV.tmp rfl (RV.tmp rfl RV.nil))) ⟨_, A78, c79, ((hG3.trans hG19).trans hG74), rfl, H75, hs80⟩
  refine wp_seq (qc ?_)
  iterate 2 refine qb (qa (.bool (a0 == 2)) rfl) ?_
  refine qd (qe ?_)
  rcases qm (a0 == 2) with hb81 | hb81
  ·replace b := ifT b hb81
   refine qs (vb hb81) (wp_skip (qe ?_))
   exact ⟨_, _, (a0 == 2), qf _ ⟨rfl, rfl, yp⟩, GLe.refl _, H4, b⟩
  replace b := ifF b hb81
  refine qn (vb hb81) (qc ?_)
  iterate 2 refine qb (qa (.bool (a0 == 4)) rfl) ?_
  refine qd (qe ?_)
  exact ⟨_, _, (a0 == 4), qf _ ⟨rfl, rfl, yp⟩, GLe.refl _, H4, b⟩
 refine wp_seq (qc ?_)
 iterate 2 refine qb (qa (.bool (a0 == 0)) rfl) ?_
 refine qd (qe ?_)
 rcases qm (a0 == 0) with hb82 | hb82
 ·replace b := ifT b hb82
  refine qs (vb hb82) (wp_skip (qe ?_))
  exact ⟨_, _, (a0 == 0), qf _ ⟨rfl, rfl, rfl, yp⟩, GLe.refl _, H, b⟩
 replace b := ifF b hb82
 refine qn (vb hb82) (qc ?_)
 iterate 2 refine qb (qa (.bool (a0 == 1)) rfl) ?_
 refine qd (qe ?_)
 exact ⟨_, _, (a0 == 1), qf _ ⟨rfl, rfl, rfl, yp⟩, GLe.refl _, H, b⟩

theorem pr11_opened_ok {c : World} (k : Hc c) {G : qk} {w : World} {σ : List Ent} {a0 : Int}  (H : St c G w (σ)) {r : ((List Int) × Int × Bool)} (b : pr11_opened a0 = some r) :
  Calls Tryz.prog 224 ([(.int .i64 a0)] : List Value).toArray w (zu fun v w' => ∃ (G' : qk) (A1' : Option Addr) (c2' : Nat), GLe G G' ∧ tup [(.slice A1' r.1.length c2'), (.int .i64 r.2.1), (.bool r.2.2)] = v ∧ St c G' w' (σ) ∧ SlR kI G' A1' c2' r.1) := by
 unfold pr11_opened at b
 refine qG Tryz.func224 rfl rfl rfl (wp_seq (qc (qb (qa (.slice none 0 0) rfl) (qb (qa (.int .i64 0) rfl) (qb (qa (.bool false) rfl) (qd (qe (wp_seq (wp_seq (qc (qb (qa (.int .i64 a0) rfl) (qd (qe ?_)))))))))))))
 refine wp_block (wp_seq (qc ?_))
 iterate 2 refine qb (qa (.bool (a0 == 0)) rfl) ?_
 refine qd (qe ?_)
 rcases qm (a0 == 0) with hb1 | hb1
 ·replace b := ifT b hb1
  refine qs (vb hb1) (wp_seq (qc ?_))
  refine zh (K := kI) (vs := [(.int .i64 3)]) (xs := ([3] : (List Int))) H xX el3 rfl ⟨((qz .i64).toV _ _), yp⟩ rfl (by decide) ?_
  intro g2 w4 H3
  obtain ⟨G6, hG7, H8, hs9⟩ := H3.stay (i := 0) rfl (H3.capA (i := 0) rfl)
  obtain ⟨r10, hr11, b⟩ := qu b
  refine qo (vs := [(.int .i64 1), (.slice (some ⟨g2, 0, none⟩) ([3] : (List Int)).length 1)]) en231 rfl (qK k hs9 H8 hr11) ?_
  rintro v16 w15 ⟨G12, A17, c18, hG13, rfl, H14, hs19⟩
  refine qb (qa (.slice A17 r10.1.length c18) rfl) (qb (qa (.int .i64 r10.2.1) rfl) (qb (qa (.bool r10.2.2) rfl) (qb (qa (.slice A17 r10.1.length c18) rfl) (qb (qa (.int .i64 r10.2.1) rfl) (qb (qa (.bool r10.2.2) rfl) (qd (qe (wp_ret (zg (qI ?_))))))))))
  have b := yq b
  subst b
  exact qt rfl (RV.tmp rfl (RV.tmp rfl (RV.tmp rfl RV.nil))) ⟨_, A17, c18, (hG7.trans hG13), rfl, H14, hs19⟩
 replace b := ifF b hb1
 refine qn (vb hb1) (wp_seq (qc ?_))
 iterate 2 refine qb (qa (.bool (a0 == 2)) rfl) ?_
 refine qd (qe ?_)
 rcases qm (a0 == 2) with hb20 | hb20
 ·replace b := ifT b hb20
  refine qs (vb hb20) (wp_seq (qc ?_))
  refine zh (K := kI) (vs := [(.int .i64 5), (.int .i64 7)]) (xs := ([5, 7] : (List Int))) H xX el3 rfl ⟨((qz .i64).toV _ _), ((qz .i64).toV _ _), yp⟩ rfl (by decide) ?_
  intro g21 w23 H22
  obtain ⟨G25, hG26, H27, hs28⟩ := H22.stay (i := 0) rfl (H22.capA (i := 0) rfl)
  obtain ⟨r29, hr30, b⟩ := qu b
  refine qo (vs := [(.int .i64 6), (.slice (some ⟨g21, 0, none⟩) ([5, 7] : (List Int)).length 2)]) en231 rfl (qK k hs28 H27 hr30) ?_
  rintro v35 w34 ⟨G31, A36, c37, hG32, rfl, H33, hs38⟩
  refine qb (qa (.slice A36 r29.1.length c37) rfl) (qb (qa (.int .i64 r29.2.1) rfl) (qb (qa (.bool r29.2.2) rfl) (qb (qa (.slice A36 r29.1.length c37) rfl) (qb (qa (.int .i64 r29.2.1) rfl) (qb (qa (.bool r29.2.2) rfl) (qd (qe (wp_ret (zg (qI ?_))))))))))
  have b := yq b
  subst b
  exact qt rfl (RV.tmp rfl (RV.tmp rfl (RV.tmp rfl RV.nil))) ⟨_, A36, c37, (hG26.trans hG32), rfl, H33, hs38⟩
 replace b := ifF b hb20
 refine qn (vb hb20) (wp_seq (qc ?_))
 iterate 2 refine qb (qa (.bool (a0 == 4)) rfl) ?_
 refine qd (qe ?_)
 rcases qm (a0 == 4) with hb39 | hb39
 ·replace b := ifT b hb39
  refine qs (vb hb39) (wp_seq (qc ?_))
  obtain ⟨r40, hr41, b⟩ := qu b
  refine qo (vs := [(.int .i64 5)]) en233 rfl (zl k H hr41) ?_
  rintro v46 w45 ⟨G42, A47, c48, hG43, rfl, H44, hs49⟩
  refine qb (qa (.slice A47 r40.1.length c48) rfl) (qb (qa (.int .i64 r40.2.1) rfl) (qb (qa (.bool r40.2.2) rfl) (qb (qa (.slice A47 r40.1.length c48) rfl) (qb (qa (.int .i64 r40.2.1) rfl) (qb (qa (.bool r40.2.2) rfl) (qd (qe (wp_ret (zg (qI ?_))))))))))
  have b := yq b
  subst b
  exact qt rfl (RV.tmp rfl (RV.tmp rfl (RV.tmp rfl RV.nil))) ⟨_, A47, c48, hG43, rfl, H44, hs49⟩
 replace b := ifF b hb39
 refine qn (vb hb39) (wp_skip (zn (qe (wp_seq (qc (qb (qa (.int .i64 a0) rfl) ?_))))))
 obtain ⟨r50, hr51, b⟩ := qu b
 refine qo (vs := [(.int .i64 a0)]) en233 rfl (zl k H hr51) ?_
 rintro v56 w55 ⟨G52, A57, c58, hG53, rfl, H54, hs59⟩
 refine qb (qa (.slice A57 r50.1.length c58) rfl) (qb (qa (.int .i64 r50.2.1) rfl) (qb (qa (.bool r50.2.2) rfl) (qb (qa (.slice A57 r50.1.length c58) rfl) (qb (qa (.int .i64 r50.2.1) rfl) (qb (qa (.bool r50.2.2) rfl) (qd (qe (wp_ret ?_))))))))
 have b := yq b
 subst b
 exact qt rfl (RV.tmp rfl (RV.tmp rfl (RV.tmp rfl RV.nil))) ⟨_, A57, c58, hG53, rfl, H54, hs59⟩

theorem pr11_closed_ok {c : World} (k : Hc c) {G : qk} {w : World} {σ : List Ent} {a0 : Int}  (H : St c G w (σ)) {r : ((List Int) × Int × Bool)} (b : pr11_closed a0 = some r) :
  Calls Tryz.prog 225 ([(.int .i64 a0)] : List Value).toArray w (zu fun v w' => ∃ (G' : qk) (A1' : Option Addr) (c2' : Nat), GLe G G' ∧ tup [(.slice A1' r.1.length c2'), (.int .i64 r.2.1), (.bool r.2.2)] = v ∧ St c G' w' (σ) ∧ SlR kI G' A1' c2' r.1) := by
 unfold pr11_closed at b
 refine qG Tryz.func225 rfl rfl rfl (wp_seq (qc (qb (qa (.slice none 0 0) rfl) (qb (qa (.int .i64 0) rfl) (qb (qa (.bool false) rfl) (qd (qe (wp_seq (wp_seq (qc (qb (qa (.int .i64 a0) rfl) (qd (qe ?_)))))))))))))
 refine wp_block (wp_seq (qc ?_))
 iterate 2 refine qb (qa (.bool (a0 == 1)) rfl) ?_
 refine qd (qe ?_)
 rcases qm (a0 == 1) with hb1 | hb1
 ·replace b := ifT b hb1
  refine qs (vb hb1) (wp_seq (qc ?_))
  refine zh (K := kI) (vs := [(.int .i64 4)]) (xs := ([4] : (List Int))) H xX el3 rfl ⟨((qz .i64).toV _ _), yp⟩ rfl (by decide) ?_
  intro g2 w4 H3
  obtain ⟨G6, hG7, H8, hs9⟩ := H3.stay (i := 0) rfl (H3.capA (i := 0) rfl)
  obtain ⟨r10, hr11, b⟩ := qu b
  refine qo (vs := [(.int .i64 0), (.slice (some ⟨g2, 0, none⟩) ([4] : (List Int)).length 1)]) en231 rfl (qK k hs9 H8 hr11) ?_
  rintro v16 w15 ⟨G12, A17, c18, hG13, rfl, H14, hs19⟩
  refine qb (qa (.slice A17 r10.1.length c18) rfl) (qb (qa (.int .i64 r10.2.1) rfl) (qb (qa (.bool r10.2.2) rfl) (qb (qa (.slice A17 r10.1.length c18) rfl) (qb (qa (.int .i64 r10.2.1) rfl) (qb (qa (.bool r10.2.2) rfl) (qd (qe (wp_ret (zg (qI ?_))))))))))
  have b := yq b
  subst b
  exact qt rfl (RV.tmp rfl (RV.tmp rfl (RV.tmp rfl RV.nil))) ⟨_, A17, c18, (hG7.trans hG13), rfl, H14, hs19⟩
 replace b := ifF b hb1
 refine qn (vb hb1) (wp_seq (qc ?_))
 iterate 2 refine qb (qa (.bool (a0 == 3)) rfl) ?_
 refine qd (qe ?_)
 rcases qm (a0 == 3) with hb20 | hb20
 ·replace b := ifT b hb20
  refine qs (vb hb20) (wp_seq (qc ?_))
  obtain ⟨r21, hr22, b⟩ := qu b
  refine qo (vs := [(.int .i64 2)]) en233 rfl (zl k H hr22) ?_
  rintro v27 w26 ⟨G23, A28, c29, hG24, rfl, H25, hs30⟩
  refine qb (qa (.slice A28 r21.1.length c29) rfl) (qb (qa (.int .i64 r21.2.1) rfl) (qb (qa (.bool r21.2.2) rfl) (qb (qa (.slice A28 r21.1.length c29) rfl) (qb (qa (.int .i64 r21.2.1) rfl) (qb (qa (.bool r21.2.2) rfl) (qd (qe (wp_ret (zg (qI ?_))))))))))
  have b := yq b
  subst b
  exact qt rfl (RV.tmp rfl (RV.tmp rfl (RV.tmp rfl RV.nil))) ⟨_, A28, c29, hG24, rfl, H25, hs30⟩
 replace b := ifF b hb20
 refine qn (vb hb20) (wp_seq (qc ?_))
 iterate 2 refine qb (qa (.bool (a0 == 5)) rfl) ?_
 refine qd (qe ?_)
 rcases qm (a0 == 5) with hb31 | hb31
 ·replace b := ifT b hb31
  refine qs (vb hb31) (wp_seq (qc ?_))
  obtain ⟨r32, hr33, b⟩ := qu b
  refine qo (vs := [(.int .i64 4)]) en233 rfl (zl k H hr33) ?_
  rintro v38 w37 ⟨G34, A39, c40, hG35, rfl, H36, hs41⟩
  refine qb (qa (.slice A39 r32.1.length c40) rfl) (qb (qa (.int .i64 r32.2.1) rfl) (qb (qa (.bool r32.2.2) rfl) (qb (qa (.slice A39 r32.1.length c40) rfl) (qb (qa (.int .i64 r32.2.1) rfl) (qb (qa (.bool r32.2.2) rfl) (qd (qe (wp_ret (zg (qI ?_))))))))))
  have b := yq b
  subst b
  exact qt rfl (RV.tmp rfl (RV.tmp rfl (RV.tmp rfl RV.nil))) ⟨_, A39, c40, hG35, rfl, H36, hs41⟩
 replace b := ifF b hb31
 refine qn (vb hb31) ?_
 refine wp_seq (join (fun a w => ∃ (T0 G1 : _) (x44 : Bool), a = mk 46 (qQ T0 [(0, (.int .i64 a0)), (5, (.int .i64 a0)), (25, (.bool x44))]) ∧ GLe G G1 ∧ St c G1 w (σ) ∧ pr11_closed_j1 a0 x44 = some r) ?_ ?_)
 ·rintro a w ⟨T0, G47, x44, rfl, hG45, H46, b⟩
  rcases qm x44 with hb48 | hb48
  ·replace b := ifT b hb48
   refine qs (vb hb48) (wp_seq (qc ?_))
   refine zh (K := kI) (vs := [(.int .i64 5), (.int .i64 10)]) (xs := ([5, 10] : (List Int))) H46 xX el3 rfl ⟨((qz .i64).toV _ _), ((qz .i64).toV _ _), yp⟩ rfl (by decide) ?_
   intro g49 w51 H50
   obtain ⟨G53, hG54, H55, hs56⟩ := H50.stay (i := 0) rfl (H50.capA (i := 0) rfl)
   obtain ⟨r57, hr58, b⟩ := qu b
   refine qo (vs := [(.int .i64 4), (.slice (some ⟨g49, 0, none⟩) ([5, 10] : (List Int)).length 2)]) en231 rfl (qK k hs56 H55 hr58) ?_
   rintro v63 w62 ⟨G59, A64, c65, hG60, rfl, H61, hs66⟩
   refine qb (qa (.slice A64 r57.1.length c65) rfl) (qb (qa (.int .i64 r57.2.1) rfl) (qb (qa (.bool r57.2.2) rfl) (qb (qa (.slice A64 r57.1.length c65) rfl) (qb (qa (.int .i64 r57.2.1) rfl) (qb (qa (.bool r57.2.2) rfl) (qd (qe (wp_ret (zg (qI ?_))))))))))
   have b := yq b
   subst b
   exact qt rfl (RV.tmp rfl (RV.tmp rfl (RV.tmp rfl RV.nil))) ⟨_, A64, c65, ((hG45.trans hG54).trans hG60), rfl, H61, hs66⟩
  replace b := ifF b hb48
  refine qn (vb hb48) (wp_seq (qc ?_))
  iterate 2 refine qb (qa (.bool (a0 == 9)) rfl) ?_
  refine qd (qe ?_)
  rcases qm (a0 == 9) with hb67 | hb67
  ·replace b := ifT b hb67
   refine qs (vb hb67) (wp_seq (qc ?_))
   refine zh (K := kI) (vs := [(.int .i64 2), (.int .i64 5), (.int .i64 10)]) (xs := ([2, 5, 10] : (List Int))) H46 xX el3 rfl ⟨((qz .i64).toV _ _), ((qz .i64).toV _ _), ((qz .i64).toV _ _), yp⟩ rfl (by decide) ?_
   intro g68 w70 H69
   obtain ⟨G72, hG73, H74, hs75⟩ := H69.stay (i := 0) rfl (H69.capA (i := 0) rfl)
   obtain ⟨r76, hr77, b⟩ := qu b
   refine qo (vs := [(.int .i64 4), (.slice (some ⟨g68, 0, none⟩) ([2, 5, 10] : (List Int)).length 3)]) en231 rfl (qK k hs75 H74 hr77) ?_
   rintro v82 w81 ⟨G78, A83, c84, hG79, rfl, H80, hs85⟩
   refine qb (qa (.slice A83 r76.1.length c84) rfl) (qb (qa (.int .i64 r76.2.1) rfl) (qb (qa (.bool r76.2.2) rfl) (qb (qa (.slice A83 r76.1.length c84) rfl) (qb (qa (.int .i64 r76.2.1) rfl) (qb (qa (.bool r76.2.2) rfl) (qd (qe (wp_ret (zg (qI ?_))))))))))
   have b := yq b
   subst b
   exact qt rfl (RV.tmp rfl (RV.tmp rfl (RV.tmp rfl RV.nil))) ⟨_, A83, c84, ((hG45.trans hG73).trans hG79), rfl, H80, hs85⟩
  replace b := ifF b hb67
  refine qn (vb hb67) (wp_skip (zn (qe (wp_seq (qc (qb (qa (.int .i64 a0) rfl) ?_))))))
  obtain ⟨r86, hr87, b⟩ := qu b
  refine qo (vs := [(.int .i64 a0)]) en233 rfl (zl k H46 hr87) ?_
  rintro v92 w91 ⟨G88, A93, c94, hG89, rfl, H90, hs95⟩
  refine qb (qa (.slice A93 r86.1.length c94) rfl) (qb (qa (.int .i64 r86.2.1) rfl) (qb (qa (.bool r86.2.2) rfl) (qb (qa (.slice A93 r86.1.length c94) rfl) (qb (qa (.int .i64 r86.2.1) rfl) (qb (qa (.bool r86.2.2) rfl) (qd (qe (wp_ret ?_))))))))
  have b := yq b
  subst b
  exact qt rfl (RV.tmp rfl (RV.tmp rfl (RV.tmp rfl RV.nil))) ⟨_, A93, c94, (hG45.trans hG89), rfl, H90, hs95⟩
 refine wp_seq (qc ?_)
 iterate 2 refine qb (qa (.bool (a0 == 6)) rfl) ?_
 refine qd (qe ?_)
 rcases qm (a0 == 6) with hb96 | hb96
 ·replace b := ifT b hb96
  refine qs (vb hb96) (wp_skip (qe ?_))
  exact ⟨_, _, (a0 == 6), qf _ ⟨rfl, rfl, rfl, yp⟩, GLe.refl _, H, b⟩
 replace b := ifF b hb96
 refine qn (vb hb96) (wp_seq (qc ?_))
 iterate 2 refine qb (qa (.bool (a0 == 7)) rfl) ?_
 refine qd (qe ?_)
 rcases qm (a0 == 7) with hb97 | hb97
 ·replace b := ifT b hb97
  refine qs (vb hb97) (wp_skip (qe ?_))
  exact ⟨_, _, (a0 == 7), qf _ ⟨rfl, rfl, rfl, yp⟩, GLe.refl _, H, b⟩
 replace b := ifF b hb97
 refine qn (vb hb97) (qc ?_)
 iterate 2 refine qb (qa (.bool (a0 == 8)) rfl) ?_
 refine qd (qe ?_)
 exact ⟨_, _, (a0 == 8), qf _ ⟨rfl, rfl, rfl, yp⟩, GLe.refl _, H, b⟩

theorem pr11_timeout_ok {c : World} (k : Hc c) {G : qk} {w : World} {σ : List Ent} {a0 : Int} {a1 : Bool}  (H : St c G w (σ)) {r : ((List Int) × Int × Bool)} (b : pr11_timeout a0 a1 = some r) :
  Calls Tryz.prog 226 ([(.int .i64 a0), (.bool a1)] : List Value).toArray w (zu fun v w' => ∃ (G' : qk) (A1' : Option Addr) (c2' : Nat), GLe G G' ∧ tup [(.slice A1' r.1.length c2'), (.int .i64 r.2.1), (.bool r.2.2)] = v ∧ St c G' w' (σ) ∧ SlR kI G' A1' c2' r.1) := by
 unfold pr11_timeout at b
 refine qG Tryz.func226 rfl rfl rfl (wp_seq (qc (qb (qa (.slice none 0 0) rfl) (qb (qa (.int .i64 0) rfl) (qb (qa (.bool false) rfl) (qd (qe (wp_seq ?_))))))))
 refine wp_seq (join (fun a w => ∃ (T0 G1 : _) (x2 : Bool), a = mk 59 (qQ T0 [(0, (.int .i64 a0)), (1, (.bool a1)), (12, (.bool x2))]) ∧ GLe G G1 ∧ St c G1 w (σ) ∧ pr11_timeout_j1 a0 a1 x2 = some r) ?_ ?_)
 ·rintro a w ⟨T0, G5, x2, rfl, hG3, H4, b⟩
  rcases qm x2 with hb6 | hb6
  ·replace b := ifT b hb6
   refine qs (vb hb6) (wp_seq (qc (qb (qa (.int .i64 a0) rfl) ?_)))
   obtain ⟨r7, hr8, b⟩ := qu b
   refine qo (vs := [(.int .i64 a0)]) en221 rfl (pr11_never_ok k H4 hr8) ?_
   rintro v13 w12 ⟨G9, A14, c15, hG10, rfl, H11, hs16⟩
   refine qb (qa (.slice A14 r7.1.length c15) rfl) (qb (qa (.int .i64 r7.2.1) rfl) (qb (qa (.bool r7.2.2) rfl) (qb (qa (.slice A14 r7.1.length c15) rfl) (qb (qa (.int .i64 r7.2.1) rfl) (qb (qa (.bool r7.2.2) rfl) (qd (qe (wp_ret (qI ?_)))))))))
   have b := yq b
   subst b
   exact qt rfl (RV.tmp rfl (RV.tmp rfl (RV.tmp rfl RV.nil))) ⟨_, A14, c15, (hG3.trans hG10), rfl, H11, hs16⟩
  replace b := ifF b hb6
  refine qn (vb hb6) (wp_skip (qe (wp_seq ?_)))
  refine wp_seq (join (fun a w => ∃ (T0 G1 : _) (x18 : Bool), a = mk 59 (qQ T0 [(0, (.int .i64 a0)), (1, (.bool a1)), (23, (.bool x18))]) ∧ GLe G5 G1 ∧ St c G1 w (σ) ∧ pr11_timeout_j2 a0 a1 x18 = some r) ?_ ?_)
  ·rintro a w ⟨T0, G21, x18, rfl, hG19, H20, b⟩
   rcases qm x18 with hb22 | hb22
   ·replace b := ifT b hb22
    refine qs (vb hb22) (wp_seq (qc ?_))
    refine zh (K := kI) (vs := [(.int .i64 4)]) (xs := ([4] : (List Int))) H20 xX el3 rfl ⟨((qz .i64).toV _ _), yp⟩ rfl (by decide) ?_
    intro g23 w25 H24
    obtain ⟨G27, hG28, H29, hs30⟩ := H24.stay (i := 0) rfl (H24.capA (i := 0) rfl)
    obtain ⟨r31, hr32, b⟩ := qu b
    refine qo (vs := [(.int .i64 2), (.slice (some ⟨g23, 0, none⟩) ([4] : (List Int)).length 1)]) en231 rfl (qK k hs30 H29 hr32) ?_
    rintro v37 w36 ⟨G33, A38, c39, hG34, rfl, H35, hs40⟩
    refine qb (qa (.slice A38 r31.1.length c39) rfl) (qb (qa (.int .i64 r31.2.1) rfl) (qb (qa (.bool r31.2.2) rfl) (qb (qa (.slice A38 r31.1.length c39) rfl) (qb (qa (.int .i64 r31.2.1) rfl) (qb (qa (.bool r31.2.2) rfl) (qd (qe (wp_ret (qI ?_)))))))))
    have b := yq b
    subst b
    exact qt rfl (RV.tmp rfl (RV.tmp rfl (RV.tmp rfl RV.nil))) ⟨_, A38, c39, (((hG3.trans hG19).trans hG28).trans hG34), rfl, H35, hs40⟩
   replace b := ifF b hb22
   refine qn (vb hb22) (wp_skip (qe (wp_seq (wp_seq (qc (qb (qa (.bool a1) rfl) (qb (qa (.bool (!a1)) rfl) (qd (qe ?_)))))))))
   rcases qm (!a1) with hb41 | hb41
   ·replace b := ifT b hb41
    refine qs (vb hb41) (wp_seq (qc ?_))
    refine zh (K := kI) (vs := [(.int .i64 4)]) (xs := ([4] : (List Int))) H20 xX el3 rfl ⟨((qz .i64).toV _ _), yp⟩ rfl (by decide) ?_
    intro g42 w44 H43
    obtain ⟨G46, hG47, H48, hs49⟩ := H43.stay (i := 0) rfl (H43.capA (i := 0) rfl)
    obtain ⟨r50, hr51, b⟩ := qu b
    refine qo (vs := [(.int .i64 3), (.slice (some ⟨g42, 0, none⟩) ([4] : (List Int)).length 1)]) en231 rfl (qK k hs49 H48 hr51) ?_
    rintro v56 w55 ⟨G52, A57, c58, hG53, rfl, H54, hs59⟩
    refine qb (qa (.slice A57 r50.1.length c58) rfl) (qb (qa (.int .i64 r50.2.1) rfl) (qb (qa (.bool r50.2.2) rfl) (qb (qa (.slice A57 r50.1.length c58) rfl) (qb (qa (.int .i64 r50.2.1) rfl) (qb (qa (.bool r50.2.2) rfl) (qd (qe (wp_ret (qI ?_)))))))))
    have b := yq b
    subst b
    exact qt rfl (RV.tmp rfl (RV.tmp rfl (RV.tmp rfl RV.nil))) ⟨_, A57, c58, (((hG3.trans hG19).trans hG47).trans hG53), rfl, H54, hs59⟩
   replace b := ifF b hb41
   refine qn (vb hb41) (wp_skip (qe (wp_seq (wp_seq (qc (qb (qa (.int .i64 a0) rfl) (qd (qe (wp_block ?_)))))))))
   refine wp_seq (join (fun a w => ∃ (T0 G1 : _) (x61 : Bool), a = mk 59 (qQ T0 [(0, (.int .i64 a0)), (36, (.int .i64 a0)), (37, (.bool x61))]) ∧ GLe G21 G1 ∧ St c G1 w (σ) ∧ pr11_timeout_j3 a0 x61 = some r) ?_ ?_)
   ·rintro a w ⟨T0, G64, x61, rfl, hG62, H63, b⟩
    rcases qm x61 with hb65 | hb65
    ·replace b := ifT b hb65
     refine qs (vb hb65) (wp_seq (qc (qb (qa (.int .i64 a0) rfl) ?_)))
     refine zh (K := kI) (vs := [(.int .i64 10)]) (xs := ([10] : (List Int))) H63 xX el3 rfl ⟨((qz .i64).toV _ _), yp⟩ rfl (by decide) ?_
     intro g66 w68 H67
     obtain ⟨G70, hG71, H72, hs73⟩ := H67.stay (i := 0) rfl (H67.capA (i := 0) rfl)
     obtain ⟨r74, hr75, b⟩ := qu b
     refine qo (vs := [(.int .i64 a0), (.slice (some ⟨g66, 0, none⟩) ([10] : (List Int)).length 1)]) en231 rfl (qK k hs73 H72 hr75) ?_
     rintro v80 w79 ⟨G76, A81, c82, hG77, rfl, H78, hs83⟩
     refine qb (qa (.slice A81 r74.1.length c82) rfl) (qb (qa (.int .i64 r74.2.1) rfl) (qb (qa (.bool r74.2.2) rfl) (qb (qa (.slice A81 r74.1.length c82) rfl) (qb (qa (.int .i64 r74.2.1) rfl) (qb (qa (.bool r74.2.2) rfl) (qd (qe (wp_ret (zg (qI ?_))))))))))
     have b := yq b
     subst b
     exact qt rfl (RV.tmp rfl (RV.tmp rfl (RV.tmp rfl RV.nil))) ⟨_, A81, c82, ((((hG3.trans hG19).trans hG62).trans hG71).trans hG77), rfl, H78, hs83⟩
    replace b := ifF b hb65
    refine qn (vb hb65) (wp_seq (qc ?_))
    iterate 2 refine qb (qa (.bool (a0 == 7)) rfl) ?_
    refine qd (qe ?_)
    rcases qm (a0 == 7) with hb84 | hb84
    ·replace b := ifT b hb84
     refine qs (vb hb84) (wp_seq (qc ?_))
     refine zh (K := kI) (vs := [(.int .i64 7)]) (xs := ([7] : (List Int))) H63 xX el3 rfl ⟨((qz .i64).toV _ _), yp⟩ rfl (by decide) ?_
     intro g85 w87 H86
     obtain ⟨G89, hG90, H91, hs92⟩ := H86.stay (i := 0) rfl (H86.capA (i := 0) rfl)
     obtain ⟨r93, hr94, b⟩ := qu b
     refine qo (vs := [(.int .i64 6), (.slice (some ⟨g85, 0, none⟩) ([7] : (List Int)).length 1)]) en231 rfl (qK k hs92 H91 hr94) ?_
     rintro v99 w98 ⟨G95, A100, c101, hG96, rfl, H97, hs102⟩
     refine qb (qa (.slice A100 r93.1.length c101) rfl) (qb (qa (.int .i64 r93.2.1) rfl) (qb (qa (.bool r93.2.2) rfl) (qb (qa (.slice A100 r93.1.length c101) rfl) (qb (qa (.int .i64 r93.2.1) rfl) (qb (qa (.bool r93.2.2) rfl) (qd (qe (wp_ret (zg (qI ?_))))))))))
     have b := yq b
     subst b
     exact qt rfl (RV.tmp rfl (RV.tmp rfl (RV.tmp rfl RV.nil))) ⟨_, A100, c101, ((((hG3.trans hG19).trans hG62).trans hG90).trans hG96), rfl, H97, hs102⟩
    replace b := ifF b hb84
    refine qn (vb hb84) (wp_skip (zn (qe (wp_seq (qc (qb (qa (.int .i64 a0) rfl) ?_))))))
    refine zh (K := kI) (vs := [(.int .i64 7)]) (xs := ([7] : (List Int))) H63 xX el3 rfl ⟨((qz .i64).toV _ _), yp⟩ rfl (by decide) ?_
    intro g103 w105 H104
    obtain ⟨G107, hG108, H109, hs110⟩ := H104.stay (i := 0) rfl (H104.capA (i := 0) rfl)
    obtain ⟨r111, hr112, b⟩ := qu b
    refine qo (vs := [(.int .i64 a0), (.slice (some ⟨g103, 0, none⟩) ([7] : (List Int)).length 1)]) en231 rfl (qK k hs110 H109 hr112) ?_
    rintro v117 w116 ⟨G113, A118, c119, hG114, rfl, H115, hs120⟩
    refine qb (qa (.slice A118 r111.1.length c119) rfl) (qb (qa (.int .i64 r111.2.1) rfl) (qb (qa (.bool r111.2.2) rfl) (qb (qa (.slice A118 r111.1.length c119) rfl) (qb (qa (.int .i64 r111.2.1) rfl) (qb (qa (.bool r111.2.2) rfl) (qd (qe (wp_ret ?_))))))))
    have b := yq b
    subst b
    exact qt rfl (RV.tmp rfl (RV.tmp rfl (RV.tmp rfl RV.nil))) ⟨_, A118, c119, ((((hG3.trans hG19).trans hG62).trans hG108).trans hG114), rfl, H115, hs120⟩
   refine wp_seq (qc ?_)
   iterate 2 refine qb (qa (.bool (a0 == 4)) rfl) ?_
   refine qd (qe ?_)
   rcases qm (a0 == 4) with hb121 | hb121
   ·replace b := ifT b hb121
    refine qs (vb hb121) (wp_skip (qe ?_))
    exact ⟨_, _, (a0 == 4), qf _ ⟨rfl, rfl, rfl, yp⟩, GLe.refl _, H20, b⟩
   replace b := ifF b hb121
   refine qn (vb hb121) (qc ?_)
   iterate 2 refine qb (qa (.bool (a0 == 5)) rfl) ?_
   refine qd (qe ?_)
   exact ⟨_, _, (a0 == 5), qf _ ⟨rfl, rfl, rfl, yp⟩, GLe.refl _, H20, b⟩
  refine qc (qb (qa (.bool a1) rfl) ?_)
  iterate 2 refine qb (qa (.bool (!a1)) rfl) ?_
  rcases qm (!a1) with hb122 | hb122
  ·replace b := ifT b hb122
   refine qj rfl rfl rfl (vb hb122) (qb (qa (.int .i64 a0) rfl) (qj rfl rfl rfl (vb hb122) (qb (qa (.bool (a0 == 4)) rfl) (qb (qB (.bool (a0 == 4)) (vb hb122) rfl) (qd (qe ?_))))))
   exact ⟨_, _, (a0 == 4), qf _ ⟨rfl, rfl, rfl, yp⟩, GLe.refl _, H4, b⟩
  replace b := ifF b hb122
  iterate 2 refine qJ rfl rfl rfl (vb hb122) ?_
  refine qb (qr (.bool false) (vb hb122) rfl) (qd (qe ?_))
  exact ⟨_, _, false, qf _ ⟨rfl, rfl, rfl, yp⟩, GLe.refl _, H4, b⟩
 refine qc (qb (qa (.int .i64 a0) rfl) ?_)
 iterate 2 refine qb (qa (.bool (decide (a0 < 4))) rfl) ?_
 rcases qm (decide (a0 < 4)) with hb123 | hb123
 ·replace b := ifT b hb123
  iterate 2 refine qJ rfl rfl rfl (vb hb123) ?_
  refine qb (qB (.bool true) (vb hb123) rfl) (qd (qe ?_))
  exact ⟨_, _, true, qf _ ⟨rfl, rfl, rfl, yp⟩, GLe.refl _, H, b⟩
 replace b := ifF b hb123
 refine qj rfl rfl rfl (vb hb123) (qb (qa (.int .i64 a0) rfl) (qj rfl rfl rfl (vb hb123) (qb (qa (.bool (decide (a0 > 8))) rfl) (qb (qr (.bool (decide (a0 > 8))) (vb hb123) rfl) (qd (qe ?_))))))
 exact ⟨_, _, (decide (a0 > 8)), qf _ ⟨rfl, rfl, rfl, yp⟩, GLe.refl _, H, b⟩

theorem pr11_request_ok {c : World} (k : Hc c) {G : qk} {w : World} {σ : List Ent} {a0 : Int} {a1 : Bool} {a2 : Int}  (H : St c G w (σ)) {r : ((List Int) × Int × Bool)} (b : pr11_request a0 a1 a2 = some r) :
  Calls Tryz.prog 227 ([(.int .i64 a0), (.bool a1), (.int .i64 a2)] : List Value).toArray w (zu fun v w' => ∃ (G' : qk) (A1' : Option Addr) (c2' : Nat), GLe G G' ∧ tup [(.slice A1' r.1.length c2'), (.int .i64 r.2.1), (.bool r.2.2)] = v ∧ St c G' w' (σ) ∧ SlR kI G' A1' c2' r.1) := by
 unfold pr11_request at b
 refine qG Tryz.func227 rfl rfl rfl (wp_seq (qc (qb (qa (.slice none 0 0) rfl) (qb (qa (.int .i64 0) rfl) (qb (qa (.bool false) rfl) (qd (qe (wp_seq (qc (qb (qa (.int .i64 6) rfl) (qd (qe ?_))))))))))))
 refine wp_seq (join (fun a w => ∃ (T0 G1 : _) (x2 : Int), a = mk 67 (qQ T0 [(0, (.int .i64 a0)), (1, (.bool a1)), (2, (.int .i64 a2)), (9, (.int .i64 x2))]) ∧ GLe G G1 ∧ St c G1 w (σ) ∧ pr11_request_j1 a0 a1 a2 x2 = some r) ?_ ?_)
 ·rintro a w ⟨T0, G5, x2, rfl, hG3, H4, b⟩
  refine wp_seq (wp_seq (qc (qb (qa (.int .i64 a0) rfl) (qd (qe (wp_block (wp_seq (qc ?_))))))))
  iterate 2 refine qb (qa (.bool (a0 == 2)) rfl) ?_
  refine qd (qe ?_)
  rcases qm (a0 == 2) with hb6 | hb6
  ·replace b := ifT b hb6
   refine qs (vb hb6) (wp_seq (qc ?_))
   refine zh (K := kI) (vs := [(.int .i64 11)]) (xs := ([11] : (List Int))) H4 xX el3 rfl ⟨((qz .i64).toV _ _), yp⟩ rfl (by decide) ?_
   intro g7 w9 H8
   obtain ⟨G11, hG12, H13, hs14⟩ := H8.stay (i := 0) rfl (H8.capA (i := 0) rfl)
   obtain ⟨r15, hr16, b⟩ := qu b
   refine qo (vs := [(.int .i64 2), (.slice (some ⟨g7, 0, none⟩) ([11] : (List Int)).length 1)]) en231 rfl (qK k hs14 H13 hr16) ?_
   rintro v21 w20 ⟨G17, A22, c23, hG18, rfl, H19, hs24⟩
   refine qb (qa (.slice A22 r15.1.length c23) rfl) (qb (qa (.int .i64 r15.2.1) rfl) (qb (qa (.bool r15.2.2) rfl) (qb (qa (.slice A22 r15.1.length c23) rfl) (qb (qa (.int .i64 r15.2.1) rfl) (qb (qa (.bool r15.2.2) rfl) (qd (qe (wp_ret (zg (qI ?_))))))))))
   have b := yq b
   subst b
   exact qt rfl (RV.tmp rfl (RV.tmp rfl (RV.tmp rfl RV.nil))) ⟨_, A22, c23, ((hG3.trans hG12).trans hG18), rfl, H19, hs24⟩
  replace b := ifF b hb6
  refine qn (vb hb6) (wp_seq (qc ?_))
  iterate 2 refine qb (qa (.bool (a0 == 3)) rfl) ?_
  refine qd (qe ?_)
  rcases qm (a0 == 3) with hb25 | hb25
  ·replace b := ifT b hb25
   refine qs (vb hb25) (wp_seq (qc (qb (qa (.int .i64 x2) rfl) (qb (qa (.int .i64 a2) rfl) ?_))))
   refine zh (K := kI) (vs := [(.int .i64 5), (.int .i64 7), (.int .i64 a2)]) (xs := ([5, 7, a2] : (List Int))) H4 xX el3 rfl ⟨((qz .i64).toV _ _), ((qz .i64).toV _ _), ((qz .i64).toV _ _), yp⟩ rfl (by decide) ?_
   intro g26 w28 H27
   obtain ⟨G30, hG31, H32, hs33⟩ := H27.stay (i := 0) rfl (H27.capA (i := 0) rfl)
   obtain ⟨r34, hr35, b⟩ := qu b
   refine qo (vs := [(.int .i64 x2), (.slice (some ⟨g26, 0, none⟩) ([5, 7, a2] : (List Int)).length 3)]) en231 rfl (qK k hs33 H32 hr35) ?_
   rintro v40 w39 ⟨G36, A41, c42, hG37, rfl, H38, hs43⟩
   refine qb (qa (.slice A41 r34.1.length c42) rfl) (qb (qa (.int .i64 r34.2.1) rfl) (qb (qa (.bool r34.2.2) rfl) (qb (qa (.slice A41 r34.1.length c42) rfl) (qb (qa (.int .i64 r34.2.1) rfl) (qb (qa (.bool r34.2.2) rfl) (qd (qe (wp_ret (zg (qI ?_))))))))))
   have b := yq b
   subst b
   exact qt rfl (RV.tmp rfl (RV.tmp rfl (RV.tmp rfl RV.nil))) ⟨_, A41, c42, ((hG3.trans hG31).trans hG37), rfl, H38, hs43⟩
  replace b := ifF b hb25
  refine qn (vb hb25) ?_
  refine wp_seq (join (fun a w => ∃ (T0 G1 : _) (x45 : Bool), a = mk 67 (qQ T0 [(0, (.int .i64 a0)), (1, (.bool a1)), (2, (.int .i64 a2)), (9, (.int .i64 x2)), (11, (.int .i64 a0)), (28, (.bool x45))]) ∧ GLe G5 G1 ∧ St c G1 w (σ) ∧ pr11_request_j2 a0 a1 a2 x2 x45 = some r) ?_ ?_)
  ·rintro a w ⟨T0, G48, x45, rfl, hG46, H47, b⟩
   rcases qm x45 with hb49 | hb49
   ·replace b := ifT b hb49
    refine qs (vb hb49) (wp_seq (qc (qb (qa (.int .i64 a0) rfl) ?_)))
    obtain ⟨r50, hr51, b⟩ := qu b
    refine qo (vs := [(.int .i64 a0)]) en233 rfl (zl k H47 hr51) ?_
    rintro v56 w55 ⟨G52, A57, c58, hG53, rfl, H54, hs59⟩
    refine qb (qa (.slice A57 r50.1.length c58) rfl) (qb (qa (.int .i64 r50.2.1) rfl) (qb (qa (.bool r50.2.2) rfl) (qb (qa (.slice A57 r50.1.length c58) rfl) (qb (qa (.int .i64 r50.2.1) rfl) (qb (qa (.bool r50.2.2) rfl) (qd (qe (wp_ret (zg (qI ?_))))))))))
    have b := yq b
    subst b
    exact qt rfl (RV.tmp rfl (RV.tmp rfl (RV.tmp rfl RV.nil))) ⟨_, A57, c58, ((hG3.trans hG46).trans hG53), rfl, H54, hs59⟩
   replace b := ifF b hb49
   refine qn (vb hb49) (wp_seq (qc ?_))
   iterate 2 refine qb (qa (.bool (a0 == 7)) rfl) ?_
   refine qd (qe ?_)
   rcases qm (a0 == 7) with hb60 | hb60
   ·replace b := ifT b hb60
    refine qs (vb hb60) (wp_seq (wp_seq (qc (qb (qa (.bool a1) rfl) (qd (qe ?_))))))
    rcases qm a1 with hb61 | hb61
    ·replace b := ifT b hb61
     refine qs (vb hb61) (wp_seq (qc (qb (qa (.int .i64 a2) rfl) ?_)))
     refine zh (K := kI) (vs := [(.int .i64 a2), (.int .i64 1)]) (xs := ([a2, 1] : (List Int))) H47 xX el3 rfl ⟨((qz .i64).toV _ _), ((qz .i64).toV _ _), yp⟩ rfl (by decide) ?_
     intro g62 w64 H63
     obtain ⟨G66, hG67, H68, hs69⟩ := H63.stay (i := 0) rfl (H63.capA (i := 0) rfl)
     obtain ⟨r70, hr71, b⟩ := qu b
     refine qo (vs := [(.int .i64 9), (.slice (some ⟨g62, 0, none⟩) ([a2, 1] : (List Int)).length 2)]) en231 rfl (qK k hs69 H68 hr71) ?_
     rintro v76 w75 ⟨G72, A77, c78, hG73, rfl, H74, hs79⟩
     refine qb (qa (.slice A77 r70.1.length c78) rfl) (qb (qa (.int .i64 r70.2.1) rfl) (qb (qa (.bool r70.2.2) rfl) (qb (qa (.slice A77 r70.1.length c78) rfl) (qb (qa (.int .i64 r70.2.1) rfl) (qb (qa (.bool r70.2.2) rfl) (qd (qe (wp_ret (qI (zg ?_))))))))))
     refine qI ?_
     have b := yq b
     subst b
     exact qt rfl (RV.tmp rfl (RV.tmp rfl (RV.tmp rfl RV.nil))) ⟨_, A77, c78, (((hG3.trans hG46).trans hG67).trans hG73), rfl, H74, hs79⟩
    replace b := ifF b hb61
    refine qn (vb hb61) (wp_skip (qe (wp_seq (qc (qb (qa (.int .i64 a2) rfl) ?_)))))
    refine zh (K := kI) (vs := [(.int .i64 a2)]) (xs := ([a2] : (List Int))) H47 xX el3 rfl ⟨((qz .i64).toV _ _), yp⟩ rfl (by decide) ?_
    intro g80 w82 H81
    obtain ⟨G84, hG85, H86, hs87⟩ := H81.stay (i := 0) rfl (H81.capA (i := 0) rfl)
    obtain ⟨r88, hr89, b⟩ := qu b
    refine qo (vs := [(.int .i64 7), (.slice (some ⟨g80, 0, none⟩) ([a2] : (List Int)).length 1)]) en231 rfl (qK k hs87 H86 hr89) ?_
    rintro v94 w93 ⟨G90, A95, c96, hG91, rfl, H92, hs97⟩
    refine qb (qa (.slice A95 r88.1.length c96) rfl) (qb (qa (.int .i64 r88.2.1) rfl) (qb (qa (.bool r88.2.2) rfl) (qb (qa (.slice A95 r88.1.length c96) rfl) (qb (qa (.int .i64 r88.2.1) rfl) (qb (qa (.bool r88.2.2) rfl) (qd (qe (wp_ret (zg (qI ?_))))))))))
    have b := yq b
    subst b
    exact qt rfl (RV.tmp rfl (RV.tmp rfl (RV.tmp rfl RV.nil))) ⟨_, A95, c96, (((hG3.trans hG46).trans hG85).trans hG91), rfl, H92, hs97⟩
   replace b := ifF b hb60
   refine qn (vb hb60) (wp_seq (qc ?_))
   iterate 2 refine qb (qa (.bool (a0 == 9)) rfl) ?_
   refine qd (qe ?_)
   rcases qm (a0 == 9) with hb98 | hb98
   ·replace b := ifT b hb98
    refine qs (vb hb98) (wp_seq (qc (qb (qa (.int .i64 x2) rfl) (qb (qa (.int .i64 a2) rfl) ?_))))
    refine zh (K := kI) (vs := [(.int .i64 2), (.int .i64 7), (.int .i64 a2)]) (xs := ([2, 7, a2] : (List Int))) H47 xX el3 rfl ⟨((qz .i64).toV _ _), ((qz .i64).toV _ _), ((qz .i64).toV _ _), yp⟩ rfl (by decide) ?_
    intro g99 w101 H100
    obtain ⟨G103, hG104, H105, hs106⟩ := H100.stay (i := 0) rfl (H100.capA (i := 0) rfl)
    obtain ⟨r107, hr108, b⟩ := qu b
    refine qo (vs := [(.int .i64 x2), (.slice (some ⟨g99, 0, none⟩) ([2, 7, a2] : (List Int)).length 3)]) en231 rfl (qK k hs106 H105 hr108) ?_
    rintro v113 w112 ⟨G109, A114, c115, hG110, rfl, H111, hs116⟩
    refine qb (qa (.slice A114 r107.1.length c115) rfl) (qb (qa (.int .i64 r107.2.1) rfl) (qb (qa (.bool r107.2.2) rfl) (qb (qa (.slice A114 r107.1.length c115) rfl) (qb (qa (.int .i64 r107.2.1) rfl) (qb (qa (.bool r107.2.2) rfl) (qd (qe (wp_ret (zg (qI ?_))))))))))
    have b := yq b
    subst b
    exact qt rfl (RV.tmp rfl (RV.tmp rfl (RV.tmp rfl RV.nil))) ⟨_, A114, c115, (((hG3.trans hG46).trans hG104).trans hG110), rfl, H111, hs116⟩
   replace b := ifF b hb98
   refine qn (vb hb98) (wp_skip (zn (qe (wp_seq (qc (qb (qa (.int .i64 x2) rfl) (qb (qa (.int .i64 a2) rfl) ?_)))))))
   refine zh (K := kI) (vs := [(.int .i64 a2)]) (xs := ([a2] : (List Int))) H47 xX el3 rfl ⟨((qz .i64).toV _ _), yp⟩ rfl (by decide) ?_
   intro g117 w119 H118
   obtain ⟨G121, hG122, H123, hs124⟩ := H118.stay (i := 0) rfl (H118.capA (i := 0) rfl)
   obtain ⟨r125, hr126, b⟩ := qu b
   refine qo (vs := [(.int .i64 x2), (.slice (some ⟨g117, 0, none⟩) ([a2] : (List Int)).length 1)]) en231 rfl (qK k hs124 H123 hr126) ?_
   rintro v131 w130 ⟨G127, A132, c133, hG128, rfl, H129, hs134⟩
   refine qb (qa (.slice A132 r125.1.length c133) rfl) (qb (qa (.int .i64 r125.2.1) rfl) (qb (qa (.bool r125.2.2) rfl) (qb (qa (.slice A132 r125.1.length c133) rfl) (qb (qa (.int .i64 r125.2.1) rfl) (qb (qa (.bool r125.2.2) rfl) (qd (qe (wp_ret ?_))))))))
   have b := yq b
   subst b
   exact qt rfl (RV.tmp rfl (RV.tmp rfl (RV.tmp rfl RV.nil))) ⟨_, A132, c133, (((hG3.trans hG46).trans hG122).trans hG128), rfl, H129, hs134⟩
  refine wp_seq (qc ?_)
  iterate 2 refine qb (qa (.bool (a0 == 4)) rfl) ?_
  refine qd (qe ?_)
  rcases qm (a0 == 4) with hb135 | hb135
  ·replace b := ifT b hb135
   refine qs (vb hb135) (wp_skip (qe ?_))
   exact ⟨_, _, (a0 == 4), qf _ ⟨rfl, rfl, rfl, rfl, rfl, rfl, yp⟩, GLe.refl _, H4, b⟩
  replace b := ifF b hb135
  refine qn (vb hb135) (qc ?_)
  iterate 2 refine qb (qa (.bool (a0 == 5)) rfl) ?_
  refine qd (qe ?_)
  exact ⟨_, _, (a0 == 5), qf _ ⟨rfl, rfl, rfl, rfl, rfl, rfl, yp⟩, GLe.refl _, H4, b⟩
 refine wp_seq (qc (qb (qa (.bool a1) rfl) (qd (qe ?_))))
 rcases qm a1 with hb136 | hb136
 ·replace b := ifT b hb136
  refine qs (vb hb136) (qc (qb (qa (.int .i64 8) rfl) (qd (qe ?_))))
  exact ⟨_, _, 8, qf _ ⟨rfl, rfl, rfl, rfl, yp⟩, GLe.refl _, H, b⟩
 replace b := ifF b hb136
 refine qn (vb hb136) (wp_skip (qe ?_))
 exact ⟨_, _, 6, qf _ ⟨rfl, rfl, rfl, rfl, yp⟩, GLe.refl _, H, b⟩

theorem pr11_answer_ok {c : World} (k : Hc c) {G : qk} {w : World} {σ : List Ent} {a0 : Int} {a1 : Bool}  (H : St c G w (σ)) {r : ((List Int) × Int × Bool)} (b : pr11_answer a0 a1 = some r) :
  Calls Tryz.prog 228 ([(.int .i64 a0), (.bool a1)] : List Value).toArray w (zu fun v w' => ∃ (G' : qk) (A1' : Option Addr) (c2' : Nat), GLe G G' ∧ tup [(.slice A1' r.1.length c2'), (.int .i64 r.2.1), (.bool r.2.2)] = v ∧ St c G' w' (σ) ∧ SlR kI G' A1' c2' r.1) := by
 unfold pr11_answer at b
 refine qG Tryz.func228 rfl rfl rfl (wp_seq (qc (qb (qa (.slice none 0 0) rfl) (qb (qa (.int .i64 0) rfl) (qb (qa (.bool false) rfl) (qd (qe (wp_seq (wp_seq (qc (qb (qa (.int .i64 a0) rfl) (qd (qe ?_)))))))))))))
 refine wp_block ?_
 refine wp_seq (join (fun a w => ∃ (T0 G1 : _) (x2 : Bool), a = mk 61 (qQ T0 [(0, (.int .i64 a0)), (1, (.bool a1)), (7, (.int .i64 a0)), (8, (.bool x2))]) ∧ GLe G G1 ∧ St c G1 w (σ) ∧ pr11_answer_j1 a0 a1 x2 = some r) ?_ ?_)
 ·rintro a w ⟨T0, G5, x2, rfl, hG3, H4, b⟩
  rcases qm x2 with hb6 | hb6
  ·replace b := ifT b hb6
   refine qs (vb hb6) (wp_seq (qc (qb (qa (.int .i64 a0) rfl) ?_)))
   refine zh (K := kI) (vs := [(.int .i64 11)]) (xs := ([11] : (List Int))) H4 xX el3 rfl ⟨((qz .i64).toV _ _), yp⟩ rfl (by decide) ?_
   intro g7 w9 H8
   obtain ⟨G11, hG12, H13, hs14⟩ := H8.stay (i := 0) rfl (H8.capA (i := 0) rfl)
   obtain ⟨r15, hr16, b⟩ := qu b
   refine qo (vs := [(.int .i64 a0), (.slice (some ⟨g7, 0, none⟩) ([11] : (List Int)).length 1)]) en231 rfl (qK k hs14 H13 hr16) ?_
   rintro v21 w20 ⟨G17, A22, c23, hG18, rfl, H19, hs24⟩
   refine qb (qa (.slice A22 r15.1.length c23) rfl) (qb (qa (.int .i64 r15.2.1) rfl) (qb (qa (.bool r15.2.2) rfl) (qb (qa (.slice A22 r15.1.length c23) rfl) (qb (qa (.int .i64 r15.2.1) rfl) (qb (qa (.bool r15.2.2) rfl) (qd (qe (wp_ret (zg (qI ?_))))))))))
   have b := yq b
   subst b
   exact qt rfl (RV.tmp rfl (RV.tmp rfl (RV.tmp rfl RV.nil))) ⟨_, A22, c23, ((hG3.trans hG12).trans hG18), rfl, H19, hs24⟩
  replace b := ifF b hb6
  refine qn (vb hb6) ?_
  refine wp_seq (join (fun a w => ∃ (T0 G1 : _) (x26 : Bool), a = mk 61 (qQ T0 [(0, (.int .i64 a0)), (1, (.bool a1)), (7, (.int .i64 a0)), (17, (.bool x26))]) ∧ GLe G5 G1 ∧ St c G1 w (σ) ∧ pr11_answer_j2 a0 a1 x26 = some r) ?_ ?_)
  ·rintro a w ⟨T0, G29, x26, rfl, hG27, H28, b⟩
   rcases qm x26 with hb30 | hb30
   ·replace b := ifT b hb30
    refine qs (vb hb30) (wp_seq (qc (qb (qa (.int .i64 a0) rfl) ?_)))
    obtain ⟨r31, hr32, b⟩ := qu b
    refine qo (vs := [(.int .i64 a0)]) en233 rfl (zl k H28 hr32) ?_
    rintro v37 w36 ⟨G33, A38, c39, hG34, rfl, H35, hs40⟩
    refine qb (qa (.slice A38 r31.1.length c39) rfl) (qb (qa (.int .i64 r31.2.1) rfl) (qb (qa (.bool r31.2.2) rfl) (qb (qa (.slice A38 r31.1.length c39) rfl) (qb (qa (.int .i64 r31.2.1) rfl) (qb (qa (.bool r31.2.2) rfl) (qd (qe (wp_ret (zg (qI ?_))))))))))
    have b := yq b
    subst b
    exact qt rfl (RV.tmp rfl (RV.tmp rfl (RV.tmp rfl RV.nil))) ⟨_, A38, c39, ((hG3.trans hG27).trans hG34), rfl, H35, hs40⟩
   replace b := ifF b hb30
   refine qn (vb hb30) (wp_seq (qc ?_))
   iterate 2 refine qb (qa (.bool (a0 == 7)) rfl) ?_
   refine qd (qe ?_)
   rcases qm (a0 == 7) with hb41 | hb41
   ·replace b := ifT b hb41
    refine qs (vb hb41) (wp_seq (qc ?_))
    refine zh (K := kI) (vs := [(.int .i64 7)]) (xs := ([7] : (List Int))) H28 xX el3 rfl ⟨((qz .i64).toV _ _), yp⟩ rfl (by decide) ?_
    intro g42 w44 H43
    obtain ⟨G46, hG47, H48, hs49⟩ := H43.stay (i := 0) rfl (H43.capA (i := 0) rfl)
    obtain ⟨r50, hr51, b⟩ := qu b
    refine qo (vs := [(.int .i64 6), (.slice (some ⟨g42, 0, none⟩) ([7] : (List Int)).length 1)]) en231 rfl (qK k hs49 H48 hr51) ?_
    rintro v56 w55 ⟨G52, A57, c58, hG53, rfl, H54, hs59⟩
    refine qb (qa (.slice A57 r50.1.length c58) rfl) (qb (qa (.int .i64 r50.2.1) rfl) (qb (qa (.bool r50.2.2) rfl) (qb (qa (.slice A57 r50.1.length c58) rfl) (qb (qa (.int .i64 r50.2.1) rfl) (qb (qa (.bool r50.2.2) rfl) (qd (qe (wp_ret (zg (qI ?_))))))))))
    have b := yq b
    subst b
    exact qt rfl (RV.tmp rfl (RV.tmp rfl (RV.tmp rfl RV.nil))) ⟨_, A57, c58, (((hG3.trans hG27).trans hG47).trans hG53), rfl, H54, hs59⟩
   replace b := ifF b hb41
   refine qn (vb hb41) (wp_seq (qc ?_))
   iterate 2 refine qb (qa (.bool (a0 == 9)) rfl) ?_
   refine qd (qe ?_)
   rcases qm (a0 == 9) with hb60 | hb60
   ·replace b := ifT b hb60
    refine qs (vb hb60) (wp_seq (qc ?_))
    refine zh (K := kI) (vs := [(.int .i64 2), (.int .i64 7)]) (xs := ([2, 7] : (List Int))) H28 xX el3 rfl ⟨((qz .i64).toV _ _), ((qz .i64).toV _ _), yp⟩ rfl (by decide) ?_
    intro g61 w63 H62
    obtain ⟨G65, hG66, H67, hs68⟩ := H62.stay (i := 0) rfl (H62.capA (i := 0) rfl)
    obtain ⟨r69, hr70, b⟩ := qu b
    refine qo (vs := [(.int .i64 6), (.slice (some ⟨g61, 0, none⟩) ([2, 7] : (List Int)).length 2)]) en231 rfl (qK k hs68 H67 hr70) ?_
    rintro v75 w74 ⟨G71, A76, c77, hG72, rfl, H73, hs78⟩
    refine qb (qa (.slice A76 r69.1.length c77) rfl) (qb (qa (.int .i64 r69.2.1) rfl) (qb (qa (.bool r69.2.2) rfl) (qb (qa (.slice A76 r69.1.length c77) rfl) (qb (qa (.int .i64 r69.2.1) rfl) (qb (qa (.bool r69.2.2) rfl) (qd (qe (wp_ret (zg (qI ?_))))))))))
    have b := yq b
    subst b
    exact qt rfl (RV.tmp rfl (RV.tmp rfl (RV.tmp rfl RV.nil))) ⟨_, A76, c77, (((hG3.trans hG27).trans hG66).trans hG72), rfl, H73, hs78⟩
   replace b := ifF b hb60
   refine qn (vb hb60) (wp_skip (zn (qe (wp_seq ?_))))
   refine wp_seq (join (fun a w => ∃ (T0 G1 : _) (x80 : Bool), a = mk 61 (qQ T0 [(0, (.int .i64 a0)), (1, (.bool a1)), (43, (.bool x80))]) ∧ GLe G29 G1 ∧ St c G1 w (σ) ∧ pr11_answer_j3 a0 a1 x80 = some r) ?_ ?_)
   ·rintro a w ⟨T0, G83, x80, rfl, hG81, H82, b⟩
    rcases qm x80 with hb84 | hb84
    ·replace b := ifT b hb84
     refine qs (vb hb84) (wp_seq (qc ?_))
     refine zh (K := kI) (vs := [(.int .i64 5)]) (xs := ([5] : (List Int))) H82 xX el3 rfl ⟨((qz .i64).toV _ _), yp⟩ rfl (by decide) ?_
     intro g85 w87 H86
     obtain ⟨G89, hG90, H91, hs92⟩ := H86.stay (i := 0) rfl (H86.capA (i := 0) rfl)
     obtain ⟨r93, hr94, b⟩ := qu b
     refine qo (vs := [(.int .i64 7), (.slice (some ⟨g85, 0, none⟩) ([5] : (List Int)).length 1)]) en231 rfl (qK k hs92 H91 hr94) ?_
     rintro v99 w98 ⟨G95, A100, c101, hG96, rfl, H97, hs102⟩
     refine qb (qa (.slice A100 r93.1.length c101) rfl) (qb (qa (.int .i64 r93.2.1) rfl) (qb (qa (.bool r93.2.2) rfl) (qb (qa (.slice A100 r93.1.length c101) rfl) (qb (qa (.int .i64 r93.2.1) rfl) (qb (qa (.bool r93.2.2) rfl) (qd (qe (wp_ret (qI ?_)))))))))
     have b := yq b
     subst b
     exact qt rfl (RV.tmp rfl (RV.tmp rfl (RV.tmp rfl RV.nil))) ⟨_, A100, c101, ((((hG3.trans hG27).trans hG81).trans hG90).trans hG96), rfl, H97, hs102⟩
    replace b := ifF b hb84
    refine qn (vb hb84) (wp_skip (qe (wp_seq (wp_seq (qc (qb (qa (.bool a1) rfl) (qd (qe ?_))))))))
    rcases qm a1 with hb103 | hb103
    ·replace b := ifT b hb103
     refine qs (vb hb103) (wp_seq (qc ?_))
     refine zh (K := kI) (vs := [(.int .i64 5), (.int .i64 1)]) (xs := ([5, 1] : (List Int))) H82 xX el3 rfl ⟨((qz .i64).toV _ _), ((qz .i64).toV _ _), yp⟩ rfl (by decide) ?_
     intro g104 w106 H105
     obtain ⟨G108, hG109, H110, hs111⟩ := H105.stay (i := 0) rfl (H105.capA (i := 0) rfl)
     obtain ⟨r112, hr113, b⟩ := qu b
     refine qo (vs := [(.int .i64 9), (.slice (some ⟨g104, 0, none⟩) ([5, 1] : (List Int)).length 2)]) en231 rfl (qK k hs111 H110 hr113) ?_
     rintro v118 w117 ⟨G114, A119, c120, hG115, rfl, H116, hs121⟩
     refine qb (qa (.slice A119 r112.1.length c120) rfl) (qb (qa (.int .i64 r112.2.1) rfl) (qb (qa (.bool r112.2.2) rfl) (qb (qa (.slice A119 r112.1.length c120) rfl) (qb (qa (.int .i64 r112.2.1) rfl) (qb (qa (.bool r112.2.2) rfl) (qd (qe (wp_ret (qI ?_)))))))))
     have b := yq b
     subst b
     exact qt rfl (RV.tmp rfl (RV.tmp rfl (RV.tmp rfl RV.nil))) ⟨_, A119, c120, ((((hG3.trans hG27).trans hG81).trans hG109).trans hG115), rfl, H116, hs121⟩
    replace b := ifF b hb103
    refine qn (vb hb103) (wp_skip (qe (wp_seq (qc (qb (qa (.int .i64 a0) rfl) ?_)))))
    refine zh (K := kI) (vs := [(.int .i64 5), (.int .i64 7)]) (xs := ([5, 7] : (List Int))) H82 xX el3 rfl ⟨((qz .i64).toV _ _), ((qz .i64).toV _ _), yp⟩ rfl (by decide) ?_
    intro g122 w124 H123
    obtain ⟨G126, hG127, H128, hs129⟩ := H123.stay (i := 0) rfl (H123.capA (i := 0) rfl)
    obtain ⟨r130, hr131, b⟩ := qu b
    refine qo (vs := [(.int .i64 a0), (.slice (some ⟨g122, 0, none⟩) ([5, 7] : (List Int)).length 2)]) en231 rfl (qK k hs129 H128 hr131) ?_
    rintro v136 w135 ⟨G132, A137, c138, hG133, rfl, H134, hs139⟩
    refine qb (qa (.slice A137 r130.1.length c138) rfl) (qb (qa (.int .i64 r130.2.1) rfl) (qb (qa (.bool r130.2.2) rfl) (qb (qa (.slice A137 r130.1.length c138) rfl) (qb (qa (.int .i64 r130.2.1) rfl) (qb (qa (.bool r130.2.2) rfl) (qd (qe (wp_ret ?_))))))))
    have b := yq b
    subst b
    exact qt rfl (RV.tmp rfl (RV.tmp rfl (RV.tmp rfl RV.nil))) ⟨_, A137, c138, ((((hG3.trans hG27).trans hG81).trans hG127).trans hG133), rfl, H134, hs139⟩
   refine qc ?_
   iterate 2 refine qb (qa (.bool a1) rfl) ?_
   rcases qm a1 with hb140 | hb140
   ·replace b := ifT b hb140
    refine qj rfl rfl rfl (vb hb140) (qb (qa (.int .i64 a0) rfl) (qj rfl rfl rfl (vb hb140) (qb (qa (.bool (a0 == 6)) rfl) (qb (qB (.bool (a0 == 6)) (vb hb140) rfl) (qd (qe ?_))))))
    exact ⟨_, _, (a0 == 6), qf _ ⟨rfl, rfl, rfl, yp⟩, GLe.refl _, H28, b⟩
   replace b := ifF b hb140
   iterate 2 refine qJ rfl rfl rfl (vb hb140) ?_
   refine qb (qr (.bool false) (vb hb140) rfl) (qd (qe ?_))
   exact ⟨_, _, false, qf _ ⟨rfl, rfl, rfl, yp⟩, GLe.refl _, H28, b⟩
  refine wp_seq (qc ?_)
  iterate 2 refine qb (qa (.bool (a0 == 4)) rfl) ?_
  refine qd (qe ?_)
  rcases qm (a0 == 4) with hb141 | hb141
  ·replace b := ifT b hb141
   refine qs (vb hb141) (wp_skip (qe ?_))
   exact ⟨_, _, (a0 == 4), qf _ ⟨rfl, rfl, rfl, rfl, yp⟩, GLe.refl _, H4, b⟩
  replace b := ifF b hb141
  refine qn (vb hb141) (qc ?_)
  iterate 2 refine qb (qa (.bool (a0 == 5)) rfl) ?_
  refine qd (qe ?_)
  exact ⟨_, _, (a0 == 5), qf _ ⟨rfl, rfl, rfl, rfl, yp⟩, GLe.refl _, H4, b⟩
 refine wp_seq (qc ?_)
 iterate 2 refine qb (qa (.bool (a0 == 2)) rfl) ?_
 refine qd (qe ?_)
 rcases qm (a0 == 2) with hb142 | hb142
 ·replace b := ifT b hb142
  refine qs (vb hb142) (wp_skip (qe ?_))
  exact ⟨_, _, (a0 == 2), qf _ ⟨rfl, rfl, rfl, rfl, yp⟩, GLe.refl _, H, b⟩
 replace b := ifF b hb142
 refine qn (vb hb142) (qc ?_)
 iterate 2 refine qb (qa (.bool (a0 == 3)) rfl) ?_
 refine qd (qe ?_)
 exact ⟨_, _, (a0 == 3), qf _ ⟨rfl, rfl, rfl, rfl, yp⟩, GLe.refl _, H, b⟩

theorem pr11_end_ok {c : World} (k : Hc c) {G : qk} {w : World} {σ : List Ent} {a0 : Int}  (H : St c G w (σ)) {r : ((List Int) × Int × Bool)} (b : pr11_end a0 = some r) :
  Calls Tryz.prog 229 ([(.int .i64 a0)] : List Value).toArray w (zu fun v w' => ∃ (G' : qk) (A1' : Option Addr) (c2' : Nat), GLe G G' ∧ tup [(.slice A1' r.1.length c2'), (.int .i64 r.2.1), (.bool r.2.2)] = v ∧ St c G' w' (σ) ∧ SlR kI G' A1' c2' r.1) := by
 unfold pr11_end at b
 refine qG Tryz.func229 rfl rfl rfl (wp_seq (qc (qb (qa (.slice none 0 0) rfl) (qb (qa (.int .i64 0) rfl) (qb (qa (.bool false) rfl) (qd (qe (wp_seq (wp_seq (qc (qb (qa (.int .i64 a0) rfl) (qb (qa (.bool (a0 == 9)) rfl) ?_))))))))))))
 refine qd (qe ?_)
 rcases qm (a0 == 9) with hb1 | hb1
 ·replace b := ifT b hb1
  refine qs (vb hb1) (wp_seq (qc ?_))
  refine zh (K := kI) (vs := [(.int .i64 2), (.int .i64 6), (.int .i64 11)]) (xs := ([2, 6, 11] : (List Int))) H xX el3 rfl ⟨((qz .i64).toV _ _), ((qz .i64).toV _ _), ((qz .i64).toV _ _), yp⟩ rfl (by decide) ?_
  intro g2 w4 H3
  obtain ⟨G6, hG7, H8, hs9⟩ := H3.stay (i := 0) rfl (H3.capA (i := 0) rfl)
  obtain ⟨r10, hr11, b⟩ := qu b
  refine qo (vs := [(.int .i64 5), (.slice (some ⟨g2, 0, none⟩) ([2, 6, 11] : (List Int)).length 3)]) en231 rfl (qK k hs9 H8 hr11) ?_
  rintro v16 w15 ⟨G12, A17, c18, hG13, rfl, H14, hs19⟩
  refine qb (qa (.slice A17 r10.1.length c18) rfl) (qb (qa (.int .i64 r10.2.1) rfl) (qb (qa (.bool r10.2.2) rfl) (qb (qa (.slice A17 r10.1.length c18) rfl) (qb (qa (.int .i64 r10.2.1) rfl) (qb (qa (.bool r10.2.2) rfl) (qd (qe (wp_ret (qI ?_)))))))))
  have b := yq b
  subst b
  exact qt rfl (RV.tmp rfl (RV.tmp rfl (RV.tmp rfl RV.nil))) ⟨_, A17, c18, (hG7.trans hG13), rfl, H14, hs19⟩
 replace b := ifF b hb1
 refine qn (vb hb1) (wp_skip (qe (wp_seq (wp_seq (qc (qb (qa (.int .i64 a0) rfl) (qb (qa (.bool (decide (a0 ≥ 6))) rfl) (qd (qe ?_)))))))))
 rcases qm (decide (a0 ≥ 6)) with hb20 | hb20
 ·replace b := ifT b hb20
  refine qs (vb hb20) (wp_seq (qc ?_))
  refine zh (K := kI) (vs := [(.int .i64 11)]) (xs := ([11] : (List Int))) H xX el3 rfl ⟨((qz .i64).toV _ _), yp⟩ rfl (by decide) ?_
  intro g21 w23 H22
  obtain ⟨G25, hG26, H27, hs28⟩ := H22.stay (i := 0) rfl (H22.capA (i := 0) rfl)
  obtain ⟨r29, hr30, b⟩ := qu b
  refine qo (vs := [(.int .i64 6), (.slice (some ⟨g21, 0, none⟩) ([11] : (List Int)).length 1)]) en231 rfl (qK k hs28 H27 hr30) ?_
  rintro v35 w34 ⟨G31, A36, c37, hG32, rfl, H33, hs38⟩
  refine qb (qa (.slice A36 r29.1.length c37) rfl) (qb (qa (.int .i64 r29.2.1) rfl) (qb (qa (.bool r29.2.2) rfl) (qb (qa (.slice A36 r29.1.length c37) rfl) (qb (qa (.int .i64 r29.2.1) rfl) (qb (qa (.bool r29.2.2) rfl) (qd (qe (wp_ret (qI ?_)))))))))
  have b := yq b
  subst b
  exact qt rfl (RV.tmp rfl (RV.tmp rfl (RV.tmp rfl RV.nil))) ⟨_, A36, c37, (hG26.trans hG32), rfl, H33, hs38⟩
 replace b := ifF b hb20
 refine qn (vb hb20) (wp_skip (qe (wp_seq (qc (qb (qa (.int .i64 a0) rfl) ?_)))))
 refine zh (K := kI) (vs := [(.int .i64 11)]) (xs := ([11] : (List Int))) H xX el3 rfl ⟨((qz .i64).toV _ _), yp⟩ rfl (by decide) ?_
 intro g39 w41 H40
 obtain ⟨G43, hG44, H45, hs46⟩ := H40.stay (i := 0) rfl (H40.capA (i := 0) rfl)
 obtain ⟨r47, hr48, b⟩ := qu b
 refine qo (vs := [(.int .i64 a0), (.slice (some ⟨g39, 0, none⟩) ([11] : (List Int)).length 1)]) en231 rfl (qK k hs46 H45 hr48) ?_
 rintro v53 w52 ⟨G49, A54, c55, hG50, rfl, H51, hs56⟩
 refine qb (qa (.slice A54 r47.1.length c55) rfl) (qb (qa (.int .i64 r47.2.1) rfl) (qb (qa (.bool r47.2.2) rfl) (qb (qa (.slice A54 r47.1.length c55) rfl) (qb (qa (.int .i64 r47.2.1) rfl) (qb (qa (.bool r47.2.2) rfl) (qd (qe (wp_ret ?_))))))))
 have b := yq b
 subst b
 exact qt rfl (RV.tmp rfl (RV.tmp rfl (RV.tmp rfl RV.nil))) ⟨_, A54, c55, (hG44.trans hG50), rfl, H51, hs56⟩

theorem pr11_ended_ok {c : World} (k : Hc c) {G : qk} {w : World} {σ : List Ent} {a0 : Int}  (H : St c G w (σ)) {r : ((List Int) × Int × Bool)} (b : pr11_ended a0 = some r) :
  Calls Tryz.prog 230 ([(.int .i64 a0)] : List Value).toArray w (zu fun v w' => ∃ (G' : qk) (A1' : Option Addr) (c2' : Nat), GLe G G' ∧ tup [(.slice A1' r.1.length c2'), (.int .i64 r.2.1), (.bool r.2.2)] = v ∧ St c G' w' (σ) ∧ SlR kI G' A1' c2' r.1) := by
 unfold pr11_ended at b
 refine qG Tryz.func230 rfl rfl rfl (wp_seq (qc (qb (qa (.slice none 0 0) rfl) (qb (qa (.int .i64 0) rfl) (qb (qa (.bool false) rfl) (qd (qe (wp_seq (wp_seq (qc (qb (qa (.int .i64 a0) rfl) (qd (qe ?_)))))))))))))
 refine wp_block (wp_seq (qc ?_))
 iterate 2 refine qb (qa (.bool (a0 == 4)) rfl) ?_
 refine qd (qe ?_)
 rcases qm (a0 == 4) with hb1 | hb1
 ·replace b := ifT b hb1
  refine qs (vb hb1) (wp_seq (qc ?_))
  refine zh (K := kI) (vs := [(.int .i64 4)]) (xs := ([4] : (List Int))) H xX el3 rfl ⟨((qz .i64).toV _ _), yp⟩ rfl (by decide) ?_
  intro g2 w4 H3
  obtain ⟨G6, hG7, H8, hs9⟩ := H3.stay (i := 0) rfl (H3.capA (i := 0) rfl)
  obtain ⟨r10, hr11, b⟩ := qu b
  refine qo (vs := [(.int .i64 2), (.slice (some ⟨g2, 0, none⟩) ([4] : (List Int)).length 1)]) en231 rfl (qK k hs9 H8 hr11) ?_
  rintro v16 w15 ⟨G12, A17, c18, hG13, rfl, H14, hs19⟩
  refine qb (qa (.slice A17 r10.1.length c18) rfl) (qb (qa (.int .i64 r10.2.1) rfl) (qb (qa (.bool r10.2.2) rfl) (qb (qa (.slice A17 r10.1.length c18) rfl) (qb (qa (.int .i64 r10.2.1) rfl) (qb (qa (.bool r10.2.2) rfl) (qd (qe (wp_ret (zg (qI ?_))))))))))
  have b := yq b
  subst b
  exact qt rfl (RV.tmp rfl (RV.tmp rfl (RV.tmp rfl RV.nil))) ⟨_, A17, c18, (hG7.trans hG13), rfl, H14, hs19⟩
 replace b := ifF b hb1
 refine qn (vb hb1) (wp_seq (qc ?_))
 iterate 2 refine qb (qa (.bool (a0 == 5)) rfl) ?_
 refine qd (qe ?_)
 rcases qm (a0 == 5) with hb20 | hb20
 ·replace b := ifT b hb20
  refine qs (vb hb20) (wp_seq (qc ?_))
  refine zh (K := kI) (vs := [(.int .i64 4)]) (xs := ([4] : (List Int))) H xX el3 rfl ⟨((qz .i64).toV _ _), yp⟩ rfl (by decide) ?_
  intro g21 w23 H22
  obtain ⟨G25, hG26, H27, hs28⟩ := H22.stay (i := 0) rfl (H22.capA (i := 0) rfl)
  obtain ⟨r29, hr30, b⟩ := qu b
  refine qo (vs := [(.int .i64 3), (.slice (some ⟨g21, 0, none⟩) ([4] : (List Int)).length 1)]) en231 rfl (qK k hs28 H27 hr30) ?_
  rintro v35 w34 ⟨G31, A36, c37, hG32, rfl, H33, hs38⟩
  refine qb (qa (.slice A36 r29.1.length c37) rfl) (qb (qa (.int .i64 r29.2.1) rfl) (qb (qa (.bool r29.2.2) rfl) (qb (qa (.slice A36 r29.1.length c37) rfl) (qb (qa (.int .i64 r29.2.1) rfl) (qb (qa (.bool r29.2.2) rfl) (qd (qe (wp_ret (zg (qI ?_))))))))))
  have b := yq b
  subst b
  exact qt rfl (RV.tmp rfl (RV.tmp rfl (RV.tmp rfl RV.nil))) ⟨_, A36, c37, (hG26.trans hG32), rfl, H33, hs38⟩
 replace b := ifF b hb20
 refine qn (vb hb20) (wp_seq (qc ?_))
 iterate 2 refine qb (qa (.bool (a0 == 7)) rfl) ?_
 refine qd (qe ?_)
 rcases qm (a0 == 7) with hb39 | hb39
 ·replace b := ifT b hb39
  refine qs (vb hb39) (wp_seq (qc ?_))
  obtain ⟨r40, hr41, b⟩ := qu b
  refine qo (vs := [(.int .i64 6)]) en233 rfl (zl k H hr41) ?_
  rintro v46 w45 ⟨G42, A47, c48, hG43, rfl, H44, hs49⟩
  refine qb (qa (.slice A47 r40.1.length c48) rfl) (qb (qa (.int .i64 r40.2.1) rfl) (qb (qa (.bool r40.2.2) rfl) (qb (qa (.slice A47 r40.1.length c48) rfl) (qb (qa (.int .i64 r40.2.1) rfl) (qb (qa (.bool r40.2.2) rfl) (qd (qe (wp_ret (zg (qI ?_))))))))))
  have b := yq b
  subst b
  exact qt rfl (RV.tmp rfl (RV.tmp rfl (RV.tmp rfl RV.nil))) ⟨_, A47, c48, hG43, rfl, H44, hs49⟩
 replace b := ifF b hb39
 refine qn (vb hb39) (wp_seq (qc ?_))
 iterate 2 refine qb (qa (.bool (a0 == 9)) rfl) ?_
 refine qd (qe ?_)
 rcases qm (a0 == 9) with hb50 | hb50
 ·replace b := ifT b hb50
  refine qs (vb hb50) (wp_seq (qc ?_))
  refine zh (K := kI) (vs := [(.int .i64 2), (.int .i64 7)]) (xs := ([2, 7] : (List Int))) H xX el3 rfl ⟨((qz .i64).toV _ _), ((qz .i64).toV _ _), yp⟩ rfl (by decide) ?_
  intro g51 w53 H52
  obtain ⟨G55, hG56, H57, hs58⟩ := H52.stay (i := 0) rfl (H52.capA (i := 0) rfl)
  obtain ⟨r59, hr60, b⟩ := qu b
  refine qo (vs := [(.int .i64 6), (.slice (some ⟨g51, 0, none⟩) ([2, 7] : (List Int)).length 2)]) en231 rfl (qK k hs58 H57 hr60) ?_
  rintro v65 w64 ⟨G61, A66, c67, hG62, rfl, H63, hs68⟩
  refine qb (qa (.slice A66 r59.1.length c67) rfl) (qb (qa (.int .i64 r59.2.1) rfl) (qb (qa (.bool r59.2.2) rfl) (qb (qa (.slice A66 r59.1.length c67) rfl) (qb (qa (.int .i64 r59.2.1) rfl) (qb (qa (.bool r59.2.2) rfl) (qd (qe (wp_ret (zg (qI ?_))))))))))
  have b := yq b
  subst b
  exact qt rfl (RV.tmp rfl (RV.tmp rfl (RV.tmp rfl RV.nil))) ⟨_, A66, c67, (hG56.trans hG62), rfl, H63, hs68⟩
 replace b := ifF b hb50
 refine qn (vb hb50) (wp_skip (zn (qe (wp_seq (qc (qb (qa (.int .i64 a0) rfl) ?_))))))
 obtain ⟨r69, hr70, b⟩ := qu b
 refine qo (vs := [(.int .i64 a0)]) en233 rfl (zl k H hr70) ?_
 rintro v75 w74 ⟨G71, A76, c77, hG72, rfl, H73, hs78⟩
 refine qb (qa (.slice A76 r69.1.length c77) rfl) (qb (qa (.int .i64 r69.2.1) rfl) (qb (qa (.bool r69.2.2) rfl) (qb (qa (.slice A76 r69.1.length c77) rfl) (qb (qa (.int .i64 r69.2.1) rfl) (qb (qa (.bool r69.2.2) rfl) (qd (qe (wp_ret ?_))))))))
 have b := yq b
 subst b
 exact qt rfl (RV.tmp rfl (RV.tmp rfl (RV.tmp rfl RV.nil))) ⟨_, A76, c77, hG72, rfl, H73, hs78⟩

theorem pr11_reject_ok {c : World} (k : Hc c) {G : qk} {w : World} {σ : List Ent} {a0 : Int} {a1 : Bool}  (H : St c G w (σ)) {r : ((List Int) × Int × Bool)} (b : pr11_reject a0 a1 = some r) :
  Calls Tryz.prog 232 ([(.int .i64 a0), (.bool a1)] : List Value).toArray w (zu fun v w' => ∃ (G' : qk) (A1' : Option Addr) (c2' : Nat), GLe G G' ∧ tup [(.slice A1' r.1.length c2'), (.int .i64 r.2.1), (.bool r.2.2)] = v ∧ St c G' w' (σ) ∧ SlR kI G' A1' c2' r.1) := by
 unfold pr11_reject at b
 refine qG Tryz.func232 rfl rfl rfl (wp_seq (qc (qb (qa (.slice none 0 0) rfl) (qb (qa (.int .i64 0) rfl) (qb (qa (.bool false) rfl) (qd (qe (wp_seq ?_))))))))
 refine wp_seq (join (fun a w => ∃ (T0 G1 : _) (x2 : Bool), a = mk 43 (qQ T0 [(0, (.int .i64 a0)), (1, (.bool a1)), (11, (.bool x2))]) ∧ GLe G G1 ∧ St c G1 w (σ) ∧ pr11_reject_j1 a0 a1 x2 = some r) ?_ ?_)
 ·rintro a w ⟨T0, G5, x2, rfl, hG3, H4, b⟩
  rcases qm x2 with hb6 | hb6
  ·replace b := ifT b hb6
   refine qs (vb hb6) (wp_seq (qc ?_))
   obtain ⟨r7, hr8, b⟩ := qu b
   refine qo (vs := [(.int .i64 6)]) en233 rfl (zl k H4 hr8) ?_
   rintro v13 w12 ⟨G9, A14, c15, hG10, rfl, H11, hs16⟩
   refine qb (qa (.slice A14 r7.1.length c15) rfl) (qb (qa (.int .i64 r7.2.1) rfl) (qb (qa (.bool r7.2.2) rfl) (qb (qa (.slice A14 r7.1.length c15) rfl) (qb (qa (.int .i64 r7.2.1) rfl) (qb (qa (.bool r7.2.2) rfl) (qd (qe (wp_ret (qI ?_)))))))))
   have b := yq b
   subst b
   exact qt rfl (RV.tmp rfl (RV.tmp rfl (RV.tmp rfl RV.nil))) ⟨_, A14, c15, (hG3.trans hG10), rfl, H11, hs16⟩
  replace b := ifF b hb6
  refine qn (vb hb6) (wp_skip (qe (wp_seq (wp_seq (qc (qb (qa (.bool a1) rfl) (qd (qe ?_))))))))
  rcases qm a1 with hb17 | hb17
  ·replace b := ifT b hb17
   refine qs (vb hb17) (wp_seq (qc (qb (qa (.int .i64 a0) rfl) ?_)))
   obtain ⟨r18, hr19, b⟩ := qu b
   refine qo (vs := [(.int .i64 a0)]) en233 rfl (zl k H4 hr19) ?_
   rintro v24 w23 ⟨G20, A25, c26, hG21, rfl, H22, hs27⟩
   refine qb (qa (.slice A25 r18.1.length c26) rfl) (qb (qa (.int .i64 r18.2.1) rfl) (qb (qa (.bool r18.2.2) rfl) (qb (qa (.slice A25 r18.1.length c26) rfl) (qb (qa (.int .i64 r18.2.1) rfl) (qb (qa (.bool r18.2.2) rfl) (qd (qe (wp_ret (qI ?_)))))))))
   have b := yq b
   subst b
   exact qt rfl (RV.tmp rfl (RV.tmp rfl (RV.tmp rfl RV.nil))) ⟨_, A25, c26, (hG3.trans hG21), rfl, H22, hs27⟩
  replace b := ifF b hb17
  refine qn (vb hb17) (wp_skip (qe (wp_seq (wp_seq (qc (qb (qa (.int .i64 a0) rfl) (qd (qe (wp_block (wp_seq (qc ?_)))))))))))
  iterate 2 refine qb (qa (.bool (a0 == 9)) rfl) ?_
  refine qd (qe ?_)
  rcases qm (a0 == 9) with hb28 | hb28
  ·replace b := ifT b hb28
   refine qs (vb hb28) (wp_seq (qc ?_))
   refine zh (K := kI) (vs := [(.int .i64 2), (.int .i64 5), (.int .i64 10)]) (xs := ([2, 5, 10] : (List Int))) H4 xX el3 rfl ⟨((qz .i64).toV _ _), ((qz .i64).toV _ _), ((qz .i64).toV _ _), yp⟩ rfl (by decide) ?_
   intro g29 w31 H30
   obtain ⟨G33, hG34, H35, hs36⟩ := H30.stay (i := 0) rfl (H30.capA (i := 0) rfl)
   obtain ⟨r37, hr38, b⟩ := qu b
   refine qo (vs := [(.int .i64 5), (.slice (some ⟨g29, 0, none⟩) ([2, 5, 10] : (List Int)).length 3)]) en231 rfl (qK k hs36 H35 hr38) ?_
   rintro v43 w42 ⟨G39, A44, c45, hG40, rfl, H41, hs46⟩
   refine qb (qa (.slice A44 r37.1.length c45) rfl) (qb (qa (.int .i64 r37.2.1) rfl) (qb (qa (.bool r37.2.2) rfl) (qb (qa (.slice A44 r37.1.length c45) rfl) (qb (qa (.int .i64 r37.2.1) rfl) (qb (qa (.bool r37.2.2) rfl) (qd (qe (wp_ret (zg (qI ?_))))))))))
   have b := yq b
   subst b
   exact qt rfl (RV.tmp rfl (RV.tmp rfl (RV.tmp rfl RV.nil))) ⟨_, A44, c45, ((hG3.trans hG34).trans hG40), rfl, H41, hs46⟩
  replace b := ifF b hb28
  refine qn (vb hb28) ?_
  refine wp_seq (join (fun a w => ∃ (T0 G1 : _) (x48 : Bool), a = mk 43 (qQ T0 [(30, (.bool x48))]) ∧ GLe G5 G1 ∧ St c G1 w (σ) ∧ pr11_reject_j2 x48 = some r) ?_ ?_)
  ·rintro a w ⟨T0, G51, x48, rfl, hG49, H50, b⟩
   rcases qm x48 with hb52 | hb52
   ·replace b := ifT b hb52
    refine qs (vb hb52) (wp_seq (qc ?_))
    refine zh (K := kI) (vs := [(.int .i64 4)]) (xs := ([4] : (List Int))) H50 xX el3 rfl ⟨((qz .i64).toV _ _), yp⟩ rfl (by decide) ?_
    intro g53 w55 H54
    obtain ⟨G57, hG58, H59, hs60⟩ := H54.stay (i := 0) rfl (H54.capA (i := 0) rfl)
    obtain ⟨r61, hr62, b⟩ := qu b
    refine qo (vs := [(.int .i64 2), (.slice (some ⟨g53, 0, none⟩) ([4] : (List Int)).length 1)]) en231 rfl (qK k hs60 H59 hr62) ?_
    rintro v67 w66 ⟨G63, A68, c69, hG64, rfl, H65, hs70⟩
    refine qb (qa (.slice A68 r61.1.length c69) rfl) (qb (qa (.int .i64 r61.2.1) rfl) (qb (qa (.bool r61.2.2) rfl) (qb (qa (.slice A68 r61.1.length c69) rfl) (qb (qa (.int .i64 r61.2.1) rfl) (qb (qa (.bool r61.2.2) rfl) (qd (qe (wp_ret (zg (qI ?_))))))))))
    have b := yq b
    subst b
    exact qt rfl (RV.tmp rfl (RV.tmp rfl (RV.tmp rfl RV.nil))) ⟨_, A68, c69, (((hG3.trans hG49).trans hG58).trans hG64), rfl, H65, hs70⟩
   replace b := ifF b hb52
   refine qn (vb hb52) (wp_skip (zn (qe (wp_seq (qc ?_)))))
   refine zh (K := kI) (vs := [(.int .i64 4)]) (xs := ([4] : (List Int))) H50 xX el3 rfl ⟨((qz .i64).toV _ _), yp⟩ rfl (by decide) ?_
   intro g71 w73 H72
   obtain ⟨G75, hG76, H77, hs78⟩ := H72.stay (i := 0) rfl (H72.capA (i := 0) rfl)
   obtain ⟨r79, hr80, b⟩ := qu b
   refine qo (vs := [(.int .i64 3), (.slice (some ⟨g71, 0, none⟩) ([4] : (List Int)).length 1)]) en231 rfl (qK k hs78 H77 hr80) ?_
   rintro v85 w84 ⟨G81, A86, c87, hG82, rfl, H83, hs88⟩
   refine qb (qa (.slice A86 r79.1.length c87) rfl) (qb (qa (.int .i64 r79.2.1) rfl) (qb (qa (.bool r79.2.2) rfl) (qb (qa (.slice A86 r79.1.length c87) rfl) (qb (qa (.int .i64 r79.2.1) rfl) (qb (qa (.bool r79.2.2) rfl) (qd (qe (wp_ret ?_))))))))
   have b := yq b
   subst b
   exact qt rfl (RV.tmp rfl (RV.tmp rfl (RV.tmp rfl RV.nil))) ⟨_, A86, c87, (((hG3.trans hG49).trans hG76).trans hG82), rfl, H83, hs88⟩
  refine wp_seq (qc ?_)
  iterate 2 refine qb (qa (.bool (a0 == 2)) rfl) ?_
  refine qd (qe ?_)
  rcases qm (a0 == 2) with hb89 | hb89
  ·replace b := ifT b hb89
   refine qs (vb hb89) (wp_skip (qe ?_))
   exact ⟨_, _, (a0 == 2), qf _ ⟨rfl, yp⟩, GLe.refl _, H4, b⟩
  replace b := ifF b hb89
  refine qn (vb hb89) (qc ?_)
  iterate 2 refine qb (qa (.bool (a0 == 4)) rfl) ?_
  refine qd (qe ?_)
  exact ⟨_, _, (a0 == 4), qf _ ⟨rfl, yp⟩, GLe.refl _, H4, b⟩
 refine qc ?_
 iterate 2 refine qb (qa (.bool a1) rfl) ?_
 rcases qm a1 with hb90 | hb90
 ·replace b := ifT b hb90
  refine qj rfl rfl rfl (vb hb90) (qb (qa (.int .i64 a0) rfl) (qj rfl rfl rfl (vb hb90) (qb (qa (.bool (a0 == 7)) rfl) (qb (qB (.bool (a0 == 7)) (vb hb90) rfl) (qd (qe ?_))))))
  exact ⟨_, _, (a0 == 7), qf _ ⟨rfl, rfl, rfl, yp⟩, GLe.refl _, H, b⟩
 replace b := ifF b hb90
 iterate 2 refine qJ rfl rfl rfl (vb hb90) ?_
 refine qb (qr (.bool false) (vb hb90) rfl) (qd (qe ?_))
 exact ⟨_, _, false, qf _ ⟨rfl, rfl, rfl, yp⟩, GLe.refl _, H, b⟩
end Go.Proofs.YtadlndnagfnlgaaGreatDoor.W
