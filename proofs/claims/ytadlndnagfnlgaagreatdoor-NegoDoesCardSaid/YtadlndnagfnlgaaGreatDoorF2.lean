/- Calls come to what the plain functions say: written by a program (gen.py). -/
import Derived.Test.YtadlndnagfnlgaaGreatDoorG
import Derived.Test.YtadlndnagfnlgaaGreatDoorF0
import Derived.Test.YtadlndnagfnlgaaGreatDoorF1
set_option linter.unusedVariables false
set_option maxRecDepth 20000
namespace Go.Proofs.YtadlndnagfnlgaaGreatDoor.W
open Go
set_option maxHeartbeats 4000000
attribute [local irreducible] wpList wpAny Code.wp wpListIn wpAnyIn Code.wpIn
theorem wl_ap {c : World} (k : Hc c) {ops : Array Oper} {Q : Exit → Act → World → Prop} {rest : List Oper} {n : Nat} {T : Fr} {w : World} {G : qk} {σ : List Ent} {d ty : Nat} {pos : String} {af : Array Edge} {x : Operand} {xs : List Operand} {tys : Array TypeId} {v : Value} {y : FV} {a0 : Int} {r : Bool}
  (H : St c G w σ) (hx : ev n T x = v) (hv : kFV.V G v y) (hxs : xs.map (ev n T) = [(.int .u32 a0)]) (hr : ap y a0 = some r)
  (h : ∀ G' w', GLe G G' → St c G' w' σ → wpList Tryz.prog ops Q rest (mk n (upd T d (.bool r))) w') : wpList Tryz.prog ops Q (⟨some d, .call { callee := .value x, args := xs.toArray, argTypes := tys }, ty, pos, af, none⟩ :: rest) (mk n T) w := by
 obtain ⟨cs, rfl, hv⟩ := hv
 cases y with
 | nil => cases hr
 | rules_kinds_1 r0 =>
  obtain ⟨a, rfl, hp⟩ := hv
  refine jT (first := []) (captured := [.pointer (some a)]) (vs := [(.int .u32 a0), .pointer (some a)]) en235 hx (by rw [hxs]; rfl) (rules_kinds_1_ok k hp H hr) ?_
  rintro v w' ⟨G', hG, rfl, H'⟩
  exact h _ _ hG H'
 | rules_kinds_2 =>
  have e : cs = _ := hv
  subst e
  refine jT (first := []) (captured := []) (vs := [(.int .u32 a0)]) en236 hx (by rw [hxs]; rfl) (rules_kinds_2_ok k H hr) ?_
  rintro v w' ⟨G', hG, rfl, H'⟩
  exact h _ _ hG H'
 | rules_never =>
  have e : cs = _ := hv
  subst e
  refine jT (first := []) (captured := []) (vs := [(.int .u32 a0)]) en237 hx (by rw [hxs]; rfl) (rules_never_ok k H hr) ?_
  rintro v w' ⟨G', hG, rfl, H'⟩
  exact h _ _ hG H'
 | rules_kinds_3 r0 =>
  obtain ⟨a, rfl, hp⟩ := hv
  refine jT (first := []) (captured := [.pointer (some a)]) (vs := [(.int .u32 a0), .pointer (some a)]) en238 hx (by rw [hxs]; rfl) (rules_kinds_3_ok k hp H hr) ?_
  rintro v w' ⟨G', hG, rfl, H'⟩
  exact h _ _ hG H'

theorem rules_Address_1_ok {c : World} (k : Hc c) {G : qk} {w : World} {σ : List Ent} {a0 : TOpt} {v0_ : Value} (h0_ : qx.V G v0_ a0) (H : St c G w (σ)) {r : Bool} (b : rules_Address_1 a0 = some r) :
  Calls Tryz.prog 243 ([v0_] : List Value).toArray w (zu fun v w' => ∃ (G' : qk), GLe G G' ∧ tup [(.bool r)] = v ∧ St c G' w' (σ)) := by
 unfold rules_Address_1 at b
 refine qG Tryz.func243 rfl rfl rfl (wp_seq (qc ?_))
 refine zp (K := qx) (x := a0) H rfl h0_ ?_
 intro b1 w4 H2
 refine qb (qa (.bool false) rfl) (qd (qe (wp_seq (qc ?_))))
 refine qR (qT (G := G) zr29 rfl bs29 rfl (Parts.cons fo29_0 xO (dBool.toV _ _) (Parts.nil _))) ?_
 intro v5 hv6
 refine ql H2 (i := 0) rfl (Lens.id qx) zc rfl ?_
 intro v7 hv8
 obtain ⟨r9, hr10, b⟩ := qu b
 refine qo (vs := [v5, v7]) en171 rfl (rules_of_ok k hv6 hv8 H2 hr10) ?_
 rintro v15 w14 ⟨G11, v16, hG12, rfl, H13, hv17⟩
 refine qb (qa (.tuple #[v16, (.bool r9.2)]) rfl) (qb (qa v16 rfl) (qb (qa (.bool r9.2) rfl) ?_))
 refine qP H13 zr219 ?_
 intro b18 w21 H19
 refine qy (z := r9.1) H19 (i := 0) rfl (Lens.id qw) ty219 rfl rfl hv17 ?_
 intro w23 H22
 refine qb (qa (.bool r9.2) rfl) (qd (qe (wp_seq (qc ?_))))
 iterate 2 refine qb (qa (.bool r9.2) rfl) ?_
 refine qd (qe (wp_ret ?_))
 have b := yq b
 subst b
 exact qt rfl (RV.tmp rfl RV.nil) ⟨_, hG12, rfl, (St.pk [] 2 H22 rfl (by decide))⟩

theorem slices_IndexFunc_Opt_rules_Address_1_ok {c : World} (k : Hc c) {G : qk} {w : World} {σ : List Ent} {a0 : (List TOpt)} {A0_ : Option Addr} {c0_ : Nat} (h0_ : SlR qx G A0_ c0_ a0) (H : St c G w (σ)) {r : Int} (b : xC a0 = some r) :
  Calls Tryz.prog 169 ([(.slice A0_ a0.length c0_), (.func (.func 243) #[] #[])] : List Value).toArray w (zu fun v w' => ∃ (G' : qk), GLe G G' ∧ tup [(.int .i64 r)] = v ∧ St c G' w' (σ)) := by
 unfold xC at b
 refine qG Tryz.func169 rfl rfl rfl (wp_seq (qc (qb (qa (.int .i64 0) rfl) (qd (qe (wp_seq (wp_seq (qc (qb (qa (.slice A0_ a0.length c0_) rfl) (qb (zb zQ rfl) (qb (qa (.int .i64 0) rfl) (qd (qe ?_)))))))))))))
 refine wp_block ?_
 refine ja (fun (s : Int) a w => ∃ (T0 : Fr) (G1 : qk), a = mk 19 (qQ T0 [(0, (.slice A0_ a0.length c0_)), (1, (.func (.func 243) #[] #[])), (7, (.int .i64 (a0.length : Int))), (8, (.int .i64 s))]) ∧ GLe G G1 ∧ St c G1 w (σ)) b ?_ ?_
 ·exact ⟨_, _, qf _ ⟨rfl, rfl, rfl, rfl, yp⟩, GLe.refl _, H⟩
 rintro x18 a w y21 ⟨T0, G22, rfl, hG19, H20⟩ b hy1
 refine wp_seq (qc (qb (qa (.bool (decide (x18 < (a0.length : Int)))) rfl) (qd (qe (wp_seq ?_)))))
 rcases qm (decide (x18 < (a0.length : Int))) with hb23 | hb23
 ·replace b := ifT b hb23
  refine qs (vb hb23) (wp_skip (qe (wp_seq (wp_block (wp_seq (qc ?_))))))
  iterate 2 refine qb (qa (.int .i64 x18) rfl) ?_
  refine qd (qe (wp_seq (qc (qb (qa (.func (.func 243) #[] #[]) rfl) (qb (qa (.slice A0_ a0.length c0_) rfl) (qb (qa (.int .i64 x18) rfl) ?_))))))
  obtain ⟨x24, hx25, b⟩ := qu b
  refine qR (qY (h0_.mono hG19) zQ zc rfl rfl hx25) ?_
  intro a26 hp27
  refine zH H20 hp27 zc rfl ?_
  intro v28 hv29
  obtain ⟨r30, hr31, b⟩ := qu b
  refine jT (first := []) (captured := []) (vs := [v28]) en243 rfl rfl (rules_Address_1_ok k hv29 H20 hr31) ?_
  rintro v36 w35 ⟨G32, hG33, rfl, H34⟩
  refine qd (qe ?_)
  rcases qm r30 with hb37 | hb37
  ·replace b := ifT b hb37
   refine qs (vb hb37) (wp_seq (qc ?_))
   iterate 2 refine qb (qa (.int .i64 x18) rfl) ?_
   refine qd (qe (wp_ret (zg ?_)))
   iterate 2 refine qI ?_
   replace b := jJ b hy1
   refine zg (qI ?_)
   have b := yq b
   subst b
   exact qt rfl (RV.tmp rfl RV.nil) ⟨_, (hG19.trans hG33), rfl, H34⟩
  replace b := ifF b hb37
  refine qn (vb hb37) (wp_skip (zn (qe (qc ?_))))
  iterate 2 refine qb (qa (.int .i64 (IntKind.i64.wrap (x18 + 1))) rfl) ?_
  refine qd (qe ?_)
  exact ⟨_, (yq b).symm, _, _, qf _ ⟨rfl, rfl, rfl, rfl, yp⟩, (hG19.trans hG33), H34⟩
 replace b := ifF b hb23
 refine qn (vb hb23) ?_
 refine wp_exit ?_
 iterate 2 refine xB ?_
 replace b := jJ b hy1
 refine blk_e ?_
 refine qe (wp_seq (qc (qb (qa (.int .i64 (-1)) rfl) (qd (qe (wp_ret ?_))))))
 have b := yq b
 subst b
 exact qt rfl (RV.tmp rfl RV.nil) ⟨_, hG19, rfl, H20⟩

theorem rules_Address_ok {c : World} (k : Hc c) {G : qk} {w : World} {σ : List Ent} {a0 : (List TOpt)} {A0_ : Option Addr} {c0_ : Nat} (h0_ : SlR qx G A0_ c0_ a0) (H : St c G w (σ)) {r : (Int × Bool)} (b : rules_Address a0 = some r) :
  Calls Tryz.prog 216 ([(.slice A0_ a0.length c0_)] : List Value).toArray w (zu fun v w' => ∃ (G' : qk), GLe G G' ∧ tup [(.int .u32 r.1), (.bool r.2)] = v ∧ St c G' w' (σ)) := by
 unfold rules_Address at b
 refine qG Tryz.func216 rfl rfl rfl (wp_seq (qc (qb (qa (.int .u32 0) rfl) (qb (qa (.bool false) rfl) (qd (qe (wp_seq (qc (qb (qa (.slice A0_ a0.length c0_) rfl) ?_)))))))))
 obtain ⟨r1, hr2, b⟩ := qu b
 refine qo (vs := [(.slice A0_ a0.length c0_), (.func (.func 243) #[] #[])]) en169 rfl (slices_IndexFunc_Opt_rules_Address_1_ok k h0_ H hr2) ?_
 rintro v7 w6 ⟨G3, hG4, rfl, H5⟩
 refine qb (qa (.int .i64 r1) rfl) (qd (qe (wp_seq (wp_seq (qc (qb (qa (.int .i64 r1) rfl) (qb (qa (.bool (decide (r1 < 0))) rfl) (qd (qe ?_)))))))))
 rcases qm (decide (r1 < 0)) with hb8 | hb8
 ·replace b := ifT b hb8
  refine qs (vb hb8) (wp_seq (qc (qb (qa (.int .u32 0) rfl) (qb (qa (.bool false) rfl) (qd (qe (wp_ret (qI ?_))))))))
  have b := yq b
  subst b
  exact qt rfl (RV.tmp rfl (RV.tmp rfl RV.nil)) ⟨_, hG4, rfl, H5⟩
 replace b := ifF b hb8
 refine qn (vb hb8) (wp_skip (qe (wp_seq (qc (qb (qa (.slice A0_ a0.length c0_) rfl) (qb (qa (.int .i64 r1) rfl) ?_))))))
 obtain ⟨x9, hx10, b⟩ := qu b
 refine qR (qY (h0_.mono hG4) zQ zc rfl rfl hx10) ?_
 intro a11 hp12
 refine qb (jW jp rfl) ?_
 refine zH H5 (hp12.lens qZ) jy rfl ?_
 intro v13 hv14
 obtain ⟨A15, c16, rfl, hs17⟩ := qN hv14
 obtain ⟨r18, hr19, b⟩ := qu b
 refine qo (vs := [(.slice A15 x9.Data.length c16)]) en128 rfl (opts_Number_ok k hs17 H5 hr19) ?_
 rintro v24 w23 ⟨G20, hG21, rfl, H22⟩
 refine qb (qa (.int .u32 r18) rfl) (qb (qa (.bool true) rfl) (qd (qe (wp_ret ?_))))
 have b := yq b
 subst b
 exact qt rfl (RV.tmp rfl (RV.tmp rfl RV.nil)) ⟨_, (hG4.trans hG21), rfl, H22⟩

theorem rules_Answer_ok {c : World} (k : Hc c) {G : qk} {w : World} {σ : List Ent} {a0 : TRule} {v0_ : Value} {a1 : (List TOpt)} {A1_ : Option Addr} {c1_ : Nat} {a2 : Int} (h0_ : qU.V G v0_ a0) (h1_ : SlR qx G A1_ c1_ a1) (H : St c G w (σ)) {r : (Int × (List TOpt))} (b : rules_Answer a0 a1 a2 = some r) :
  Calls Tryz.prog 188 ([v0_, (.slice A1_ a1.length c1_), (.int .i64 a2)] : List Value).toArray w (zu fun v w' => ∃ (G' : qk) (A1' : Option Addr) (c2' : Nat), GLe G G' ∧ tup [(.int .u8 r.1), (.slice A1' r.2.length c2')] = v ∧ St c G' w' (σ) ∧ SlR qx G' A1' c2' r.2) := by
 unfold rules_Answer at b
 refine qG Tryz.func188 rfl rfl rfl (wp_seq (qc ?_))
 refine zp (K := qU) (x := a0) H rfl h0_ ?_
 intro b1 w4 H2
 refine qb (qa (.int .u8 0) rfl) (qb (qa (.slice none 0 0) rfl) (qd (qe (wp_seq (qc ?_)))))
 iterate 3 refine qb (qa (.slice none 0 0) rfl) ?_
 refine qd (qe (wp_seq (wp_seq (qc (qb (qa (.slice A1_ a1.length c1_) rfl) (qb (zb zQ rfl) (qb (qa (.int .i64 0) rfl) (qd (qe (wp_block ?_))))))))))
 have H720 := H2.nilrow qx none 133
 have H722 := H720.nilrow qx none 133
 have H724 := H722.nilrow qx none 133
 refine ja (fun (s : ((List TOpt) × (List TOpt) × (List TOpt) × Int)) a w => ∃ (T0 : Fr) (G1 : qk) (g225 : Option Nat) (A226 : Option Addr) (c227 : Nat) (g230 : Option Nat) (A231 : Option Addr) (c232 : Nat) (g235 : Option Nat) (A236 : Option Addr) (c237 : Nat), a = mk 92 (qQ T0 [(1, (.slice A1_ a1.length c1_)), (2, (.int .i64 a2)), (3, (pt b1)), (8, (.slice A226 s.1.length c227)), (9, (.slice A231 s.2.1.length c232)), (10, (.slice A236 s.2.2.1.length c237)), (17, (.slice A1_ a1.length c1_)), (18, (.int .i64 (a1.length : Int))), (19, (.int .i64 s.2.2.2))]) ∧ GLe G G1 ∧ St c G1 w ((.row qx g225 A226 c227 133 s.1) :: (.row qx g230 A231 c232 133 s.2.1) :: (.row qx g235 A236 c237 133 s.2.2.1) :: (.box b1 29 (qU.at_ a0)) :: σ)) b ?_ ?_
 ·exact ⟨_, _, none, none, 0, none, none, 0, none, none, 0, qf _ ⟨rfl, rfl, rfl, rfl, rfl, rfl, rfl, rfl, rfl, yp⟩, GLe.refl _, (St.pk [2, 1, 0, 3] 4 H724 rfl (by decide))⟩
 rintro ⟨x224, x229, x234, x239⟩ a w y242 ⟨T0, G243, g225, A226, c227, g230, A231, c232, g235, A236, c237, rfl, hG240, H241⟩ b hy5
 refine wp_seq (qc (qb (qa (.bool (decide (x239 < (a1.length : Int)))) rfl) (qd (qe (wp_seq ?_)))))
 rcases qm (decide (x239 < (a1.length : Int))) with hb244 | hb244
 ·replace b := ifT b hb244
  refine qs (vb hb244) (wp_skip (qe ?_))
  refine wp_seq (join (fun a w => ∃ (T0 G1 : _) (x364 : (List TOpt)) (x369 : (List TOpt)) (x374 : (List TOpt)) (g365 A366 c367 g370 A371 c372 g375 A376 c377 : _), a = mk 92 (qQ T0 [(1, (.slice A1_ a1.length c1_)), (2, (.int .i64 a2)), (3, (pt b1)), (8, (.slice A366 x364.length c367)), (9, (.slice A371 x369.length c372)), (10, (.slice A376 x374.length c377)), (17, (.slice A1_ a1.length c1_)), (18, (.int .i64 (a1.length : Int))), (19, (.int .i64 x239))]) ∧ GLe G243 G1 ∧ St c G1 w ((.row qx g365 A366 c367 133 x364) :: (.row qx g370 A371 c372 133 x369) :: (.row qx g375 A376 c377 133 x374) :: (.box b1 29 (qU.at_ a0)) :: σ) ∧ rules_Answer_j2 x239 x364 x369 x374 = some y242) ?_ ?_)
  ·rintro a w ⟨T0, G381, x364, x369, x374, g365, A366, c367, g370, A371, c372, g375, A376, c377, rfl, hG379, H380, b⟩
   refine qc ?_
   iterate 2 refine qb (qa (.int .i64 (IntKind.i64.wrap (x239 + 1))) rfl) ?_
   refine qd (qe ?_)
   exact ⟨_, (yq b).symm, _, _, g365, A366, c367, g370, A371, c372, g375, A376, c377, qf _ ⟨rfl, rfl, rfl, rfl, rfl, rfl, rfl, rfl, rfl, yp⟩, (hG240.trans hG379), H380⟩
  refine wp_block (wp_seq (qc ?_))
  obtain ⟨x382, hx383, b⟩ := qu b
  refine qR (qY (h1_.mono hG240) zQ zc rfl rfl hx383) ?_
  intro a384 hp385
  refine zH H241 hp385 zc rfl ?_
  intro v386 hv387
  refine qP H241 xv ?_
  intro b388 w391 H389
  refine qy (z := x382) H389 (i := 0) rfl (Lens.id qx) zc rfl rfl hv387 ?_
  intro w393 H392
  refine qd (qe (wp_seq (qc ?_)))
  refine ql H392 (i := 4) rfl (Lens.id qU) ty29 rfl ?_
  intro v394 hv395
  refine ql H392 (i := 0) rfl (Lens.id qx) zc rfl ?_
  intro v396 hv397
  obtain ⟨r398, hr399, b⟩ := qu b
  refine qo (vs := [v394, v396]) en171 rfl (rules_of_ok k hv395 hv397 H392 hr399) ?_
  rintro v404 w403 ⟨G400, v405, hG401, rfl, H402, hv406⟩
  refine qb (qa (.tuple #[v405, (.bool r398.2)]) rfl) (qb (qa v405 rfl) (qb (qa (.bool r398.2) rfl) ?_))
  refine qP H402 zr219 ?_
  intro b407 w410 H408
  refine qy (z := r398.1) H408 (i := 0) rfl (Lens.id qw) ty219 rfl rfl hv406 ?_
  intro w412 H411
  refine qb (qa (.bool r398.2) rfl) (qd (qe (wp_block (wp_seq (qc (qb (qa (.bool r398.2) rfl) ?_))))))
  iterate 2 refine qb (qa (.bool (!r398.2)) rfl) ?_
  refine qd (qe ?_)
  rcases qm (!r398.2) with hb413 | hb413
  ·replace b := ifT b hb413
   refine qs (vb hb413) (qc (qb (qa (.slice A226 x224.length c227) rfl) ?_))
   refine ql H411 (i := 1) rfl (Lens.id qx) zc rfl ?_
   intro v414 hv415
   refine zh (K := qx) (vs := [v414]) (xs := ([x382] : (List TOpt))) H411 zQ el133 rfl ⟨hv415, yp⟩ rfl (by decide) ?_
   intro g416 w418 H417
   obtain ⟨r420, hr421, b⟩ := qu b
   refine zB H417 zQ el133 (i := 3) rfl rfl rfl ((H417.okAt (i := 0) rfl).src) hr421 ?_
   intro g422 A423 c424 w425 H426
   refine qb (qa (.slice A423 r420.length c424) rfl) (qd (zn (zn (qe ?_))))
   exact ⟨_, _, r420, x229, x234, g422, A423, c424, g230, A231, c232, g235, A236, c237, qf _ ⟨rfl, rfl, rfl, rfl, rfl, rfl, rfl, rfl, rfl, yp⟩, hG401, (St.pk [3, 4, 5, 6] 7 H426 rfl (by decide)), b⟩
  replace b := ifF b hb413
  refine qn (vb hb413) (wp_seq ?_)
  refine jP (f := 7) H411 mixed ?_
  intro w447 H448
  refine xW (by repeat (first | exact PF.base | apply PF.then_ | apply PF.blk)) ?_
  intro B E
  obtain ⟨r456, hr457, b⟩ := qu b
  obtain ⟨r463, hr464, b⟩ := qu b
  refine qF (fuel := 2) (m := 31) (fun a w => ∃ T0 G1 v504, a = mk 92 (qQ T0 [(1, (.slice A1_ a1.length c1_)), (2, (.int .i64 a2)), (3, (pt b1)), (8, (.slice A226 x224.length c227)), (9, (.slice A231 x229.length c232)), (10, (.slice A236 x234.length c237)), (12, (pt b388)), (13, (pt b407)), (17, (.slice A1_ a1.length c1_)), (18, (.int .i64 (a1.length : Int))), (19, (.int .i64 x239)), (38, v504), (41, (.int .u32 r456))]) ∧ GLe G400 G1 ∧ St c G1 w ((.box b1 29 (qU.at_ a0)) :: (.row qx g225 A226 c227 133 x224) :: (.row qx g230 A231 c232 133 x229) :: (.row qx g235 A236 c237 133 x234) :: (.box b388 133 (qx.at_ x382)) :: (.box b407 219 (qw.at_ r398.1)) :: σ) ∧ kFV.V G1 v504 r398.1.Not) ?_ ?_
  ·rintro a w ⟨T0, G503, v504, rfl, hG501, H502, hv505⟩
   refine qi [5] ⟨qg (m' := 63) fun I j => ?_, yp⟩
   refine wl_ap k H502 rfl hv505 rfl hr464 ?_
   intro G510 w511 hG512 H513
   refine qd (j _ _ ?_)
   refine qq (i := 6) (m' := 127) rfl (qa (.bool r463) rfl) B E ?_
   refine zA (qe ?_)
   rcases qm r463 with hb514 | hb514
   ·replace b := ifT b hb514
    refine qs (vb hb514) (wp_seq (qc (qb (qa (.slice A231 x229.length c232) rfl) ?_)))
    refine ql H513 (i := 4) rfl (Lens.id qx) zc rfl ?_
    intro v515 hv516
    refine zh (K := qx) (vs := [v515]) (xs := ([x382] : (List TOpt))) H513 zQ el133 rfl ⟨hv516, yp⟩ rfl (by decide) ?_
    intro g517 w519 H518
    obtain ⟨r521, hr522, b⟩ := qu b
    refine zB H518 zQ el133 (i := 3) rfl rfl rfl ((H518.okAt (i := 0) rfl).src) hr522 ?_
    intro g523 A524 c525 w526 H527
    refine qb (qa (.slice A524 r521.length c525) rfl) (qd (qe (qc (qb (qa (.slice A236 x234.length c237) rfl) (qb (qh jc rfl) (qp H527 (i := 5) rfl qX (qz .u8) ty5 rfl (qb (qh fo219_0 rfl) (qp H527 (i := 6) rfl zP (qz .i64) ty3 rfl (qb (qh fo219_2 rfl) (qp H527 (i := 6) rfl xD (qz .u32) ty27 rfl ?_))))))))))
    obtain ⟨r528, hr529, b⟩ := qu b
    refine qo (vs := [(.int .u8 x382.Typ), (.int .i64 r398.1.Long), (.int .u32 r398.1.Should)]) en166 rfl (rules_number_ok k H527 hr529) ?_
    rintro v534 w533 ⟨G530, v535, hG531, rfl, H532, hv536⟩
    refine zh (K := qx) (vs := [v535]) (xs := ([r528] : (List TOpt))) H532 zQ el133 rfl ⟨hv536, yp⟩ rfl (by decide) ?_
    intro g537 w539 H538
    obtain ⟨r541, hr542, b⟩ := qu b
    refine zB H538 zQ el133 (i := 5) rfl rfl rfl ((H538.okAt (i := 0) rfl).src) hr542 ?_
    intro g543 A544 c545 w546 H547
    refine qb (qa (.slice A544 r541.length c545) rfl) (qd (zn (zn (qe ?_))))
    exact ⟨_, _, x224, r521, r541, g225, A226, c227, g523, A524, c525, g543, A544, c545, qf _ ⟨rfl, rfl, rfl, rfl, rfl, rfl, rfl, rfl, rfl, yp⟩, (((hG401.trans hG501).trans hG512).trans hG531), (St.pk [3, 4, 5, 2] 8 H547 rfl (by decide)), b⟩
   replace b := ifF b hb514
   refine qn (vb hb514) (wp_skip ?_)
   iterate 2 refine zn ?_
   refine qe ?_
   exact ⟨_, _, x224, x229, x234, g225, A226, c227, g230, A231, c232, g235, A236, c237, qf _ ⟨rfl, rfl, rfl, rfl, rfl, rfl, rfl, rfl, rfl, yp⟩, ((hG401.trans hG501).trans hG512), (St.pk [1, 2, 3, 0] 6 H513 rfl (by decide)), b⟩
  intro hM500
  refine qF (fuel := 3) (m := 15) (fun a w => ∃ T0 G1 v490 A492 c493, a = mk 92 (qQ T0 [(1, (.slice A1_ a1.length c1_)), (2, (.int .i64 a2)), (3, (pt b1)), (8, (.slice A226 x224.length c227)), (9, (.slice A231 x229.length c232)), (10, (.slice A236 x234.length c237)), (12, (pt b388)), (13, (pt b407)), (17, (.slice A1_ a1.length c1_)), (18, (.int .i64 (a1.length : Int))), (19, (.int .i64 x239)), (38, v490), (40, (.slice A492 x382.Data.length c493))]) ∧ GLe G400 G1 ∧ St c G1 w ((.box b1 29 (qU.at_ a0)) :: (.row qx g225 A226 c227 133 x224) :: (.row qx g230 A231 c232 133 x229) :: (.row qx g235 A236 c237 133 x234) :: (.box b388 133 (qx.at_ x382)) :: (.box b407 219 (qw.at_ r398.1)) :: σ) ∧ kFV.V G1 v490 r398.1.Not ∧ SlR kB G1 A492 c493 x382.Data) ?_ ?_
  ·rintro a w ⟨T0, G489, v490, A492, c493, rfl, hG487, H488, hv491, hs494⟩
   refine qi [4] ⟨qg (m' := 31) fun I j => ?_, yp⟩
   refine qo (vs := [(.slice A492 x382.Data.length c493)]) en128 rfl (opts_Number_ok k hs494 H488 hr457) ?_
   rintro v552 w551 ⟨G548, hG549, rfl, H550⟩
   refine qd (j _ _ ?_)
   exact hM500 _ _ ⟨_, _, v490, qf _ ⟨rfl, rfl, rfl, rfl, rfl, rfl, rfl, rfl, rfl, rfl, rfl, rfl, rfl, yp⟩, (hG487.trans hG549), H550, (hv491.mono hG549)⟩
  intro hM486
  refine qq (i := 0) (m' := 1) rfl (qh fo219_1 rfl) B E ?_
  refine qq (i := 2) (m' := 5) rfl (qh jp rfl) B E ?_
  refine qi [1, 3] ⟨?_, ?_, yp⟩
  ·refine qg (m' := 7) fun I j => ?_
   refine ql H448 (i := 0) rfl xo ty217 rfl ?_
   intro v553 hv554
   refine qd (j _ _ ?_)
   refine qi [3] ⟨qg (m' := 15) fun I j => ?_, yp⟩
   refine ql H448 (i := 1) rfl qZ jy rfl ?_
   intro v555 hv556
   obtain ⟨A557, c558, rfl, hs559⟩ := qN hv556
   refine qd (j _ _ ?_)
   exact hM486 _ _ ⟨_, _, v553, A557, c558, qf _ ⟨rfl, rfl, rfl, rfl, rfl, rfl, rfl, rfl, rfl, rfl, rfl, rfl, rfl, yp⟩, GLe.refl _, (St.pk [5, 2, 3, 4, 1, 0] 6 H448 rfl (by decide)), hv554, hs559⟩
  refine qg (m' := 13) fun I j => ?_
  refine ql H448 (i := 1) rfl qZ jy rfl ?_
  intro v560 hv561
  obtain ⟨A562, c563, rfl, hs564⟩ := qN hv561
  refine qd (j _ _ ?_)
  refine qi [1, 4] ⟨?_, ?_, yp⟩
  ·refine qg (m' := 15) fun I j => ?_
   refine ql H448 (i := 0) rfl xo ty217 rfl ?_
   intro v565 hv566
   refine qd (j _ _ ?_)
   exact hM486 _ _ ⟨_, _, v565, A562, c563, qf _ ⟨rfl, rfl, rfl, rfl, rfl, rfl, rfl, rfl, rfl, rfl, rfl, rfl, rfl, yp⟩, GLe.refl _, (St.pk [5, 2, 3, 4, 1, 0] 6 H448 rfl (by decide)), hv566, hs564⟩
  refine qg (m' := 29) fun I j => ?_
  refine qo (vs := [(.slice A562 x382.Data.length c563)]) en128 rfl (opts_Number_ok k hs564 H448 hr457) ?_
  rintro v571 w570 ⟨G567, hG568, rfl, H569⟩
  refine qd (j _ _ ?_)
  refine qi [1] ⟨qg (m' := 31) fun I j => ?_, yp⟩
  refine ql H569 (i := 0) rfl xo ty217 rfl ?_
  intro v572 hv573
  refine qd (j _ _ ?_)
  exact hM500 _ _ ⟨_, _, v572, qf _ ⟨rfl, rfl, rfl, rfl, rfl, rfl, rfl, rfl, rfl, rfl, rfl, rfl, rfl, yp⟩, hG568, (St.pk [5, 2, 3, 4, 1, 0] 6 H569 rfl (by decide)), hv573⟩
 replace b := ifF b hb244
 refine qn (vb hb244) ?_
 refine wp_exit ?_
 iterate 2 refine xB ?_
 replace b := jJ b hy5
 refine blk_e ?_
 refine qe ?_
 refine wp_seq (join (fun a w => ∃ (T0 G1 : _) (x617 : (List TOpt)) (x621 : (List TOpt)) (x625 : (List TOpt)) (A618 c619 A622 c623 A626 c627 : _), a = mk 92 (qQ T0 [(1, (.slice A1_ a1.length c1_)), (2, (.int .i64 a2)), (8, (.slice A618 x617.length c619)), (9, (.slice A622 x621.length c623)), (10, (.slice A626 x625.length c627))]) ∧ GLe G243 G1 ∧ St c G1 w (σ) ∧ SlR qx G1 A618 c619 x617 ∧ SlR qx G1 A622 c623 x621 ∧ SlR qx G1 A626 c627 x625 ∧ rules_Answer_j3 a1 a2 x617 x621 x625 = some r) ?_ ?_)
 ·rintro a w ⟨T0, G631, x617, x621, x625, A618, c619, A622, c623, A626, c627, rfl, hG629, H630, hs620, hs624, hs628, b⟩
  refine wp_seq (join (fun a w => ∃ (T0 G1 : _) (x634 : (List TOpt)) (x638 : (List TOpt)) (A635 c636 A639 c640 : _), a = mk 92 (qQ T0 [(1, (.slice A1_ a1.length c1_)), (8, (.slice A635 x634.length c636)), (10, (.slice A639 x638.length c640))]) ∧ GLe G631 G1 ∧ St c G1 w (σ) ∧ SlR qx G1 A635 c636 x634 ∧ SlR qx G1 A639 c640 x638 ∧ rules_Answer_j4 a1 x634 x638 = some r) ?_ ?_)
  ·rintro a w ⟨T0, G644, x634, x638, A635, c636, A639, c640, rfl, hG642, H643, hs637, hs641, b⟩
   refine wp_seq (wp_block (wp_seq (qc (qb (qa (.slice A635 x634.length c636) rfl) (qb (zb zQ rfl) ?_)))))
   iterate 2 refine qb (qa (.bool (decide ((x634.length : Int) > 0))) rfl) ?_
   refine qd (qe ?_)
   rcases qm (decide ((x634.length : Int) > 0)) with hb645 | hb645
   ·replace b := ifT b hb645
    refine qs (vb hb645) (wp_seq (qc (qb (qa (.slice A635 x634.length c636) rfl) (qb (qa (.int .u8 4) rfl) (qb (qa (.slice A635 x634.length c636) rfl) (qd (qe (wp_ret (zg (qI ?_))))))))))
    have b := yq b
    subst b
    exact qt rfl (RV.tmp rfl (RV.tmp rfl RV.nil)) ⟨_, A635, c636, ((hG240.trans hG629).trans hG642), rfl, H643, hs637⟩
   replace b := ifF b hb645
   refine qn (vb hb645) (wp_seq (qc (qb (qa (.slice A639 x638.length c640) rfl) (qb (zb zQ rfl) ?_))))
   iterate 2 refine qb (qa (.bool (decide ((x638.length : Int) > 0))) rfl) ?_
   refine qd (qe ?_)
   rcases qm (decide ((x638.length : Int) > 0)) with hb646 | hb646
   ·replace b := ifT b hb646
    refine qs (vb hb646) (wp_seq (qc (qb (qa (.slice A639 x638.length c640) rfl) (qb (qa (.int .u8 3) rfl) (qb (qa (.slice A639 x638.length c640) rfl) (qd (qe (wp_ret (zg (qI ?_))))))))))
    have b := yq b
    subst b
    exact qt rfl (RV.tmp rfl (RV.tmp rfl RV.nil)) ⟨_, A639, c640, ((hG240.trans hG629).trans hG642), rfl, H643, hs641⟩
   replace b := ifF b hb646
   refine qn (vb hb646) (wp_skip (zn (qe (wp_seq (qc (qb (qa (.slice A1_ a1.length c1_) rfl) (qb (qa (.int .u8 2) rfl) (qb (qa (.slice A1_ a1.length c1_) rfl) (qd (qe (wp_ret ?_)))))))))))
   have b := yq b
   subst b
   exact qt rfl (RV.tmp rfl (RV.tmp rfl RV.nil)) ⟨_, A1_, c1_, ((hG240.trans hG629).trans hG642), rfl, H643, (h1_.mono ((hG240.trans hG629).trans hG642))⟩
  refine wp_seq (qc (qb (qa (.int .i64 a2) rfl) (qb (qa (.bool (decide (a2 ≥ 3))) rfl) (qd (qe ?_)))))
  rcases qm (decide (a2 ≥ 3)) with hb647 | hb647
  ·replace b := ifT b hb647
   refine qs (vb hb647) (wp_seq (qc (qb (qa (.slice none 0 0) rfl) (qd (qe (wp_seq (qc (qb (qa (.slice A618 x617.length c619) rfl) (qb (zb zQ rfl) (qb (qa (.bool ((x617.length : Int) == 0)) rfl) (qd (qe ?_))))))))))))
   rcases qm ((x617.length : Int) == 0) with hb648 | hb648
   ·replace b := ifT b hb648
    refine qs (vb hb648) (qc ?_)
    iterate 2 refine qb (qa (.slice A622 x621.length c623) rfl) ?_
    refine qd (qe ?_)
    exact ⟨_, _, x621, ([] : (List TOpt)), A622, c623, none, 0, qf _ ⟨rfl, rfl, rfl, yp⟩, GLe.refl _, H630, hs624, (SlR.nil _ _), b⟩
   replace b := ifF b hb648
   refine qn (vb hb648) (wp_skip (qe ?_))
   exact ⟨_, _, x617, ([] : (List TOpt)), A618, c619, none, 0, qf _ ⟨rfl, rfl, rfl, yp⟩, GLe.refl _, H630, hs620, (SlR.nil _ _), b⟩
  replace b := ifF b hb647
  refine qn (vb hb647) (wp_skip (qe ?_))
  exact ⟨_, _, x617, x625, A618, c619, A626, c627, qf _ ⟨rfl, rfl, rfl, yp⟩, GLe.refl _, H630, hs620, hs628, b⟩
 refine wp_seq (qc (qb (qa (.slice A1_ a1.length c1_) rfl) ?_))
 obtain ⟨r649, hr650, b⟩ := qu b
 refine qo (vs := [(.slice A1_ a1.length c1_)]) en216 rfl (rules_Address_ok k (h1_.mono hG240) H241 hr650) ?_
 rintro v655 w654 ⟨G651, hG652, rfl, H653⟩
 refine qb (qa (.tuple #[(.int .u32 r649.1), (.bool r649.2)]) rfl) (qb (qa (.int .u32 r649.1) rfl) (qb (qa (.bool r649.2) rfl) (qb (qa (.int .u32 r649.1) rfl) (qb (qa (.bool r649.2) rfl) (qd (qe ?_))))))
 refine wp_seq (join (fun a w => ∃ (T0 G1 : _) (x657 : (List TOpt)) (x661 : (List TOpt)) (x665 : (List TOpt)) (x670 : Bool) (A658 c659 A662 c663 g666 A667 c668 : _), a = mk 92 (qQ T0 [(1, (.slice A1_ a1.length c1_)), (2, (.int .i64 a2)), (3, (pt b1)), (8, (.slice A658 x657.length c659)), (9, (.slice A662 x661.length c663)), (10, (.slice A667 x665.length c668)), (68, (.bool x670))]) ∧ GLe G651 G1 ∧ St c G1 w ((.row qx g666 A667 c668 133 x665) :: (.box b1 29 (qU.at_ a0)) :: σ) ∧ SlR qx G1 A658 c659 x657 ∧ SlR qx G1 A662 c663 x661 ∧ rules_Answer_j5 a0 a1 a2 x657 x661 x665 x670 = some r) ?_ ?_)
 ·rintro a w ⟨T0, G673, x657, x661, x665, x670, A658, c659, A662, c663, g666, A667, c668, rfl, hG671, H672, hs660, hs664, b⟩
  rcases qm x670 with hb674 | hb674
  ·replace b := ifT b hb674
   refine qs (vb hb674) (qc (qb (qa (.slice A667 x665.length c668) rfl) (qb (qh fo29_3 rfl) (qp H672 (i := 1) rfl lTRule_Addr (qz .u32) ty27 rfl ?_))))
   obtain ⟨r675, hr676, b⟩ := qu b
   refine qo (vs := [(.int .u8 3), (.int .i64 4), (.int .u32 a0.Addr)]) en166 rfl (rules_number_ok k H672 hr676) ?_
   rintro v681 w680 ⟨G677, v682, hG678, rfl, H679, hv683⟩
   refine zh (K := qx) (vs := [v682]) (xs := ([r675] : (List TOpt))) H679 zQ el133 rfl ⟨hv683, yp⟩ rfl (by decide) ?_
   intro g684 w686 H685
   obtain ⟨r688, hr689, b⟩ := qu b
   refine zB H685 zQ el133 (i := 1) rfl rfl rfl ((H685.okAt (i := 0) rfl).src) hr689 ?_
   intro g690 A691 c692 w693 H694
   refine qb (qa (.slice A691 r688.length c692) rfl) (qd ?_)
   obtain ⟨G695, hG696, H697, hs698⟩ := H694.stay (i := 1) rfl (H694.capA (i := 1) rfl)
   refine qe ?_
   exact ⟨_, _, x657, x661, r688, A658, c659, A662, c663, A691, c692, qf _ ⟨rfl, rfl, rfl, rfl, rfl, yp⟩, (((hG652.trans hG671).trans hG678).trans hG696), (St.pk [] 2 H697 rfl (by decide)), (hs660.mono (hG678.trans hG696)), (hs664.mono (hG678.trans hG696)), hs698, b⟩
  replace b := ifF b hb674
  refine qn (vb hb674) (wp_skip ?_)
  obtain ⟨G699, hG700, H701, hs702⟩ := H672.stay (i := 0) rfl (H672.capA (i := 0) rfl)
  refine qe ?_
  exact ⟨_, _, x657, x661, x665, A658, c659, A662, c663, A667, c668, qf _ ⟨rfl, rfl, rfl, rfl, rfl, yp⟩, ((hG652.trans hG671).trans hG700), (St.pk [] 1 H701 rfl (by decide)), (hs660.mono hG700), (hs664.mono hG700), hs702, b⟩
 refine qc (qb (qh fo29_0 rfl) (qp H653 (i := 3) rfl xO dBool ty4 rfl (qb (qa (.bool a0.Ip) rfl) ?_)))
 rcases qm a0.Ip with hb703 | hb703
 ·replace b := ifT b hb703
  refine qj rfl rfl rfl (vb hb703) (qb (qa (.bool r649.2) rfl) (qj rfl rfl rfl (vb hb703) (qb (qa (.bool (!r649.2)) rfl) (qb (qB (.bool (!r649.2)) (vb hb703) rfl) (qd ?_)))))
  obtain ⟨G704, hG705, H706, hs707⟩ := H653.stay (i := 0) rfl (H653.capA (i := 0) rfl)
  obtain ⟨G708, hG709, H710, hs711⟩ := H706.stay (i := 0) rfl (H706.capA (i := 0) rfl)
  refine qe ?_
  exact ⟨_, _, x224, x229, x234, (!r649.2), A226, c227, A231, c232, g235, A236, c237, qf _ ⟨rfl, rfl, rfl, rfl, rfl, rfl, rfl, yp⟩, (hG705.trans hG709), H710, (hs707.mono hG709), hs711, b⟩
 replace b := ifF b hb703
 iterate 2 refine qJ rfl rfl rfl (vb hb703) ?_
 refine qb (qr (.bool false) (vb hb703) rfl) (qd ?_)
 obtain ⟨G712, hG713, H714, hs715⟩ := H653.stay (i := 0) rfl (H653.capA (i := 0) rfl)
 obtain ⟨G716, hG717, H718, hs719⟩ := H714.stay (i := 0) rfl (H714.capA (i := 0) rfl)
 refine qe ?_
 exact ⟨_, _, x224, x229, x234, false, A226, c227, A231, c232, g235, A236, c237, qf _ ⟨rfl, rfl, rfl, rfl, rfl, rfl, rfl, yp⟩, (hG713.trans hG717), H718, (hs715.mono hG717), hs719, b⟩

theorem nego_work_reply_ok {c : World} (k : Hc c) {G : qk} {w : World} {σ : List Ent} {b0 : Nat} {x2 : TNego} {x3 : (List TPkt)} {x8 : (List Int)} {x13 : TPkt} {g4 : Option Nat} {A5 : Option Addr} {c6 : Nat} {g9 : Option Nat} {A10 : Option Addr} {c11 : Nat} {a1 : Int} {a2 : (List Int)} {A2_ : Option Addr} {c2_ : Nat} (h2_ : SlR kB G A2_ c2_ a2) (H : St c G w ((.box b0 136 (qA.at_ (Tnego_workV.mk x2 (.slice A5 x3.length c6) (.slice A10 x8.length c11) x13))) :: (.row qC g4 A5 c6 46 x3) :: (.row kI g9 A10 c11 3 x8) :: σ)) {r : (TPkt × TNego × (List TPkt) × (List Int) × TPkt)} (b : nego_work_reply x2 x3 x8 x13 a1 a2 = some r) :
  Calls Tryz.prog 189 ([(pt b0), (.int .u8 a1), (.slice A2_ a2.length c2_)] : List Value).toArray w (zu fun v w' => ∃ (G' : qk) (v1' : Value) (g2' : Option Nat) (A3' : Option Addr) (c4' : Nat) (g5' : Option Nat) (A6' : Option Addr) (c7' : Nat), GLe G G' ∧ tup [v1'] = v ∧ St c G' w' ((.box b0 136 (qA.at_ (Tnego_workV.mk r.2.1 (.slice A3' r.2.2.1.length c4') (.slice A6' r.2.2.2.1.length c7') r.2.2.2.2))) :: (.row qC g2' A3' c4' 46 r.2.2.1) :: (.row kI g5' A6' c7' 3 r.2.2.2.1) :: σ) ∧ qC.V G' v1' r.1) := by
 unfold nego_work_reply at b
 refine qG Tryz.func189 rfl rfl rfl (wp_seq (qc ?_))
 refine qP H zr46 ?_
 intro b14 w17 H15
 refine qd (qe (wp_seq (qc (qb (qa (.int .u8 a1) rfl) (qb (qa (pt b0) rfl) (qb (qM rfl) (qb (qh fo136_3 rfl) (qb (qh jw rfl) (qp H15 (i := 1) rfl (Lens.then zi zf) (qz .u8) ty5 rfl (qb (qa (.slice A2_ a2.length c2_) rfl) ?_))))))))))
 refine qR (qT (G := G) zr46 rfl bs46 rfl (Parts.cons jO qW ((qz .u8).toV _ _) (Parts.cons jw zf ((qz .u8).toV _ _) (Parts.cons xG zm (zw h2_) (Parts.nil _))))) ?_
 intro v18 hv19
 refine qy (z := (TPkt.mk a1 x13.Id a2)) H15 (i := 0) rfl (Lens.id qC) ty46 rfl rfl hv19 ?_
 intro w21 H20
 refine qd (qe (wp_ret ?_))
 obtain ⟨v22, hv23, hl24⟩ := H20.loadv (i := 0) rfl ty46
 have b := yq b
 subst b
 exact qt rfl (RV.cell rfl hl24 RV.nil) ⟨_, v22, g4, A5, c6, g9, A10, c11, GLe.refl _, rfl, (St.pk [1, 2, 3] 4 H20 rfl (by decide)), hv23⟩

theorem nego_answers_ok {c : World} (k : Hc c) {G : qk} {w : World} {σ : List Ent} {a0 : (List Int)} {A0_ : Option Addr} {c0_ : Nat} (h0_ : SlR kI G A0_ c0_ a0) (H : St c G w (σ)) {r : Bool} (b : nego_answers a0 = some r) :
  Calls Tryz.prog 190 ([(.slice A0_ a0.length c0_)] : List Value).toArray w (zu fun v w' => ∃ (G' : qk), GLe G G' ∧ tup [(.bool r)] = v ∧ St c G' w' (σ)) := by
 unfold nego_answers at b
 refine qG Tryz.func190 rfl rfl rfl (wp_seq (qc (qb (qa (.bool false) rfl) (qd (qe (wp_seq (qc (qb (qa (.slice A0_ a0.length c0_) rfl) ?_))))))))
 obtain ⟨r1, hr2, b⟩ := qu b
 refine qo (vs := [(.slice A0_ a0.length c0_), (.int .i64 8)]) en126 rfl (yl k h0_ H hr2) ?_
 rintro v7 w6 ⟨G3, hG4, rfl, H5⟩
 refine qb (qa (.bool r1) rfl) ?_
 rcases qm r1 with hb8 | hb8
 ·replace b := ifT b hb8
  iterate 2 refine qJ rfl rfl rfl (vb hb8) ?_
  refine qb (qB (.bool true) (vb hb8) rfl) (qb (qa (.bool true) rfl) (qd (qe (wp_ret ?_))))
  have b := yq b
  subst b
  exact qt rfl (RV.tmp rfl RV.nil) ⟨_, hG4, rfl, H5⟩
 replace b := ifF b hb8
 refine qj rfl rfl rfl (vb hb8) (qb (qa (.slice A0_ a0.length c0_) rfl) (qj rfl rfl rfl (vb hb8) ?_))
 obtain ⟨r9, hr10, b⟩ := qu b
 refine qo (vs := [(.slice A0_ a0.length c0_), (.int .i64 9)]) en126 rfl (yl k (h0_.mono hG4) H5 hr10) ?_
 rintro v15 w14 ⟨G11, hG12, rfl, H13⟩
 refine qb (qr (.bool r9) (vb hb8) rfl) (qb (qa (.bool r9) rfl) (qd (qe (wp_ret ?_))))
 have b := yq b
 subst b
 exact qt rfl (RV.tmp rfl RV.nil) ⟨_, (hG4.trans hG12), rfl, H13⟩

theorem nego_work_request_ok {c : World} (k : Hc c) {G : qk} {w : World} {σ : List Ent} {b0 : Nat} {x2 : TNego} {x3 : (List TPkt)} {x8 : (List Int)} {x13 : TPkt} {g4 : Option Nat} {A5 : Option Addr} {c6 : Nat} {g9 : Option Nat} {A10 : Option Addr} {c11 : Nat}  (H : St c G w ((.box b0 136 (qA.at_ (Tnego_workV.mk x2 (.slice A5 x3.length c6) (.slice A10 x8.length c11) x13))) :: (.row qC g4 A5 c6 46 x3) :: (.row kI g9 A10 c11 3 x8) :: σ)) {r : (TNego × (List TPkt) × (List Int) × TPkt)} (b : xM x2 x3 x8 x13 = some r) :
  Calls Tryz.prog 139 ([(pt b0)] : List Value).toArray w (zu fun v w' => ∃ (G' : qk) (g1' : Option Nat) (A2' : Option Addr) (c3' : Nat) (g4' : Option Nat) (A5' : Option Addr) (c6' : Nat), GLe G G' ∧ tup [] = v ∧ St c G' w' ((.box b0 136 (qA.at_ (Tnego_workV.mk r.1 (.slice A2' r.2.1.length c3') (.slice A5' r.2.2.1.length c6') r.2.2.2))) :: (.row qC g1' A2' c3' 46 r.2.1) :: (.row kI g4' A5' c6' 3 r.2.2.1) :: σ)) := by
 unfold xM at b
 refine qG Tryz.func139 rfl rfl rfl (wp_seq (qc (qb (qa (pt b0) rfl) (qb (qM rfl) (qb (qh fo136_3 rfl) (qb (qh xG rfl) ?_))))))
 refine ql H (i := 0) rfl (Lens.then zi zm) jy rfl ?_
 intro v14 hv15
 obtain ⟨A16, c17, rfl, hs18⟩ := qN hv15
 obtain ⟨r19, hr20, b⟩ := qu b
 refine qo (vs := [(.slice A16 x13.Data.length c17)]) en187 rfl (opts_Read_ok k hs18 H hr20) ?_
 rintro v25 w24 ⟨G21, A26, c27, hG22, rfl, H23, hs28⟩
 refine qb (qa (.tuple #[(.slice A26 r19.1.length c27), (.int .i64 r19.2)]) rfl) (qb (qa (.slice A26 r19.1.length c27) rfl) (qb (qa (.int .i64 r19.2) rfl) (qb (qa (.slice A26 r19.1.length c27) rfl) (qb (qa (.int .i64 r19.2) rfl) (qd (qe (wp_seq (wp_seq (qc (qb (qa (.int .i64 r19.2) rfl) (qb (qa (.bool (r19.2 != 0)) rfl) ?_)))))))))))
 refine qd (qe ?_)
 rcases qm (r19.2 != 0) with hb29 | hb29
 ·replace b := ifT b hb29
  refine qs (vb hb29) (wp_ret (qI ?_))
  have b := yq b
  subst b
  exact qt rfl RV.nil ⟨_, g4, A5, c6, g9, A10, c11, hG22, rfl, H23⟩
 replace b := ifF b hb29
 refine qn (vb hb29) (wp_skip (qe ?_))
 refine wp_seq (join (fun a w => ∃ (T0 G1 : _) (x33 : TNego) (x34 : (List TPkt)) (x39 : (List Int)) (x44 : TPkt) (g35 A36 c37 g40 A41 c42 : _), a = mk 91 (qQ T0 [(0, (pt b0)), (2, (.slice A26 r19.1.length c27))]) ∧ GLe G21 G1 ∧ St c G1 w ((.box b0 136 (qA.at_ (Tnego_workV.mk x33 (.slice A36 x34.length c37) (.slice A41 x39.length c42) x44))) :: (.row qC g35 A36 c37 46 x34) :: (.row kI g40 A41 c42 3 x39) :: σ) ∧ xi r19 x33 x34 x39 x44 = some r) ?_ ?_)
 ·rintro a w ⟨T0, G47, x33, x34, x39, x44, g35, A36, c37, g40, A41, c42, rfl, hG45, H46, b⟩
  refine wp_seq ?_
  refine jP (f := 17) H46 mixed ?_
  intro w60 H61
  refine xW (by repeat (first | exact PF.base | apply PF.then_ | apply PF.blk)) ?_
  intro B E
  obtain ⟨r64, hr65, b⟩ := qu b
  refine qF (fuel := 6) (m := 2047) (fun a w => ∃ T0 G1 v80 A82 c83, a = mk 91 (qQ T0 [(0, (pt b0)), (2, (.slice A26 r19.1.length c27)), (37, v80), (38, (.slice A82 r19.1.length c83)), (43, (.int .i64 x33.Naks))]) ∧ GLe G47 G1 ∧ St c G1 w ((.box b0 136 (qA.at_ (Tnego_workV.mk x33 (.slice A36 x34.length c37) (.slice A41 x39.length c42) x44))) :: (.row qC g35 A36 c37 46 x34) :: (.row kI g40 A41 c42 3 x39) :: σ) ∧ qU.V G1 v80 x33.R ∧ SlR qx G1 A82 c83 r19.1) ?_ ?_
  ·rintro a w ⟨T0, G79, v80, A82, c83, rfl, hG77, H78, hv81, hs84⟩
   refine qi [11] ⟨qg (m' := 4095) fun I j => ?_, yp⟩
   refine qo (vs := [v80, (.slice A82 r19.1.length c83), (.int .i64 x33.Naks)]) en188 rfl (rules_Answer_ok k hv81 hs84 H78 hr65) ?_
   rintro v97 w96 ⟨G93, A98, c99, hG94, rfl, H95, hs100⟩
   refine qd (j _ _ ?_)
   refine qq (i := 12) (m' := 8191) rfl (qa (.tuple #[(.int .u8 r64.1), (.slice A98 r64.2.length c99)]) rfl) B E ?_
   refine qq (i := 13) (m' := 16383) rfl (qa (.int .u8 r64.1) rfl) B E ?_
   refine qq (i := 14) (m' := 32767) rfl (qa (.slice A98 r64.2.length c99) rfl) B E ?_
   refine qq (i := 15) (m' := 65535) rfl (qa (.int .u8 r64.1) rfl) B E ?_
   refine qq (i := 16) (m' := 131071) rfl (qa (.slice A98 r64.2.length c99) rfl) B E ?_
   refine zA (qe (wp_seq (qc (qb (qa (.slice A98 r64.2.length c99) rfl) ?_))))
   obtain ⟨r101, hr102, b⟩ := qu b
   refine qo (vs := [(.slice A98 r64.2.length c99)]) en129 rfl (opts_Bytes_ok k hs100 H95 hr102) ?_
   rintro v107 w106 ⟨G103, A108, c109, hG104, rfl, H105, hs110⟩
   refine qb (qa (.tuple #[(.slice A108 r101.1.length c109), (.int .i64 r101.2)]) rfl) (qb (qa (.slice A108 r101.1.length c109) rfl) (qb (qa (.int .i64 r101.2) rfl) (qb (qa (.slice A108 r101.1.length c109) rfl) (qb (qa (.int .i64 r101.2) rfl) (qd (qe (wp_seq (qc (qb (qa (.int .i64 7) rfl) (qd (qe ?_)))))))))))
   refine wp_seq (join (fun a w => ∃ (T0 G1 : _) (x112 : Int) (x113 : TNego) (x114 : (List TPkt)) (x119 : (List Int)) (x124 : TPkt) (g115 A116 c117 g120 A121 c122 : _), a = mk 91 (qQ T0 [(0, (pt b0)), (2, (.slice A26 r19.1.length c27)), (4, (.int .u8 r64.1)), (6, (.slice A108 r101.1.length c109)), (8, (.int .i64 x112))]) ∧ GLe G103 G1 ∧ St c G1 w ((.box b0 136 (qA.at_ (Tnego_workV.mk x113 (.slice A116 x114.length c117) (.slice A121 x119.length c122) x124))) :: (.row qC g115 A116 c117 46 x114) :: (.row kI g120 A121 c122 3 x119) :: σ) ∧ xm r19 r64 r101 x112 x113 x114 x119 x124 = some r) ?_ ?_)
   ·rintro a w ⟨T0, G127, x112, x113, x114, x119, x124, g115, A116, c117, g120, A121, c122, rfl, hG125, H126, b⟩
    refine wp_seq (qc (qb (qa (pt b0) rfl) (qb (qa (.int .i64 x112) rfl) (qb (qa (pt b0) rfl) (qb (qa (.int .u8 r64.1) rfl) (qb (qa (.slice A108 r101.1.length c109) rfl) ?_))))))
    obtain ⟨r128, hr129, b⟩ := qu b
    refine qo (vs := [(pt b0), (.int .u8 r64.1), (.slice A108 r101.1.length c109)]) en189 rfl (nego_work_reply_ok k (hs110.mono hG125) H126 hr129) ?_
    rintro v134 w133 ⟨G130, v135, g137, A138, c139, g140, A141, c142, hG131, rfl, H132, hv136⟩
    obtain ⟨r143, hr144, b⟩ := qu b
    refine qo (vs := [(pt b0), (.int .i64 x112), v135]) en74 rfl (jg k hv136 H132 hr144) ?_
    rintro v149 w148 ⟨G145, A150, c151, g153, A154, c155, g156, A157, c158, hG146, rfl, H147, hs152⟩
    refine qb (qa (.slice A150 r143.1.length c151) rfl) (qd (qe (wp_block (wp_seq (qc (qb (qa (.slice A150 r143.1.length c151) rfl) ?_))))))
    obtain ⟨r159, hr160, b⟩ := qu b
    refine qo (vs := [(.slice A150 r143.1.length c151)]) en190 rfl (nego_answers_ok k hs152 H147 hr160) ?_
    rintro v165 w164 ⟨G161, hG162, rfl, H163⟩
    iterate 2 refine qb (qa (.bool (!r159)) rfl) ?_
    refine qd (qe ?_)
    rcases qm (!r159) with hb166 | hb166
    ·replace b := ifT b hb166
     refine qs (vb hb166) (wp_skip (zn ?_))
     have b := yq b
     subst b
     exact end_mk rfl RV.nil ⟨_, g153, A154, c155, g156, A157, c158, ((((((((hG22.trans hG45).trans hG77).trans hG94).trans hG104).trans hG125).trans hG131).trans hG146).trans hG162), rfl, H163⟩
    replace b := ifF b hb166
    refine qn (vb hb166) (wp_seq (qc (qb (qa (.int .u8 r64.1) rfl) ?_)))
    iterate 2 refine qb (qa (.bool (r64.1 == 2)) rfl) ?_
    refine qd (qe ?_)
    rcases qm (r64.1 == 2) with hb167 | hb167
    ·replace b := ifT b hb167
     refine qs (vb hb167) (qc ?_)
     iterate 2 refine qb (qa (pt b0) rfl) ?_
     refine qb (qa (.slice A26 r19.1.length c27) rfl) (qb (qM rfl) (qb (qh jH rfl) (qb (qh fo32_3 rfl) ?_)))
     refine qy (z := 0) H163 (i := 0) rfl (Lens.then qH jb) ty3 rfl rfl ((qz .i64).toV _ _) ?_
     intro w169 H168
     refine qb (qM rfl) (qb (qh jH rfl) (qb (qh fo32_4 rfl) ?_))
     refine qy (z := r19.1) H168 (i := 0) rfl (Lens.then qH lTNego_Peer) ty30 rfl rfl (zw (hs28.mono (((((((hG45.trans hG77).trans hG94).trans hG104).trans hG125).trans hG131).trans hG146).trans hG162))) ?_
     intro w171 H170
     refine qd (zn ?_)
     have b := yq b
     subst b
     exact end_mk rfl RV.nil ⟨_, g153, A154, c155, g156, A157, c158, ((((((((hG22.trans hG45).trans hG77).trans hG94).trans hG104).trans hG125).trans hG131).trans hG146).trans hG162), rfl, H170⟩
    replace b := ifF b hb167
    refine qn (vb hb167) (wp_seq (qc (qb (qa (.int .u8 r64.1) rfl) ?_)))
    iterate 2 refine qb (qa (.bool (r64.1 == 3)) rfl) ?_
    refine qd (qe ?_)
    rcases qm (r64.1 == 3) with hb172 | hb172
    ·replace b := ifT b hb172
     refine qs (vb hb172) (qc ?_)
     iterate 2 refine qb (qa (pt b0) rfl) ?_
     refine qb (qM rfl) (qb (qh jH rfl) (qb (qh fo32_3 rfl) (qp H163 (i := 0) rfl (Lens.then qH jb) (qz .i64) ty3 rfl (qb (qa (.int .i64 (IntKind.i64.wrap (r143.2.1.Naks + 1))) rfl) (qb (rn_min rfl rfl) (qb (qM rfl) (qb (qh jH rfl) (qb (qh fo32_3 rfl) ?_))))))))
     refine qy (z := (if 3 < (IntKind.i64.wrap (r143.2.1.Naks + 1)) then 3 else (IntKind.i64.wrap (r143.2.1.Naks + 1)))) H163 (i := 0) rfl (Lens.then qH jb) ty3 rfl rfl ((qz .i64).toV _ _) ?_
     intro w174 H173
     refine qd (zn ?_)
     have b := yq b
     subst b
     exact end_mk rfl RV.nil ⟨_, g153, A154, c155, g156, A157, c158, ((((((((hG22.trans hG45).trans hG77).trans hG94).trans hG104).trans hG125).trans hG131).trans hG146).trans hG162), rfl, H173⟩
    replace b := ifF b hb172
    refine qn (vb hb172) (wp_skip (zn ?_))
    have b := yq b
    subst b
    exact end_mk rfl RV.nil ⟨_, g153, A154, c155, g156, A157, c158, ((((((((hG22.trans hG45).trans hG77).trans hG94).trans hG104).trans hG125).trans hG131).trans hG146).trans hG162), rfl, H163⟩
   refine wp_seq (qc (qb (qa (.int .u8 r64.1) rfl) (qb (qa (.bool (r64.1 == 2)) rfl) (qd (qe ?_)))))
   rcases qm (r64.1 == 2) with hb175 | hb175
   ·replace b := ifT b hb175
    refine qs (vb hb175) (qc (qb (qa (.int .i64 6) rfl) (qd (qe ?_))))
    exact ⟨_, _, 6, x33, x34, x39, x44, g35, A36, c37, g40, A41, c42, qf _ ⟨rfl, rfl, rfl, rfl, rfl, yp⟩, GLe.refl _, H105, b⟩
   replace b := ifF b hb175
   refine qn (vb hb175) (wp_skip (qe ?_))
   exact ⟨_, _, 7, x33, x34, x39, x44, g35, A36, c37, g40, A41, c42, qf _ ⟨rfl, rfl, rfl, rfl, rfl, yp⟩, GLe.refl _, H105, b⟩
  intro hM76
  refine qq (i := 0) (m' := 1) rfl (qa (pt b0) rfl) B E ?_
  refine qq (i := 1) (m' := 3) rfl (qM rfl) B E ?_
  refine qq (i := 2) (m' := 7) rfl (qh jH rfl) B E ?_
  refine qq (i := 3) (m' := 15) rfl (qh fo32_1 rfl) B E ?_
  refine qq (i := 5) (m' := 47) rfl (qa (.slice A26 r19.1.length c27) rfl) B E ?_
  refine qq (i := 6) (m' := 111) rfl (qa (pt b0) rfl) B E ?_
  refine qq (i := 7) (m' := 239) rfl (qM rfl) B E ?_
  refine qq (i := 8) (m' := 495) rfl (qh jH rfl) B E ?_
  refine qq (i := 9) (m' := 1007) rfl (qh fo32_3 rfl) B E ?_
  refine qi [4, 10] ⟨?_, ?_, yp⟩
  ·refine qg (m' := 1023) fun I j => ?_
   refine ql H61 (i := 0) rfl (Lens.then qH ym) ty29 rfl ?_
   intro v176 hv177
   refine qd (j _ _ ?_)
   refine qi [10] ⟨qg (m' := 2047) fun I j => ?_, yp⟩
   refine qp H61 (i := 0) rfl (Lens.then qH jb) (qz .i64) ty3 rfl (qd (j _ _ ?_))
   exact hM76 _ _ ⟨_, _, v176, A26, c27, qf _ ⟨rfl, rfl, rfl, rfl, rfl, yp⟩, GLe.refl _, H61, hv177, (hs28.mono hG45)⟩
  refine qg (m' := 2031) fun I j => ?_
  refine qp H61 (i := 0) rfl (Lens.then qH jb) (qz .i64) ty3 rfl (qd (j _ _ ?_))
  refine qi [4] ⟨qg (m' := 2047) fun I j => ?_, yp⟩
  refine ql H61 (i := 0) rfl (Lens.then qH ym) ty29 rfl ?_
  intro v178 hv179
  refine qd (j _ _ ?_)
  exact hM76 _ _ ⟨_, _, v178, A26, c27, qf _ ⟨rfl, rfl, rfl, rfl, rfl, yp⟩, GLe.refl _, H61, hv179, (hs28.mono hG45)⟩
 refine wp_seq (qc (qb (qa (pt b0) rfl) (qb (qM rfl) (qb (qh jH rfl) (qb (qh xe rfl) (qb (qh fo26_0 rfl) (qp H23 (i := 0) rfl (Lens.then (Lens.then qH zq) zZ) (qz .i64) ty3 rfl (qb (qa (.bool (x2.A.State == 3)) rfl) (qd (qe ?_))))))))))
 rcases qm (x2.A.State == 3) with hb180 | hb180
 ·replace b := ifT b hb180
  refine qs (vb hb180) (qc (qb (qa (pt b0) rfl) (qb (qM rfl) (qb (qh jH rfl) (qb (qh fo32_3 rfl) ?_)))))
  refine qy (z := 0) H23 (i := 0) rfl (Lens.then qH jb) ty3 rfl rfl ((qz .i64).toV _ _) ?_
  intro w182 H181
  refine qd (qe ?_)
  exact ⟨_, _, (TNego.mk x2.A x2.R x2.Ours 0 x2.Peer), x3, x8, x13, g4, A5, c6, g9, A10, c11, qf _ ⟨rfl, rfl, yp⟩, GLe.refl _, H181, b⟩
 replace b := ifF b hb180
 refine qn (vb hb180) (wp_skip (qe ?_))
 exact ⟨_, _, x2, x3, x8, x13, g4, A5, c6, g9, A10, c11, qf _ ⟨rfl, rfl, yp⟩, GLe.refl _, H23, b⟩

theorem bytes_Equal_ok {c : World} (k : Hc c) {G : qk} {w : World} {σ : List Ent} {a0 : (List Int)} {A0_ : Option Addr} {c0_ : Nat} {a1 : (List Int)} {A1_ : Option Addr} {c1_ : Nat} (h0_ : SlR kB G A0_ c0_ a0) (h1_ : SlR kB G A1_ c1_ a1) (H : St c G w (σ)) {r : Bool} (b : bytes_Equal a0 a1 = some r) :
  Calls Tryz.prog 165 ([(.slice A0_ a0.length c0_), (.slice A1_ a1.length c1_)] : List Value).toArray w (zu fun v w' => ∃ (G' : qk), GLe G G' ∧ tup [(.bool r)] = v ∧ St c G' w' (σ)) := by
 unfold bytes_Equal at b
 refine qG Tryz.func165 rfl rfl rfl (wp_seq (qc (qb (qa (.bool false) rfl) (qd (qe (wp_seq (qc (qb (qa (.slice A0_ a0.length c0_) rfl) ?_))))))))
 refine wl_bstr H h0_ zJ un5 un9 rfl ?_
 refine qb (qa (.slice A1_ a1.length c1_) rfl) ?_
 refine wl_bstr H h1_ zJ un5 un9 rfl ?_
 iterate 2 refine qb (qa (.bool (streq (bstr a0) (bstr a1))) rfl) ?_
 refine qd (qe (wp_ret ?_))
 have b := yq b
 subst b
 exact qt rfl (RV.tmp rfl RV.nil) ⟨_, GLe.refl _, rfl, H⟩

theorem nego_work_ack_ok {c : World} (k : Hc c) {G : qk} {w : World} {σ : List Ent} {b0 : Nat} {x2 : TNego} {x3 : (List TPkt)} {x8 : (List Int)} {x13 : TPkt} {g4 : Option Nat} {A5 : Option Addr} {c6 : Nat} {g9 : Option Nat} {A10 : Option Addr} {c11 : Nat}  (H : St c G w ((.box b0 136 (qA.at_ (Tnego_workV.mk x2 (.slice A5 x3.length c6) (.slice A10 x8.length c11) x13))) :: (.row qC g4 A5 c6 46 x3) :: (.row kI g9 A10 c11 3 x8) :: σ)) {r : (TNego × (List TPkt) × (List Int) × TPkt)} (b : nego_work_ack x2 x3 x8 x13 = some r) :
  Calls Tryz.prog 140 ([(pt b0)] : List Value).toArray w (zu fun v w' => ∃ (G' : qk) (g1' : Option Nat) (A2' : Option Addr) (c3' : Nat) (g4' : Option Nat) (A5' : Option Addr) (c6' : Nat), GLe G G' ∧ tup [] = v ∧ St c G' w' ((.box b0 136 (qA.at_ (Tnego_workV.mk r.1 (.slice A2' r.2.1.length c3') (.slice A5' r.2.2.1.length c6') r.2.2.2))) :: (.row qC g1' A2' c3' 46 r.2.1) :: (.row kI g4' A5' c6' 3 r.2.2.1) :: σ)) := by
 unfold nego_work_ack at b
 refine qG Tryz.func140 rfl rfl rfl (wp_seq (qc (qb (qa (pt b0) rfl) (qb (qM rfl) (qb (qh jH rfl) (qb (qh fo32_2 rfl) ?_))))))
 refine ql H (i := 0) rfl (Lens.then qH zD) ty30 rfl ?_
 intro v14 hv15
 obtain ⟨A16, c17, rfl, hs18⟩ := qN hv15
 obtain ⟨r19, hr20, b⟩ := qu b
 refine qo (vs := [(.slice A16 x2.Ours.length c17)]) en129 rfl (opts_Bytes_ok k hs18 H hr20) ?_
 rintro v25 w24 ⟨G21, A26, c27, hG22, rfl, H23, hs28⟩
 refine qb (qa (.tuple #[(.slice A26 r19.1.length c27), (.int .i64 r19.2)]) rfl) (qb (qa (.slice A26 r19.1.length c27) rfl) (qb (qa (.int .i64 r19.2) rfl) (qb (qa (.slice A26 r19.1.length c27) rfl) (qb (qa (.int .i64 r19.2) rfl) (qd (qe ?_))))))
 refine wp_seq (join (fun a w => ∃ (T0 G1 : _) (x42 : Bool) (x43 : TNego) (x44 : (List TPkt)) (x49 : (List Int)) (x54 : TPkt) (g45 A46 c47 g50 A51 c52 : _), a = mk 37 (qQ T0 [(0, (pt b0)), (33, (.bool x42))]) ∧ GLe G21 G1 ∧ St c G1 w ((.box b0 136 (qA.at_ (Tnego_workV.mk x43 (.slice A46 x44.length c47) (.slice A51 x49.length c52) x54))) :: (.row qC g45 A46 c47 46 x44) :: (.row kI g50 A51 c52 3 x49) :: σ) ∧ yg x42 x43 x44 x49 x54 = some r) ?_ ?_)
 ·rintro a w ⟨T0, G57, x42, x43, x44, x49, x54, g45, A46, c47, g50, A51, c52, rfl, hG55, H56, b⟩
  rcases qm x42 with hb58 | hb58
  ·replace b := ifT b hb58
   refine qs (vb hb58) (qc (qb (qa (pt b0) rfl) ?_))
   refine qR (qT (G := G57) zr46 rfl bs46 rfl (Parts.nil _)) ?_
   intro v59 hv60
   obtain ⟨r61, hr62, b⟩ := qu b
   refine qo (vs := [(pt b0), (.int .i64 8), v59]) en74 rfl (jg k hv60 H56 hr62) ?_
   rintro v67 w66 ⟨G63, A68, c69, g71, A72, c73, g74, A75, c76, hG64, rfl, H65, hs70⟩
   refine qd ?_
   have b := yq b
   subst b
   exact end_mk rfl RV.nil ⟨_, g71, A72, c73, g74, A75, c76, ((hG22.trans hG55).trans hG64), rfl, H65⟩
  replace b := ifF b hb58
  refine qn (vb hb58) (wp_skip ?_)
  have b := yq b
  subst b
  exact end_mk rfl RV.nil ⟨_, g45, A46, c47, g50, A51, c52, (hG22.trans hG55), rfl, H56⟩
 refine jP (f := 21) H23 mixed ?_
 intro w77 H78
 refine xW (by repeat (first | exact PF.base | apply PF.then_ | apply PF.blk)) ?_
 intro B E
 rcases qm (x13.Id == x2.A.Id) with hb79 | hb79
 ·replace b := ifT b hb79
  obtain ⟨r85, hr86, b⟩ := qu b
  refine qF (fuel := 10) (m := 2047) (fun a w => ∃ T0 G1, a = mk 37 (qQ T0 [(0, (pt b0)), (2, (.slice A26 r19.1.length c27)), (17, (.int .u8 x13.Id)), (23, (.int .u8 x2.A.Id))]) ∧ GLe G21 G1 ∧ St c G1 w ((.box b0 136 (qA.at_ (Tnego_workV.mk x2 (.slice A5 x3.length c6) (.slice A10 x8.length c11) x13))) :: (.row qC g4 A5 c6 46 x3) :: (.row kI g9 A10 c11 3 x8) :: σ)) ?_ ?_
  ·rintro a w ⟨T0, G95, rfl, hG93, H94⟩
   refine qq (i := 11) (m' := 4095) rfl (qa (.bool (x13.Id == x2.A.Id)) rfl) B E ?_
   refine qq (i := 12) (m' := 8191) rfl (qa (.bool (x13.Id == x2.A.Id)) rfl) B E ?_
   refine zE 25 true (i := 13) (m' := 16383) rfl (qa (.slice A26 r19.1.length c27) rfl) (vb hb79) B E ?_
   refine zE 25 true (i := 14) (m' := 32767) rfl (qa (pt b0) rfl) (vb hb79) B E ?_
   refine zE 25 true (i := 15) (m' := 65535) rfl (qM rfl) (vb hb79) B E ?_
   refine zE 25 true (i := 16) (m' := 131071) rfl (qh fo136_3 rfl) (vb hb79) B E ?_
   refine zE 25 true (i := 17) (m' := 262143) rfl (qh xG rfl) (vb hb79) B E ?_
   refine qi [18] ⟨qg (m' := 524287) fun I j => ?_, yp⟩
   refine qj rfl rfl rfl (vb hb79) ?_
   refine ql H94 (i := 0) rfl (Lens.then zi zm) jy rfl ?_
   intro v106 hv107
   obtain ⟨A108, c109, rfl, hs110⟩ := qN hv107
   refine qd (j _ _ ?_)
   refine qi [19] ⟨qg (m' := 1048575) fun I j => ?_, yp⟩
   refine qj rfl rfl rfl (vb hb79) ?_
   refine qo (vs := [(.slice A26 r19.1.length c27), (.slice A108 x13.Data.length c109)]) en165 rfl (bytes_Equal_ok k (hs28.mono hG93) hs110 H94 hr86) ?_
   rintro v115 w114 ⟨G111, hG112, rfl, H113⟩
   refine qd (j _ _ ?_)
   refine qq (i := 20) (m' := 2097151) rfl (qB (.bool r85) (vb hb79) rfl) B E ?_
   refine zA (qe ?_)
   exact ⟨_, _, r85, x2, x3, x8, x13, g4, A5, c6, g9, A10, c11, qf _ ⟨rfl, rfl, yp⟩, (hG93.trans hG112), H113, b⟩
  intro hM92
  refine qq (i := 0) (m' := 1) rfl (qa (pt b0) rfl) B E ?_
  refine qq (i := 1) (m' := 3) rfl (qM rfl) B E ?_
  refine qq (i := 2) (m' := 7) rfl (qh fo136_3 rfl) B E ?_
  refine qq (i := 3) (m' := 15) rfl (qh jw rfl) B E ?_
  refine qq (i := 5) (m' := 47) rfl (qa (pt b0) rfl) B E ?_
  refine qq (i := 6) (m' := 111) rfl (qM rfl) B E ?_
  refine qq (i := 7) (m' := 239) rfl (qh jH rfl) B E ?_
  refine qq (i := 8) (m' := 495) rfl (qh xe rfl) B E ?_
  refine qq (i := 9) (m' := 1007) rfl (qh fo26_3 rfl) B E ?_
  refine qi [4, 10] ⟨?_, ?_, yp⟩
  ·refine qg (m' := 1023) fun I j => ?_
   refine qp H78 (i := 0) rfl (Lens.then zi zf) (qz .u8) ty5 rfl (qd (j _ _ ?_))
   refine qi [10] ⟨qg (m' := 2047) fun I j => ?_, yp⟩
   refine qp H78 (i := 0) rfl (Lens.then (Lens.then qH zq) zT) (qz .u8) ty5 rfl (qd (j _ _ ?_))
   exact hM92 _ _ ⟨_, _, qf _ ⟨rfl, rfl, rfl, rfl, yp⟩, GLe.refl _, H78⟩
  refine qg (m' := 2031) fun I j => ?_
  refine qp H78 (i := 0) rfl (Lens.then (Lens.then qH zq) zT) (qz .u8) ty5 rfl (qd (j _ _ ?_))
  refine qi [4] ⟨qg (m' := 2047) fun I j => ?_, yp⟩
  refine qp H78 (i := 0) rfl (Lens.then zi zf) (qz .u8) ty5 rfl (qd (j _ _ ?_))
  exact hM92 _ _ ⟨_, _, qf _ ⟨rfl, rfl, rfl, rfl, yp⟩, GLe.refl _, H78⟩
 replace b := ifF b hb79
 refine qF (fuel := 10) (m := 2047) (fun a w => ∃ T0 G1, a = mk 37 (qQ T0 [(0, (pt b0)), (2, (.slice A26 r19.1.length c27)), (17, (.int .u8 x13.Id)), (23, (.int .u8 x2.A.Id))]) ∧ GLe G21 G1 ∧ St c G1 w ((.box b0 136 (qA.at_ (Tnego_workV.mk x2 (.slice A5 x3.length c6) (.slice A10 x8.length c11) x13))) :: (.row qC g4 A5 c6 46 x3) :: (.row kI g9 A10 c11 3 x8) :: σ)) ?_ ?_
 ·rintro a w ⟨T0, G119, rfl, hG117, H118⟩
  refine qq (i := 11) (m' := 4095) rfl (qa (.bool (x13.Id == x2.A.Id)) rfl) B E ?_
  refine qq (i := 12) (m' := 8191) rfl (qa (.bool (x13.Id == x2.A.Id)) rfl) B E ?_
  refine qS (i := 13) (m' := 16383) 25 true rfl (vb hb79) B E ?_
  refine qS (i := 14) (m' := 32767) 25 true rfl (vb hb79) B E ?_
  refine qS (i := 15) (m' := 65535) 25 true rfl (vb hb79) B E ?_
  refine qS (i := 16) (m' := 131071) 25 true rfl (vb hb79) B E ?_
  refine qS (i := 17) (m' := 262143) 25 true rfl (vb hb79) B E ?_
  refine qS (i := 18) (m' := 524287) 25 true rfl (vb hb79) B E ?_
  refine qS (i := 19) (m' := 1048575) 25 true rfl (vb hb79) B E ?_
  refine qq (i := 20) (m' := 2097151) rfl (qr (.bool false) (vb hb79) rfl) B E ?_
  refine zA (qe ?_)
  exact ⟨_, _, false, x2, x3, x8, x13, g4, A5, c6, g9, A10, c11, qf _ ⟨rfl, rfl, yp⟩, hG117, H118, b⟩
 intro hM116
 refine qq (i := 0) (m' := 1) rfl (qa (pt b0) rfl) B E ?_
 refine qq (i := 1) (m' := 3) rfl (qM rfl) B E ?_
 refine qq (i := 2) (m' := 7) rfl (qh fo136_3 rfl) B E ?_
 refine qq (i := 3) (m' := 15) rfl (qh jw rfl) B E ?_
 refine qq (i := 5) (m' := 47) rfl (qa (pt b0) rfl) B E ?_
 refine qq (i := 6) (m' := 111) rfl (qM rfl) B E ?_
 refine qq (i := 7) (m' := 239) rfl (qh jH rfl) B E ?_
 refine qq (i := 8) (m' := 495) rfl (qh xe rfl) B E ?_
 refine qq (i := 9) (m' := 1007) rfl (qh fo26_3 rfl) B E ?_
 refine qi [4, 10] ⟨?_, ?_, yp⟩
 ·refine qg (m' := 1023) fun I j => ?_
  refine qp H78 (i := 0) rfl (Lens.then zi zf) (qz .u8) ty5 rfl (qd (j _ _ ?_))
  refine qi [10] ⟨qg (m' := 2047) fun I j => ?_, yp⟩
  refine qp H78 (i := 0) rfl (Lens.then (Lens.then qH zq) zT) (qz .u8) ty5 rfl (qd (j _ _ ?_))
  exact hM116 _ _ ⟨_, _, qf _ ⟨rfl, rfl, rfl, rfl, yp⟩, GLe.refl _, H78⟩
 refine qg (m' := 2031) fun I j => ?_
 refine qp H78 (i := 0) rfl (Lens.then (Lens.then qH zq) zT) (qz .u8) ty5 rfl (qd (j _ _ ?_))
 refine qi [4] ⟨qg (m' := 2047) fun I j => ?_, yp⟩
 refine qp H78 (i := 0) rfl (Lens.then zi zf) (qz .u8) ty5 rfl (qd (j _ _ ?_))
 exact hM116 _ _ ⟨_, _, qf _ ⟨rfl, rfl, rfl, rfl, yp⟩, GLe.refl _, H78⟩

theorem opts_of_ok {c : World} (k : Hc c) {G : qk} {w : World} {σ : List Ent} {a0 : Int}  (H : St c G w (σ)) {r : Int} (b : opts_of a0 = some r) :
  Calls Tryz.prog 179 ([(.int .u8 a0)] : List Value).toArray w (zu fun v w' => ∃ (G' : qk) (b1' : Nat), GLe G G' ∧ tup [(.func (.func 211) #[] #[(.pointer (some ⟨b1', 0, none⟩))])] = v ∧ St c G' w' ((.box b1' 5 (kB.at_ r)) :: σ)) := by
 unfold opts_of at b
 refine qG Tryz.func179 rfl rfl rfl (wp_seq (qc ?_))
 refine zp (K := kB) (x := a0) H rfl ((qz .u8).toV _ _) ?_
 intro b1 w4 H2
 refine qb (qa (.nilFunc) rfl) (qd (qe (wp_seq (qc ?_))))
 iterate 2 refine qb (qa (.func (.func 211) #[] #[(pt b1)]) rfl) ?_
 refine qd (qe (wp_ret ?_))
 have b := yq b
 subst b
 exact qt rfl (RV.tmp rfl RV.nil) ⟨_, b1, GLe.refl _, rfl, H2⟩

theorem opts_of_1_ok {c : World} (k : Hc c) {G : qk} {w : World} {σ : List Ent} {a0 : TOpt} {v0_ : Value} {b1 : Nat} {x2 : Int} (h0_ : qx.V G v0_ a0) (H : St c G w ((.box b1 5 (kB.at_ x2)) :: σ)) {r : (Bool × Int)} (b : opts_of_1 a0 x2 = some r) :
  Calls Tryz.prog 211 ([v0_, (pt b1)] : List Value).toArray w (zu fun v w' => ∃ (G' : qk), GLe G G' ∧ tup [(.bool r.1)] = v ∧ St c G' w' ((.box b1 5 (kB.at_ r.2)) :: σ)) := by
 unfold opts_of_1 at b
 refine qG Tryz.func211 rfl rfl rfl (wp_seq (qc ?_))
 refine zp (K := qx) (x := a0) H rfl h0_ ?_
 intro b3 w6 H4
 refine qb (qa (.bool false) rfl) (qd (qe (wp_seq (qc (qb (qh jc rfl) (qp H4 (i := 0) rfl qX (qz .u8) ty5 rfl (qp H4 (i := 1) rfl (Lens.id kB) (qz .u8) ty5 rfl ?_)))))))
 iterate 2 refine qb (qa (.bool (a0.Typ == x2)) rfl) ?_
 refine qd (qe (wp_ret ?_))
 have b := yq b
 subst b
 exact qt rfl (RV.tmp rfl RV.nil) ⟨_, GLe.refl _, rfl, (St.pk [1] 2 H4 rfl (by decide))⟩

theorem slices_IndexFunc_Opt_opts_of_1_ok {c : World} (k : Hc c) {G : qk} {w : World} {σ : List Ent} {a0 : (List TOpt)} {A0_ : Option Addr} {c0_ : Nat} {b1_0 : Nat} {x2 : Int} (h0_ : SlR qx G A0_ c0_ a0) (H : St c G w ((.box b1_0 5 (kB.at_ x2)) :: σ)) {r : (Int × Int)} (b : jG a0 x2 = some r) :
  Calls Tryz.prog 169 ([(.slice A0_ a0.length c0_), (.func (.func 211) #[] #[(pt b1_0)])] : List Value).toArray w (zu fun v w' => ∃ (G' : qk), GLe G G' ∧ tup [(.int .i64 r.1)] = v ∧ St c G' w' ((.box b1_0 5 (kB.at_ r.2)) :: σ)) := by
 unfold jG at b
 refine qG Tryz.func169 rfl rfl rfl (wp_seq (qc (qb (qa (.int .i64 0) rfl) (qd (qe (wp_seq (wp_seq (qc (qb (qa (.slice A0_ a0.length c0_) rfl) (qb (zb zQ rfl) (qb (qa (.int .i64 0) rfl) (qd (qe ?_)))))))))))))
 refine wp_block ?_
 refine ja (fun (s : (Int × Int)) a w => ∃ (T0 : Fr) (G1 : qk), a = mk 19 (qQ T0 [(0, (.slice A0_ a0.length c0_)), (1, (.func (.func 211) #[] #[(pt b1_0)])), (7, (.int .i64 (a0.length : Int))), (8, (.int .i64 s.1))]) ∧ GLe G G1 ∧ St c G1 w ((.box b1_0 5 (kB.at_ s.2)) :: σ)) b ?_ ?_
 ·exact ⟨_, _, qf _ ⟨rfl, rfl, rfl, rfl, yp⟩, GLe.refl _, H⟩
 rintro ⟨x38, x39⟩ a w y42 ⟨T0, G43, rfl, hG40, H41⟩ b hy3
 refine wp_seq (qc (qb (qa (.bool (decide (x38 < (a0.length : Int)))) rfl) (qd (qe (wp_seq ?_)))))
 rcases qm (decide (x38 < (a0.length : Int))) with hb44 | hb44
 ·replace b := ifT b hb44
  refine qs (vb hb44) (wp_skip (qe (wp_seq (wp_block (wp_seq (qc ?_))))))
  iterate 2 refine qb (qa (.int .i64 x38) rfl) ?_
  refine qd (qe (wp_seq (qc (qb (qa (.func (.func 211) #[] #[(pt b1_0)]) rfl) (qb (qa (.slice A0_ a0.length c0_) rfl) (qb (qa (.int .i64 x38) rfl) ?_))))))
  obtain ⟨x45, hx46, b⟩ := qu b
  refine qR (qY (h0_.mono hG40) zQ zc rfl rfl hx46) ?_
  intro a47 hp48
  refine zH H41 hp48 zc rfl ?_
  intro v49 hv50
  obtain ⟨r51, hr52, b⟩ := qu b
  refine jT (first := []) (captured := [(pt b1_0)]) (vs := [v49, (pt b1_0)]) en211 rfl rfl (opts_of_1_ok k hv50 H41 hr52) ?_
  rintro v57 w56 ⟨G53, hG54, rfl, H55⟩
  refine qd (qe ?_)
  rcases qm r51.1 with hb58 | hb58
  ·replace b := ifT b hb58
   refine qs (vb hb58) (wp_seq (qc ?_))
   iterate 2 refine qb (qa (.int .i64 x38) rfl) ?_
   refine qd (qe (wp_ret (zg ?_)))
   iterate 2 refine qI ?_
   replace b := jJ b hy3
   refine zg (qI ?_)
   have b := yq b
   subst b
   exact qt rfl (RV.tmp rfl RV.nil) ⟨_, (hG40.trans hG54), rfl, H55⟩
  replace b := ifF b hb58
  refine qn (vb hb58) (wp_skip (zn (qe (qc ?_))))
  iterate 2 refine qb (qa (.int .i64 (IntKind.i64.wrap (x38 + 1))) rfl) ?_
  refine qd (qe ?_)
  exact ⟨_, (yq b).symm, _, _, qf _ ⟨rfl, rfl, rfl, rfl, yp⟩, (hG40.trans hG54), H55⟩
 replace b := ifF b hb44
 refine qn (vb hb44) ?_
 refine wp_exit ?_
 iterate 2 refine xB ?_
 replace b := jJ b hy3
 refine blk_e ?_
 refine qe (wp_seq (qc (qb (qa (.int .i64 (-1)) rfl) (qd (qe (wp_ret ?_))))))
 have b := yq b
 subst b
 exact qt rfl (RV.tmp rfl RV.nil) ⟨_, hG40, rfl, H41⟩

theorem opts_first_Opt_opts_of_1_ok {c : World} (k : Hc c) {G : qk} {w : World} {σ : List Ent} {a0 : (List TOpt)} {A0_ : Option Addr} {c0_ : Nat} {b1_0 : Nat} {x2 : Int} (h0_ : SlR qx G A0_ c0_ a0) (H : St c G w ((.box b1_0 5 (kB.at_ x2)) :: σ)) {r : (TOpt × Int × Int)} (b : xS a0 x2 = some r) :
  Calls Tryz.prog 178 ([(.slice A0_ a0.length c0_), (.func (.func 211) #[] #[(pt b1_0)])] : List Value).toArray w (zu fun v w' => ∃ (G' : qk) (v1' : Value), GLe G G' ∧ tup [v1', (.int .i64 r.2.1)] = v ∧ St c G' w' ((.box b1_0 5 (kB.at_ r.2.2)) :: σ) ∧ qx.V G' v1' r.1) := by
 unfold xS at b
 refine qG Tryz.func178 rfl rfl rfl (wp_seq (qc ?_))
 refine qP H xv ?_
 intro b3 w6 H4
 refine qb (qa (.int .i64 0) rfl) (qd (qe (wp_seq (qc ?_))))
 refine qP H4 xv ?_
 intro b7 w10 H8
 refine qd (qe (wp_seq (qc (qb (qa (.slice A0_ a0.length c0_) rfl) (qb (qa (.func (.func 211) #[] #[(pt b1_0)]) rfl) ?_)))))
 obtain ⟨r11, hr12, b⟩ := qu b
 refine qo (vs := [(.slice A0_ a0.length c0_), (.func (.func 211) #[] #[(pt b1_0)])]) en169 rfl (slices_IndexFunc_Opt_opts_of_1_ok k h0_ (St.pk [2, 0, 1] 3 H8 rfl (by decide)) hr12) ?_
 rintro v17 w16 ⟨G13, hG14, rfl, H15⟩
 refine qb (qa (.int .i64 r11.1) rfl) (qd (qe (wp_seq (wp_seq (qc (qb (qa (.int .i64 r11.1) rfl) (qb (qa (.bool (decide (r11.1 < 0))) rfl) (qd (qe ?_)))))))))
 rcases qm (decide (r11.1 < 0)) with hb18 | hb18
 ·replace b := ifT b hb18
  refine qs (vb hb18) (wp_seq (qc ?_))
  refine ql H15 (i := 1) rfl (Lens.id qx) zc rfl ?_
  intro v19 hv20
  refine qb (qa (.int .i64 r11.1) rfl) ?_
  refine qy (z := zTOpt) H15 (i := 2) rfl (Lens.id qx) zc rfl rfl hv20 ?_
  intro w22 H21
  refine qb (qa (.int .i64 r11.1) rfl) (qd (qe (wp_ret (qI ?_))))
  obtain ⟨v23, hv24, hl25⟩ := H21.loadv (i := 2) rfl zc
  have b := yq b
  subst b
  exact qt rfl (RV.cell rfl hl25 (RV.tmp rfl RV.nil)) ⟨_, v23, hG14, rfl, (St.pk [0] 3 H21 rfl (by decide)), hv24⟩
 replace b := ifF b hb18
 refine qn (vb hb18) (wp_skip (qe (wp_seq (qc (qb (qa (.slice A0_ a0.length c0_) rfl) (qb (qa (.int .i64 r11.1) rfl) ?_))))))
 obtain ⟨x26, hx27, b⟩ := qu b
 refine qR (qY (h0_.mono hG14) zQ zc rfl rfl hx27) ?_
 intro a28 hp29
 refine zH H15 hp29 zc rfl ?_
 intro v30 hv31
 refine qb (qa (.int .i64 r11.1) rfl) ?_
 refine qy (z := x26) H15 (i := 2) rfl (Lens.id qx) zc rfl rfl hv31 ?_
 intro w33 H32
 refine qb (qa (.int .i64 r11.1) rfl) (qd (qe (wp_ret ?_)))
 obtain ⟨v34, hv35, hl36⟩ := H32.loadv (i := 2) rfl zc
 have b := yq b
 subst b
 exact qt rfl (RV.cell rfl hl36 (RV.tmp rfl RV.nil)) ⟨_, v34, hG14, rfl, (St.pk [0] 3 H32 rfl (by decide)), hv35⟩

theorem opts_Find_ok {c : World} (k : Hc c) {G : qk} {w : World} {σ : List Ent} {a0 : (List TOpt)} {A0_ : Option Addr} {c0_ : Nat} {a1 : Int} (h0_ : SlR qx G A0_ c0_ a0) (H : St c G w (σ)) {r : (TOpt × Bool)} (b : opts_Find a0 a1 = some r) :
  Calls Tryz.prog 127 ([(.slice A0_ a0.length c0_), (.int .u8 a1)] : List Value).toArray w (zu fun v w' => ∃ (G' : qk) (v1' : Value), GLe G G' ∧ tup [v1', (.bool r.2)] = v ∧ St c G' w' (σ) ∧ qx.V G' v1' r.1) := by
 unfold opts_Find at b
 refine qG Tryz.func127 rfl rfl rfl (wp_seq (qc ?_))
 refine qP H xv ?_
 intro b1 w4 H2
 refine qb (qa (.bool false) rfl) (qd (qe (wp_seq (qc (qb (qa (.slice A0_ a0.length c0_) rfl) (qb (qa (.int .u8 a1) rfl) ?_))))))
 obtain ⟨r5, hr6, b⟩ := qu b
 refine qo (vs := [(.int .u8 a1)]) en179 rfl (opts_of_ok k H2 hr6) ?_
 rintro v11 w10 ⟨G7, b12, hG8, rfl, H9⟩
 obtain ⟨r14, hr15, b⟩ := qu b
 refine qo (vs := [(.slice A0_ a0.length c0_), (.func (.func 211) #[] #[(pt b12)])]) en178 rfl (opts_first_Opt_opts_of_1_ok k (h0_.mono hG8) H9 hr15) ?_
 rintro v20 w19 ⟨G16, v21, hG17, rfl, H18, hv22⟩
 refine qb (qa (.tuple #[v21, (.int .i64 r14.2.1)]) rfl) (qb (qa v21 rfl) (qb (qa (.int .i64 r14.2.1) rfl) ?_))
 refine qP H18 xv ?_
 intro b23 w26 H24
 refine qy (z := r14.1) H24 (i := 0) rfl (Lens.id qx) zc rfl rfl hv22 ?_
 intro w28 H27
 refine qb (qa (.int .i64 r14.2.1) rfl) (qd (qe (wp_seq (qc ?_))))
 refine ql H27 (i := 0) rfl (Lens.id qx) zc rfl ?_
 intro v29 hv30
 refine qb (qa (.int .i64 r14.2.1) rfl) (qb (qa (.bool (decide (r14.2.1 ≥ 0))) rfl) ?_)
 refine qy (z := r14.1) H27 (i := 2) rfl (Lens.id qx) zc rfl rfl hv30 ?_
 intro w32 H31
 refine qb (qa (.bool (decide (r14.2.1 ≥ 0))) rfl) (qd (qe (wp_ret ?_)))
 obtain ⟨v33, hv34, hl35⟩ := H31.loadv (i := 2) rfl zc
 have b := yq b
 subst b
 exact qt rfl (RV.cell rfl hl35 (RV.tmp rfl RV.nil)) ⟨_, v33, (hG8.trans hG17), rfl, (St.pk [] 3 H31 rfl (by decide)), hv34⟩

theorem slices_Clone_Opt_ok {c : World} (k : Hc c) {G : qk} {w : World} {σ : List Ent} {a0 : (List TOpt)} {A0_ : Option Addr} {c0_ : Nat} (h0_ : SlR qx G A0_ c0_ a0) (H : St c G w (σ)) {r : (List TOpt)} (b : slices_Clone_Opt a0 = some r) :
  Calls Tryz.prog 218 ([(.slice A0_ a0.length c0_)] : List Value).toArray w (zu fun v w' => ∃ (G' : qk) (g1' : Option Nat) (A2' : Option Addr) (c3' : Nat), GLe G G' ∧ tup [(.slice A2' r.length c3')] = v ∧ St c G' w' ((.row qx g1' A2' c3' 133 r) :: σ)) := by
 unfold slices_Clone_Opt at b
 refine qG Tryz.func218 rfl rfl rfl (wp_seq (qc (qb (qa (.slice none 0 0) rfl) (qd (qe (wp_seq (wp_seq (qc (qb (qa (.slice A0_ a0.length c0_) rfl) (qb (rn_isnil zQ rfl rfl) (qd (qe ?_))))))))))))
 rcases isnil A0_ with hA1 | hA1
 ·have b : (some ([] : (List TOpt))) = some r := by
   have e := (h0_.2.1 hA1).1
   subst e
   exact b
  refine qs (congrArg (fun A => Value.bool (Option.isNone A)) hA1) (wp_seq (qc (qb (qa (.slice none 0 0) rfl) (qd (qe (wp_ret (qI ?_)))))))
  have H2 := H.nilrow qx none 133
  have b := yq b
  subst b
  exact qt rfl (RV.tmp rfl RV.nil) ⟨_, none, none, 0, GLe.refl _, rfl, H2⟩
 refine qn (vb hA1) (wp_skip (qe (wp_seq (qc ?_))))
 refine zh (K := qx) (vs := []) (xs := ([] : (List TOpt))) H zQ el133 rfl yp rfl (by decide) ?_
 intro g4 w6 H5
 refine qb (qa (.slice A0_ a0.length c0_) rfl) ?_
 obtain ⟨r8, hr9, b⟩ := qu b
 refine zB H5 zQ el133 (i := 0) rfl rfl rfl (h0_.src H5.ag) hr9 ?_
 intro g10 A11 c12 w13 H14
 refine qb (qa (.slice A11 r8.length c12) rfl) (qd (qe (wp_ret ?_)))
 have b := yq b
 subst b
 exact qt rfl (RV.tmp rfl RV.nil) ⟨_, g10, A11, c12, GLe.refl _, rfl, H14⟩

theorem rules_Turn_1_ok {c : World} (k : Hc c) {G : qk} {w : World} {σ : List Ent} {a0 : TOpt} {v0_ : Value} {b1 : Nat} {x2 : (List TOpt)} (h0_ : qx.V G v0_ a0) (H : St c G w ((.box b1 30 ((Kd.slice qx).at_ x2)) :: σ)) {r : (Bool × (List TOpt))} (b : rules_Turn_1 a0 x2 = some r) :
  Calls Tryz.prog 219 ([v0_, (pt b1)] : List Value).toArray w (zu fun v w' => ∃ (G' : qk), GLe G G' ∧ tup [(.bool r.1)] = v ∧ St c G' w' ((.box b1 30 ((Kd.slice qx).at_ r.2)) :: σ)) := by
 unfold rules_Turn_1 at b
 refine qG Tryz.func219 rfl rfl rfl (wp_seq (qc ?_))
 refine zp (K := qx) (x := a0) H rfl h0_ ?_
 intro b3 w6 H4
 refine qb (qa (.bool false) rfl) (qd (qe (wp_seq (qc ?_))))
 refine ql H4 (i := 1) rfl (Lens.id (Kd.slice qx)) ty30 rfl ?_
 intro v7 hv8
 obtain ⟨A9, c10, rfl, hs11⟩ := qN hv8
 refine qb (qh jc rfl) (qp H4 (i := 0) rfl qX (qz .u8) ty5 rfl ?_)
 obtain ⟨r12, hr13, b⟩ := qu b
 refine qo (vs := [(.slice A9 x2.length c10), (.int .u8 a0.Typ)]) en127 rfl (opts_Find_ok k hs11 H4 hr13) ?_
 rintro v18 w17 ⟨G14, v19, hG15, rfl, H16, hv20⟩
 refine qb (qa (.tuple #[v19, (.bool r12.2)]) rfl) (qb (qa v19 rfl) (qb (qa (.bool r12.2) rfl) ?_))
 refine qP H16 xv ?_
 intro b21 w24 H22
 refine qy (z := r12.1) H22 (i := 0) rfl (Lens.id qx) zc rfl rfl hv20 ?_
 intro w26 H25
 refine qb (qa (.bool r12.2) rfl) (qd (qe (wp_seq (qc ?_))))
 iterate 2 refine qb (qa (.bool r12.2) rfl) ?_
 refine qd (qe (wp_ret ?_))
 have b := yq b
 subst b
 exact qt rfl (RV.tmp rfl RV.nil) ⟨_, hG15, rfl, (St.pk [2] 3 H25 rfl (by decide))⟩

theorem slices_IndexFunc_Opt_rules_Turn_1_ownR_ok {c : World} (k : Hc c) {G : qk} {w : World} {σ : List Ent} {a0 : (List TOpt)} {g0_ : Option Nat} {A0_ : Option Addr} {c0_ : Nat} {b1_0 : Nat} {x3 : (List TOpt)}  (H : St c G w ((.row qx g0_ A0_ c0_ 133 a0) :: (.box b1_0 30 ((Kd.slice qx).at_ x3)) :: σ)) {r : (Int × (List TOpt))} (b : xk a0 x3 = some r) :
  Calls Tryz.prog 169 ([(.slice A0_ a0.length c0_), (.func (.func 219) #[] #[(pt b1_0)])] : List Value).toArray w (zu fun v w' => ∃ (G' : qk), GLe G G' ∧ tup [(.int .i64 r.1)] = v ∧ St c G' w' ((.row qx g0_ A0_ c0_ 133 a0) :: (.box b1_0 30 ((Kd.slice qx).at_ r.2)) :: σ)) := by
 unfold xk at b
 refine qG Tryz.func169 rfl rfl rfl (wp_seq (qc (qb (qa (.int .i64 0) rfl) (qd (qe (wp_seq (wp_seq (qc (qb (qa (.slice A0_ a0.length c0_) rfl) (qb (zb zQ rfl) (qb (qa (.int .i64 0) rfl) (qd (qe ?_)))))))))))))
 refine wp_block ?_
 refine ja (fun (s : (Int × (List TOpt))) a w => ∃ (T0 : Fr) (G1 : qk), a = mk 19 (qQ T0 [(0, (.slice A0_ a0.length c0_)), (1, (.func (.func 219) #[] #[(pt b1_0)])), (7, (.int .i64 (a0.length : Int))), (8, (.int .i64 s.1))]) ∧ GLe G G1 ∧ St c G1 w ((.row qx g0_ A0_ c0_ 133 a0) :: (.box b1_0 30 ((Kd.slice qx).at_ s.2)) :: σ)) b ?_ ?_
 ·exact ⟨_, _, qf _ ⟨rfl, rfl, rfl, rfl, yp⟩, GLe.refl _, H⟩
 rintro ⟨x39, x40⟩ a w y43 ⟨T0, G44, rfl, hG41, H42⟩ b hy4
 refine wp_seq (qc (qb (qa (.bool (decide (x39 < (a0.length : Int)))) rfl) (qd (qe (wp_seq ?_)))))
 rcases qm (decide (x39 < (a0.length : Int))) with hb45 | hb45
 ·replace b := ifT b hb45
  refine qs (vb hb45) (wp_skip (qe (wp_seq (wp_block (wp_seq (qc ?_))))))
  iterate 2 refine qb (qa (.int .i64 x39) rfl) ?_
  refine qd (qe (wp_seq (qc (qb (qa (.func (.func 219) #[] #[(pt b1_0)]) rfl) (qb (qa (.slice A0_ a0.length c0_) rfl) (qb (qa (.int .i64 x39) rfl) ?_))))))
  obtain ⟨x46, hx47, b⟩ := qu b
  refine qR (rn_indexO H42 (i := 0) rfl zQ zc rfl (by simp) rfl hx47) ?_
  intro a48 hA49
  refine wl_loadO H42 (i := 0) rfl hA49 hx47 zc rfl ?_
  intro v50 hv51
  obtain ⟨r52, hr53, b⟩ := qu b
  refine jT (first := []) (captured := [(pt b1_0)]) (vs := [v50, (pt b1_0)]) en219 rfl rfl (rules_Turn_1_ok k hv51 (St.pk [1, 0] 2 H42 rfl (by decide)) hr53) ?_
  rintro v58 w57 ⟨G54, hG55, rfl, H56⟩
  refine qd (qe ?_)
  rcases qm r52.1 with hb59 | hb59
  ·replace b := ifT b hb59
   refine qs (vb hb59) (wp_seq (qc ?_))
   iterate 2 refine qb (qa (.int .i64 x39) rfl) ?_
   refine qd (qe (wp_ret (zg ?_)))
   iterate 2 refine qI ?_
   replace b := jJ b hy4
   refine zg (qI ?_)
   have b := yq b
   subst b
   exact qt rfl (RV.tmp rfl RV.nil) ⟨_, (hG41.trans hG55), rfl, (St.pk [1, 0] 2 H56 rfl (by decide))⟩
  replace b := ifF b hb59
  refine qn (vb hb59) (wp_skip (zn (qe (qc ?_))))
  iterate 2 refine qb (qa (.int .i64 (IntKind.i64.wrap (x39 + 1))) rfl) ?_
  refine qd (qe ?_)
  exact ⟨_, (yq b).symm, _, _, qf _ ⟨rfl, rfl, rfl, rfl, yp⟩, (hG41.trans hG55), (St.pk [1, 0] 2 H56 rfl (by decide))⟩
 replace b := ifF b hb45
 refine qn (vb hb45) ?_
 refine wp_exit ?_
 iterate 2 refine xB ?_
 replace b := jJ b hy4
 refine blk_e ?_
 refine qe (wp_seq (qc (qb (qa (.int .i64 (-1)) rfl) (qd (qe (wp_ret ?_))))))
 have b := yq b
 subst b
 exact qt rfl (RV.tmp rfl RV.nil) ⟨_, hG41, rfl, H42⟩

theorem slices_DeleteFunc_Opt_rules_Turn_1_ok {c : World} (k : Hc c) {G : qk} {w : World} {σ : List Ent} {a0 : (List TOpt)} {g0_ : Option Nat} {A0_ : Option Addr} {c0_ : Nat} {b1_0 : Nat} {x3 : (List TOpt)}  (H : St c G w ((.row qx g0_ A0_ c0_ 133 a0) :: (.box b1_0 30 ((Kd.slice qx).at_ x3)) :: σ)) {r : ((List TOpt) × (List TOpt))} (b : xV a0 x3 = some r) :
  Calls Tryz.prog 217 ([(.slice A0_ a0.length c0_), (.func (.func 219) #[] #[(pt b1_0)])] : List Value).toArray w (zu fun v w' => ∃ (G' : qk) (g1' : Option Nat) (A2' : Option Addr) (c3' : Nat), GLe G G' ∧ tup [(.slice A2' r.1.length c3')] = v ∧ St c G' w' ((.row qx g1' A2' c3' 133 r.1) :: (.box b1_0 30 ((Kd.slice qx).at_ r.2)) :: σ)) := by
 unfold xV at b
 refine qG Tryz.func217 rfl rfl rfl (wp_seq (qc (qb (qa (.slice none 0 0) rfl) (qd (qe (wp_seq (qc (qb (qa (.slice A0_ a0.length c0_) rfl) (qb (qa (.func (.func 219) #[] #[(pt b1_0)]) rfl) ?_)))))))))
 obtain ⟨r4, hr5, b⟩ := qu b
 refine qo (vs := [(.slice A0_ a0.length c0_), (.func (.func 219) #[] #[(pt b1_0)])]) en169 rfl (slices_IndexFunc_Opt_rules_Turn_1_ownR_ok k H hr5) ?_
 rintro v10 w9 ⟨G6, hG7, rfl, H8⟩
 refine qb (qa (.int .i64 r4.1) rfl) (qd (qe (wp_seq (wp_seq (qc (qb (qa (.int .i64 r4.1) rfl) (qb (qa (.bool (r4.1 == (-1))) rfl) (qd (qe ?_)))))))))
 rcases qm (r4.1 == (-1)) with hb11 | hb11
 ·replace b := ifT b hb11
  refine qs (vb hb11) (wp_seq (qc ?_))
  iterate 2 refine qb (qa (.slice A0_ a0.length c0_) rfl) ?_
  refine qd (qe (wp_ret (qI ?_)))
  have b := yq b
  subst b
  exact qt rfl (RV.tmp rfl RV.nil) ⟨_, g0_, A0_, c0_, hG7, rfl, H8⟩
 replace b := ifF b hb11
 refine qn (vb hb11) (wp_skip (qe (wp_seq (wp_seq (qc (qb (qa (.int .i64 r4.1) rfl) ?_))))))
 iterate 2 refine qb (qa (.int .i64 (IntKind.i64.wrap (r4.1 + 1))) rfl) ?_
 refine qd (qe (wp_block ?_))
 refine ja (fun (s : ((List TOpt) × Int × Int × (List TOpt))) a w => ∃ (T0 : Fr) (G1 : qk) (g114 : Option Nat) (A115 : Option Addr) (c116 : Nat), a = mk 42 (qQ T0 [(0, (.slice A115 s.1.length c116)), (1, (.func (.func 219) #[] #[(pt b1_0)])), (5, (.int .i64 s.2.1)), (6, (.int .i64 s.2.2.1))]) ∧ GLe G6 G1 ∧ St c G1 w ((.row qx g114 A115 c116 133 s.1) :: (.box b1_0 30 ((Kd.slice qx).at_ s.2.2.2)) :: σ)) b ?_ ?_
 ·exact ⟨_, _, g0_, A0_, c0_, qf _ ⟨rfl, rfl, rfl, rfl, yp⟩, GLe.refl _, H8⟩
 rintro ⟨x113, x118, x119, x120⟩ a w y123 ⟨T0, G124, g114, A115, c116, rfl, hG121, H122⟩ b hy12
 refine wp_seq (wp_seq (qc (qb (qa (.int .i64 x119) rfl) (qb (qa (.slice A115 x113.length c116) rfl) (qb (zb zQ rfl) (qb (qa (.bool (decide (x119 < (x113.length : Int)))) rfl) (qd (qe ?_))))))))
 rcases qm (decide (x119 < (x113.length : Int))) with hb125 | hb125
 ·replace b := ifT b hb125
  refine qs (vb hb125) (wp_skip (qe ?_))
  refine wp_seq (join (fun a w => ∃ (T0 G1 : _) (x156 : (List TOpt)) (x161 : Int) (x162 : (List TOpt)) (g157 A158 c159 : _), a = mk 42 (qQ T0 [(0, (.slice A158 x156.length c159)), (1, (.func (.func 219) #[] #[(pt b1_0)])), (5, (.int .i64 x161)), (6, (.int .i64 x119))]) ∧ GLe G124 G1 ∧ St c G1 w ((.row qx g157 A158 c159 133 x156) :: (.box b1_0 30 ((Kd.slice qx).at_ x162)) :: σ) ∧ xp x119 x156 x161 x162 = some y123) ?_ ?_)
  ·rintro a w ⟨T0, G165, x156, x161, x162, g157, A158, c159, rfl, hG163, H164, b⟩
   refine qc (qb (qa (.int .i64 x119) rfl) ?_)
   iterate 2 refine qb (qa (.int .i64 (IntKind.i64.wrap (x119 + 1))) rfl) ?_
   refine qd (qe ?_)
   exact ⟨_, (yq b).symm, _, _, g157, A158, c159, qf _ ⟨rfl, rfl, rfl, rfl, yp⟩, (hG121.trans hG163), H164⟩
  refine wp_block (wp_seq (qc (qb (qa (.slice A115 x113.length c116) rfl) (qb (qa (.int .i64 x119) rfl) ?_))))
  obtain ⟨x166, hx167, b⟩ := qu b
  refine qR (rn_indexO H122 (i := 0) rfl zQ zc rfl (by simp) rfl hx167) ?_
  intro a168 hA169
  refine wl_loadO H122 (i := 0) rfl hA169 hx167 zc rfl ?_
  intro v170 hv171
  refine qP H122 xv ?_
  intro b172 w175 H173
  refine qy (z := x166) H173 (i := 0) rfl (Lens.id qx) zc rfl rfl hv171 ?_
  intro w177 H176
  refine qd (qe (wp_seq (qc (qb (qa (.func (.func 219) #[] #[(pt b1_0)]) rfl) ?_))))
  refine ql H176 (i := 0) rfl (Lens.id qx) zc rfl ?_
  intro v178 hv179
  obtain ⟨r180, hr181, b⟩ := qu b
  refine jT (first := []) (captured := [(pt b1_0)]) (vs := [v178, (pt b1_0)]) en219 rfl rfl (rules_Turn_1_ok k hv179 (St.pk [2, 0, 1] 3 H176 rfl (by decide)) hr181) ?_
  rintro v186 w185 ⟨G182, hG183, rfl, H184⟩
  refine qb (qa (.bool (!r180.1)) rfl) (qd (qe ?_))
  rcases qm (!r180.1) with hb187 | hb187
  ·replace b := ifT b hb187
   refine qs (vb hb187) (wp_seq (qc (qb (qa (.slice A115 x113.length c116) rfl) (qb (qa (.int .i64 x118) rfl) ?_))))
   refine ql H184 (i := 1) rfl (Lens.id qx) zc rfl ?_
   intro v188 hv189
   obtain ⟨x190, hx191, b⟩ := qu b
   refine qR (rn_indexO H184 (i := 2) rfl zQ zc rfl (by simp) rfl hx191) ?_
   intro a192 hA193
   refine wl_storeO (z := x166) H184 (i := 2) rfl hA193 hx191 zc rfl rfl hv189 ?_
   intro w195 H194
   refine qd (qe (qc (qb (qa (.int .i64 x118) rfl) ?_)))
   iterate 2 refine qb (qa (.int .i64 (IntKind.i64.wrap (x118 + 1))) rfl) ?_
   refine qd (zn (qe ?_))
   exact ⟨_, _, (x113.set (x118).toNat x166), (IntKind.i64.wrap (x118 + 1)), r180.2, g114, A115, c116, qf _ ⟨((rfl : _ = (Value.slice A115 x113.length c116)).trans (show (Value.slice A115 x113.length c116) = (Value.slice A115 (x113.set (x118).toNat x166).length c116) by simp)), rfl, rfl, rfl, yp⟩, hG183, (St.pk [2, 0] 3 H194 rfl (by decide)), b⟩
  replace b := ifF b hb187
  refine qn (vb hb187) (wp_skip (zn (qe ?_)))
  exact ⟨_, _, x113, x118, r180.2, g114, A115, c116, qf _ ⟨rfl, rfl, rfl, rfl, yp⟩, hG183, (St.pk [2, 0] 3 H184 rfl (by decide)), b⟩
 replace b := ifF b hb125
 refine qn (vb hb125) ?_
 refine wp_exit ?_
 iterate 2 refine xB ?_
 replace b := jJ b hy12
 refine blk_e ?_
 refine qe (wp_seq (qc (qb (qa (.slice A115 x113.length c116) rfl) (qb (qa (.int .i64 x118) rfl) ?_))))
 obtain ⟨r196, hr197, b⟩ := qu b
 refine qb (rn_cutT zQ zc rfl rfl (cut_len hr197).1 (by simpa using (cut_len hr197).2.1)) ?_
 refine wl_clearT H122 (i := 0) rfl zQ xv (by simp) hr197 rfl ?_
 intro w199 H198
 refine qd (qe (wp_seq (qc (qb (qa (.slice A115 x113.length c116) rfl) (qb (qa (.int .i64 x118) rfl) (qb (rn_cutR hr197 (row_cap H198 (i := 0) rfl) zQ zc rfl rfl) (qb (qa (.slice A115 r196.length c116) rfl) (qd (qe (wp_ret ?_))))))))))
 have b := yq b
 subst b
 exact qt rfl (RV.tmp rfl RV.nil) ⟨_, g114, A115, c116, (hG7.trans hG121), rfl, H198⟩

theorem opts_Put_ok {c : World} (k : Hc c) {G : qk} {w : World} {σ : List Ent} {a0 : (List TOpt)} {A0_ : Option Addr} {c0_ : Nat} {a1 : TOpt} {v1_ : Value} (h0_ : SlR qx G A0_ c0_ a0) (h1_ : qx.V G v1_ a1) (H : St c G w (σ)) {r : (List TOpt)} (b : opts_Put a0 a1 = some r) :
  Calls Tryz.prog 220 ([(.slice A0_ a0.length c0_), v1_] : List Value).toArray w (zu fun v w' => ∃ (G' : qk) (A1' : Option Addr) (c2' : Nat), GLe G G' ∧ tup [(.slice A1' r.length c2')] = v ∧ St c G' w' (σ) ∧ SlR qx G' A1' c2' r) := by
 unfold opts_Put at b
 refine qG Tryz.func220 rfl rfl rfl (wp_seq (qc ?_))
 refine zp (K := qx) (x := a1) H rfl h1_ ?_
 intro b1 w4 H2
 refine qb (qa (.slice none 0 0) rfl) (qd (qe (wp_seq (qc (qb (qa (.slice A0_ a0.length c0_) rfl) ?_)))))
 obtain ⟨r5, hr6, b⟩ := qu b
 refine qo (vs := [(.slice A0_ a0.length c0_)]) en218 rfl (slices_Clone_Opt_ok k h0_ H2 hr6) ?_
 rintro v11 w10 ⟨G7, g12, A13, c14, hG8, rfl, H9⟩
 refine qb (qa (.slice A13 r5.length c14) rfl) (qd (qe (wp_seq (qc (qb (qa (.slice A0_ a0.length c0_) rfl) (qb (qh jc rfl) (qp H9 (i := 1) rfl qX (qz .u8) ty5 rfl ?_)))))))
 obtain ⟨r16, hr17, b⟩ := qu b
 refine qo (vs := [(.int .u8 a1.Typ)]) en179 rfl (opts_of_ok k H9 hr17) ?_
 rintro v22 w21 ⟨G18, b23, hG19, rfl, H20⟩
 obtain ⟨r25, hr26, b⟩ := qu b
 refine qo (vs := [(.slice A0_ a0.length c0_), (.func (.func 211) #[] #[(pt b23)])]) en178 rfl (opts_first_Opt_opts_of_1_ok k (h0_.mono (hG8.trans hG19)) H20 hr26) ?_
 rintro v31 w30 ⟨G27, v32, hG28, rfl, H29, hv33⟩
 refine qb (qa (.tuple #[v32, (.int .i64 r25.2.1)]) rfl) (qb (qa v32 rfl) (qb (qa (.int .i64 r25.2.1) rfl) ?_))
 refine qP H29 xv ?_
 intro b34 w37 H35
 refine qy (z := r25.1) H35 (i := 0) rfl (Lens.id qx) zc rfl rfl hv33 ?_
 intro w39 H38
 refine qb (qa (.int .i64 r25.2.1) rfl) (qd (qe (wp_seq (wp_seq (qc (qb (qa (.int .i64 r25.2.1) rfl) (qb (qa (.bool (decide (r25.2.1 < 0))) rfl) (qd (qe ?_)))))))))
 rcases qm (decide (r25.2.1 < 0)) with hb40 | hb40
 ·replace b := ifT b hb40
  refine qs (vb hb40) (wp_seq (qc (qb (qa (.slice A13 r5.length c14) rfl) ?_)))
  refine ql H38 (i := 3) rfl (Lens.id qx) zc rfl ?_
  intro v41 hv42
  refine zh (K := qx) (vs := [v41]) (xs := ([a1] : (List TOpt))) H38 zQ el133 rfl ⟨hv42, yp⟩ rfl (by decide) ?_
  intro g43 w45 H44
  obtain ⟨r47, hr48, b⟩ := qu b
  refine zB H44 zQ el133 (i := 3) rfl rfl rfl ((H44.okAt (i := 0) rfl).src) hr48 ?_
  intro g49 A50 c51 w52 H53
  refine qb (qa (.slice A50 r47.length c51) rfl) (qd (qe (wp_ret (qI ?_))))
  obtain ⟨G54, hG55, H56, hs57⟩ := H53.stay (i := 3) rfl (H53.capA (i := 3) rfl)
  have b := yq b
  subst b
  exact qt rfl (RV.tmp rfl RV.nil) ⟨_, A50, c51, (((hG8.trans hG19).trans hG28).trans hG55), rfl, (St.pk [] 4 H56 rfl (by decide)), hs57⟩
 replace b := ifF b hb40
 refine qn (vb hb40) (wp_skip (qe (wp_seq (qc (qb (qa (.slice A13 r5.length c14) rfl) (qb (qa (.int .i64 r25.2.1) rfl) ?_))))))
 refine ql H38 (i := 3) rfl (Lens.id qx) zc rfl ?_
 intro v58 hv59
 obtain ⟨x60, hx61, b⟩ := qu b
 refine qR (rn_indexO H38 (i := 2) rfl zQ zc rfl (by simp) rfl hx61) ?_
 intro a62 hA63
 refine wl_storeO (z := a1) H38 (i := 2) rfl hA63 hx61 zc rfl rfl hv59 ?_
 intro w65 H64
 refine qd (qe (wp_seq (qc ?_)))
 iterate 2 refine qb (qa (.slice A13 r5.length c14) rfl) ?_
 refine qd (qe (wp_ret ?_))
 obtain ⟨G66, hG67, H68, hs69⟩ := H64.stay (i := 2) rfl (H64.capA (i := 2) rfl)
 have b := yq b
 subst b
 exact qt rfl (RV.tmp ((rfl : _ = (Value.slice A13 r5.length c14)).trans (show (Value.slice A13 r5.length c14) = (Value.slice A13 (r5.set (r25.2.1).toNat a1).length c14) by simp)) RV.nil) ⟨_, A13, c14, (((hG8.trans hG19).trans hG28).trans hG67), rfl, (St.pk [] 3 H68 rfl (by decide)), hs69⟩

theorem rules_Turn_ok {c : World} (k : Hc c) {G : qk} {w : World} {σ : List Ent} {a0 : TRule} {v0_ : Value} {a1 : (List TOpt)} {A1_ : Option Addr} {c1_ : Nat} {a2 : Int} {a3 : (List TOpt)} {A3_ : Option Addr} {c3_ : Nat} (h0_ : qU.V G v0_ a0) (h1_ : SlR qx G A1_ c1_ a1) (h3_ : SlR qx G A3_ c3_ a3) (H : St c G w (σ)) {r : ((List TOpt) × Bool)} (b : rules_Turn a0 a1 a2 a3 = some r) :
  Calls Tryz.prog 191 ([v0_, (.slice A1_ a1.length c1_), (.int .u8 a2), (.slice A3_ a3.length c3_)] : List Value).toArray w (zu fun v w' => ∃ (G' : qk) (A1' : Option Addr) (c2' : Nat), GLe G G' ∧ tup [(.slice A1' r.1.length c2'), (.bool r.2)] = v ∧ St c G' w' (σ) ∧ SlR qx G' A1' c2' r.1) := by
 unfold rules_Turn at b
 refine qG Tryz.func191 rfl rfl rfl (wp_seq (qc ?_))
 refine zp (K := qU) (x := a0) H rfl h0_ ?_
 intro b1 w4 H2
 refine zp (K := (Kd.slice qx)) (x := a3) H2 rfl (zw h3_) ?_
 intro b5 w8 H6
 refine qb (qa (.slice none 0 0) rfl) (qb (qa (.bool false) rfl) (qd (qe (wp_seq (qc ?_)))))
 refine ql H6 (i := 0) rfl (Lens.id (Kd.slice qx)) ty30 rfl ?_
 intro v9 hv10
 obtain ⟨A11, c12, rfl, hs13⟩ := qN hv10
 obtain ⟨r14, hr15, b⟩ := qu b
 refine qo (vs := [(.slice A11 a3.length c12), (.int .u8 3)]) en127 rfl (opts_Find_ok k hs13 H6 hr15) ?_
 rintro v20 w19 ⟨G16, v21, hG17, rfl, H18, hv22⟩
 refine qb (qa (.tuple #[v21, (.bool r14.2)]) rfl) (qb (qa v21 rfl) (qb (qa (.bool r14.2) rfl) ?_))
 refine qP H18 xv ?_
 intro b23 w26 H24
 refine qy (z := r14.1) H24 (i := 0) rfl (Lens.id qx) zc rfl rfl hv22 ?_
 intro w28 H27
 refine qb (qa (.bool r14.2) rfl) (qd (qe (wp_seq (qc ?_))))
 refine ql H27 (i := 1) rfl (Lens.id (Kd.slice qx)) ty30 rfl ?_
 intro v29 hv30
 obtain ⟨A31, c32, rfl, hs33⟩ := qN hv30
 obtain ⟨r34, hr35, b⟩ := qu b
 refine qo (vs := [(.slice A31 a3.length c32), (.int .u8 5)]) en127 rfl (opts_Find_ok k hs33 H27 hr35) ?_
 rintro v40 w39 ⟨G36, v41, hG37, rfl, H38, hv42⟩
 refine qb (qa (.tuple #[v41, (.bool r34.2)]) rfl) (qb (qa v41 rfl) (qb (qa (.bool r34.2) rfl) ?_))
 refine qP H38 xv ?_
 intro b43 w46 H44
 refine qy (z := r34.1) H44 (i := 0) rfl (Lens.id qx) zc rfl rfl hv42 ?_
 intro w48 H47
 refine qb (qa (.bool r34.2) rfl) (qd (qe (wp_seq (qc (qb (qa (.slice A1_ a1.length c1_) rfl) ?_)))))
 obtain ⟨r49, hr50, b⟩ := qu b
 refine qo (vs := [(.slice A1_ a1.length c1_), (.int .u8 5)]) en127 rfl (opts_Find_ok k (h1_.mono (hG17.trans hG37)) H47 hr50) ?_
 rintro v55 w54 ⟨G51, v56, hG52, rfl, H53, hv57⟩
 refine qb (qa (.tuple #[v56, (.bool r49.2)]) rfl) (qb (qa v56 rfl) (qb (qa (.bool r49.2) rfl) ?_))
 refine qP H53 xv ?_
 intro b58 w61 H59
 refine qy (z := r49.1) H59 (i := 0) rfl (Lens.id qx) zc rfl rfl hv57 ?_
 intro w63 H62
 refine qb (qa (.bool r49.2) rfl) (qd (qe (wp_seq (wp_block ?_))))
 refine wp_seq (join (fun a w => ∃ (T0 G1 : _) (x65 : Bool), a = mk 66 (qQ T0 [(1, (.slice A1_ a1.length c1_)), (2, (.int .u8 a2)), (4, (pt b1)), (7, (pt b5)), (13, (.bool r34.2)), (15, (.bool r49.2)), (31, (.bool x65))]) ∧ GLe G51 G1 ∧ St c G1 w ((.box b5 30 ((Kd.slice qx).at_ a3)) :: (.box b1 29 (qU.at_ a0)) :: σ) ∧ rules_Turn_j1 a0 a1 a2 a3 r34 r49 x65 = some r) ?_ ?_)
 ·rintro a w ⟨T0, G68, x65, rfl, hG66, H67, b⟩
  rcases qm x65 with hb69 | hb69
  ·replace b := ifT b hb69
   refine qs (vb hb69) (wp_seq (qc ?_))
   iterate 2 refine qb (qa (.slice A1_ a1.length c1_) rfl) ?_
   refine qb (qa (.bool false) rfl) (qd (qe (wp_ret (zg (qI ?_)))))
   have b := yq b
   subst b
   exact qt rfl (RV.tmp rfl (RV.tmp rfl RV.nil)) ⟨_, A1_, c1_, (((hG17.trans hG37).trans hG52).trans hG66), rfl, (St.pk [] 2 H67 rfl (by decide)), (h1_.mono (((hG17.trans hG37).trans hG52).trans hG66))⟩
  replace b := ifF b hb69
  refine qn (vb hb69) (wp_seq (qc (qb (qa (.int .u8 a2) rfl) ?_)))
  iterate 2 refine qb (qa (.bool (a2 == 4)) rfl) ?_
  refine qd (qe ?_)
  rcases qm (a2 == 4) with hb70 | hb70
  ·replace b := ifT b hb70
   refine qs (vb hb70) (wp_seq (qc (qb (qa (.slice A1_ a1.length c1_) rfl) ?_)))
   obtain ⟨r71, hr72, b⟩ := qu b
   refine qo (vs := [(.slice A1_ a1.length c1_)]) en218 rfl (slices_Clone_Opt_ok k (h1_.mono (((hG17.trans hG37).trans hG52).trans hG66)) H67 hr72) ?_
   rintro v77 w76 ⟨G73, g78, A79, c80, hG74, rfl, H75⟩
   refine qb (qa (.func (.func 219) #[] #[(pt b5)]) rfl) ?_
   obtain ⟨r82, hr83, b⟩ := qu b
   refine qo (vs := [(.slice A79 r71.length c80), (.func (.func 219) #[] #[(pt b5)])]) en217 rfl (slices_DeleteFunc_Opt_rules_Turn_1_ok k H75 hr83) ?_
   rintro v88 w87 ⟨G84, g89, A90, c91, hG85, rfl, H86⟩
   refine qb (qa (.slice A90 r82.1.length c91) rfl) (qb (qa (.bool true) rfl) (qd (qe (wp_ret (zg (qI ?_))))))
   obtain ⟨G93, hG94, H95, hs96⟩ := H86.stay (i := 0) rfl (H86.capA (i := 0) rfl)
   have b := yq b
   subst b
   exact qt rfl (RV.tmp rfl (RV.tmp rfl RV.nil)) ⟨_, A90, c91, ((((((hG17.trans hG37).trans hG52).trans hG66).trans hG74).trans hG85).trans hG94), rfl, (St.pk [] 2 H95 rfl (by decide)), hs96⟩
  replace b := ifF b hb70
  refine qn (vb hb70) (wp_seq (qc (qb (qa (.int .u8 a2) rfl) ?_)))
  iterate 2 refine qb (qa (.bool (a2 != 3)) rfl) ?_
  refine qd (qe ?_)
  rcases qm (a2 != 3) with hb97 | hb97
  ·replace b := ifT b hb97
   refine qs (vb hb97) (wp_seq (qc ?_))
   iterate 2 refine qb (qa (.slice A1_ a1.length c1_) rfl) ?_
   refine qb (qa (.bool false) rfl) (qd (qe (wp_ret (zg (qI ?_)))))
   have b := yq b
   subst b
   exact qt rfl (RV.tmp rfl (RV.tmp rfl RV.nil)) ⟨_, A1_, c1_, (((hG17.trans hG37).trans hG52).trans hG66), rfl, (St.pk [] 2 H67 rfl (by decide)), (h1_.mono (((hG17.trans hG37).trans hG52).trans hG66))⟩
  replace b := ifF b hb97
  refine qn (vb hb97) ?_
  refine wp_seq (join (fun a w => ∃ (T0 G1 : _) (x100 : Bool), a = mk 66 (qQ T0 [(1, (.slice A1_ a1.length c1_)), (4, (pt b1)), (50, (.bool x100))]) ∧ GLe G68 G1 ∧ St c G1 w ((.box b1 29 (qU.at_ a0)) :: σ) ∧ rules_Turn_j2 a0 a1 x100 = some r) ?_ ?_)
  ·rintro a w ⟨T0, G103, x100, rfl, hG101, H102, b⟩
   rcases qm x100 with hb104 | hb104
   ·replace b := ifT b hb104
    refine qs (vb hb104) (wp_seq (qc (qb (qa (.slice A1_ a1.length c1_) rfl) (qb (qh fo29_2 rfl) (qp H102 (i := 0) rfl lTRule_Other (qz .u32) ty27 rfl ?_)))))
    obtain ⟨r105, hr106, b⟩ := qu b
    refine qo (vs := [(.int .u8 5), (.int .i64 4), (.int .u32 a0.Other)]) en166 rfl (rules_number_ok k H102 hr106) ?_
    rintro v111 w110 ⟨G107, v112, hG108, rfl, H109, hv113⟩
    obtain ⟨r114, hr115, b⟩ := qu b
    refine qo (vs := [(.slice A1_ a1.length c1_), v112]) en220 rfl (opts_Put_ok k (h1_.mono (((((hG17.trans hG37).trans hG52).trans hG66).trans hG101).trans hG108)) hv113 H109 hr115) ?_
    rintro v120 w119 ⟨G116, A121, c122, hG117, rfl, H118, hs123⟩
    refine qb (qa (.slice A121 r114.length c122) rfl) (qb (qa (.bool true) rfl) (qd (qe (wp_ret (zg (qI ?_))))))
    have b := yq b
    subst b
    exact qt rfl (RV.tmp rfl (RV.tmp rfl RV.nil)) ⟨_, A121, c122, ((((((hG17.trans hG37).trans hG52).trans hG66).trans hG101).trans hG108).trans hG117), rfl, (St.pk [] 1 H118 rfl (by decide)), hs123⟩
   replace b := ifF b hb104
   refine qn (vb hb104) (wp_skip (zn (qe (wp_seq (qc ?_)))))
   iterate 2 refine qb (qa (.slice A1_ a1.length c1_) rfl) ?_
   refine qb (qa (.bool true) rfl) (qd (qe (wp_ret ?_)))
   have b := yq b
   subst b
   exact qt rfl (RV.tmp rfl (RV.tmp rfl RV.nil)) ⟨_, A1_, c1_, ((((hG17.trans hG37).trans hG52).trans hG66).trans hG101), rfl, (St.pk [] 1 H102 rfl (by decide)), (h1_.mono ((((hG17.trans hG37).trans hG52).trans hG66).trans hG101))⟩
  refine qc (qb (qh fo29_0 rfl) (qp H67 (i := 1) rfl xO dBool ty4 rfl ?_))
  iterate 2 refine qb (qa (.bool (!a0.Ip)) rfl) ?_
  rcases qm (!a0.Ip) with hb124 | hb124
  ·replace b := ifT b hb124
   refine qj rfl rfl rfl (vb hb124) (qb (qa (.bool r34.2) rfl) (qb (qB (.bool r34.2) (vb hb124) rfl) (qb (qa (.bool r34.2) rfl) ?_)))
   rcases qm r34.2 with hb125 | hb125
   ·replace b := ifT b hb125
    refine qj rfl rfl rfl (vb hb125) (qb (qa (.bool r49.2) rfl) (qb (qB (.bool r49.2) (vb hb125) rfl) (qb (qa (.bool r49.2) rfl) (qd (qe ?_)))))
    exact ⟨_, _, r49.2, qf _ ⟨rfl, rfl, rfl, yp⟩, GLe.refl _, (St.pk [1] 2 H67 rfl (by decide)), b⟩
   replace b := ifF b hb125
   refine qJ rfl rfl rfl (vb hb125) (qb (qr (.bool false) (vb hb125) rfl) (qb (qa (.bool false) rfl) (qd (qe ?_))))
   exact ⟨_, _, false, qf _ ⟨rfl, rfl, rfl, yp⟩, GLe.refl _, (St.pk [1] 2 H67 rfl (by decide)), b⟩
  replace b := ifF b hb124
  refine qJ rfl rfl rfl (vb hb124) (qb (qr (.bool false) (vb hb124) rfl) (qb (qa (.bool false) rfl) (qJ rfl rfl rfl rfl (qb (qr (.bool false) rfl rfl) (qb (qa (.bool false) rfl) (qd (qe ?_)))))))
  exact ⟨_, _, false, qf _ ⟨rfl, rfl, rfl, yp⟩, GLe.refl _, (St.pk [1] 2 H67 rfl (by decide)), b⟩
 refine qc (qb (qh fo29_0 rfl) (qp H62 (i := 4) rfl xO dBool ty4 rfl ?_))
 iterate 2 refine qb (qa (.bool (!a0.Ip)) rfl) ?_
 rcases qm (!a0.Ip) with hb126 | hb126
 ·replace b := ifT b hb126
  refine qj rfl rfl rfl (vb hb126) (qb (qa (.bool r14.2) rfl) (qb (qB (.bool r14.2) (vb hb126) rfl) (qb (qa (.bool r14.2) rfl) (qd (qe ?_)))))
  exact ⟨_, _, r14.2, qf _ ⟨rfl, rfl, rfl, rfl, rfl, rfl, rfl, yp⟩, GLe.refl _, (St.pk [3, 4] 5 H62 rfl (by decide)), b⟩
 replace b := ifF b hb126
 refine qJ rfl rfl rfl (vb hb126) (qb (qr (.bool false) (vb hb126) rfl) (qb (qa (.bool false) rfl) (qd (qe ?_))))
 exact ⟨_, _, false, qf _ ⟨rfl, rfl, rfl, rfl, rfl, rfl, rfl, yp⟩, GLe.refl _, (St.pk [3, 4] 5 H62 rfl (by decide)), b⟩

theorem nego_work_nak_ok {c : World} (k : Hc c) {G : qk} {w : World} {σ : List Ent} {b0 : Nat} {x2 : TNego} {x3 : (List TPkt)} {x8 : (List Int)} {x13 : TPkt} {g4 : Option Nat} {A5 : Option Addr} {c6 : Nat} {g9 : Option Nat} {A10 : Option Addr} {c11 : Nat}  (H : St c G w ((.box b0 136 (qA.at_ (Tnego_workV.mk x2 (.slice A5 x3.length c6) (.slice A10 x8.length c11) x13))) :: (.row qC g4 A5 c6 46 x3) :: (.row kI g9 A10 c11 3 x8) :: σ)) {r : (TNego × (List TPkt) × (List Int) × TPkt)} (b : yj x2 x3 x8 x13 = some r) :
  Calls Tryz.prog 141 ([(pt b0)] : List Value).toArray w (zu fun v w' => ∃ (G' : qk) (g1' : Option Nat) (A2' : Option Addr) (c3' : Nat) (g4' : Option Nat) (A5' : Option Addr) (c6' : Nat), GLe G G' ∧ tup [] = v ∧ St c G' w' ((.box b0 136 (qA.at_ (Tnego_workV.mk r.1 (.slice A2' r.2.1.length c3') (.slice A5' r.2.2.1.length c6') r.2.2.2))) :: (.row qC g1' A2' c3' 46 r.2.1) :: (.row kI g4' A5' c6' 3 r.2.2.1) :: σ)) := by
 unfold yj at b
 refine qG Tryz.func141 rfl rfl rfl (wp_seq (qc (qb (qa (pt b0) rfl) (qb (qM rfl) (qb (qh fo136_3 rfl) (qb (qh xG rfl) ?_))))))
 refine ql H (i := 0) rfl (Lens.then zi zm) jy rfl ?_
 intro v14 hv15
 obtain ⟨A16, c17, rfl, hs18⟩ := qN hv15
 obtain ⟨r19, hr20, b⟩ := qu b
 refine qo (vs := [(.slice A16 x13.Data.length c17)]) en187 rfl (opts_Read_ok k hs18 H hr20) ?_
 rintro v25 w24 ⟨G21, A26, c27, hG22, rfl, H23, hs28⟩
 refine qb (qa (.tuple #[(.slice A26 r19.1.length c27), (.int .i64 r19.2)]) rfl) (qb (qa (.slice A26 r19.1.length c27) rfl) (qb (qa (.int .i64 r19.2) rfl) (qb (qa (.slice A26 r19.1.length c27) rfl) (qb (qa (.int .i64 r19.2) rfl) (qd (qe (wp_seq ?_)))))))
 refine wp_seq (join (fun a w => ∃ (T0 G1 : _) (x30 : Bool) (x31 : TNego) (x32 : (List TPkt)) (x37 : (List Int)) (x42 : TPkt) (g33 A34 c35 g38 A39 c40 : _), a = mk 64 (qQ T0 [(0, (pt b0)), (2, (.slice A26 r19.1.length c27)), (30, (.bool x30))]) ∧ GLe G21 G1 ∧ St c G1 w ((.box b0 136 (qA.at_ (Tnego_workV.mk x31 (.slice A34 x32.length c35) (.slice A39 x37.length c40) x42))) :: (.row qC g33 A34 c35 46 x32) :: (.row kI g38 A39 c40 3 x37) :: σ) ∧ yc r19 x30 x31 x32 x37 x42 = some r) ?_ ?_)
 ·rintro a w ⟨T0, G45, x30, x31, x32, x37, x42, g33, A34, c35, g38, A39, c40, rfl, hG43, H44, b⟩
  rcases qm x30 with hb46 | hb46
  ·replace b := ifT b hb46
   refine qs (vb hb46) (wp_ret (qI ?_))
   have b := yq b
   subst b
   exact qt rfl RV.nil ⟨_, g33, A34, c35, g38, A39, c40, (hG22.trans hG43), rfl, H44⟩
  replace b := ifF b hb46
  refine qn (vb hb46) (wp_skip (qe (wp_seq ?_)))
  refine jP (f := 22) H44 mixed ?_
  intro w64 H65
  refine xW (by repeat (first | exact PF.base | apply PF.then_ | apply PF.blk)) ?_
  intro B E
  obtain ⟨r73, hr74, b⟩ := qu b
  refine qF (fuel := 6) (m := 65535) (fun a w => ∃ T0 G1 v130 A132 c133 A135 c136, a = mk 64 (qQ T0 [(0, (pt b0)), (36, v130), (41, (.slice A132 x31.Ours.length c133)), (46, (.int .u8 x42.Code)), (47, (.slice A135 r19.1.length c136))]) ∧ GLe G45 G1 ∧ St c G1 w ((.box b0 136 (qA.at_ (Tnego_workV.mk x31 (.slice A34 x32.length c35) (.slice A39 x37.length c40) x42))) :: (.row qC g33 A34 c35 46 x32) :: (.row kI g38 A39 c40 3 x37) :: σ) ∧ qU.V G1 v130 x31.R ∧ SlR qx G1 A132 c133 x31.Ours ∧ SlR qx G1 A135 c136 r19.1) ?_ ?_
  ·rintro a w ⟨T0, G129, v130, A132, c133, A135, c136, rfl, hG127, H128, hv131, hs134, hs137⟩
   refine qi [16] ⟨qg (m' := 131071) fun I j => ?_, yp⟩
   refine qo (vs := [v130, (.slice A132 x31.Ours.length c133), (.int .u8 x42.Code), (.slice A135 r19.1.length c136)]) en191 rfl (rules_Turn_ok k hv131 hs134 hs137 H128 hr74) ?_
   rintro v150 w149 ⟨G146, A151, c152, hG147, rfl, H148, hs153⟩
   refine qd (j _ _ ?_)
   refine qq (i := 17) (m' := 262143) rfl (qa (.tuple #[(.slice A151 r73.1.length c152), (.bool r73.2)]) rfl) B E ?_
   refine qq (i := 18) (m' := 524287) rfl (qa (.slice A151 r73.1.length c152) rfl) B E ?_
   refine qq (i := 19) (m' := 1048575) rfl (qa (.bool r73.2) rfl) B E ?_
   refine qq (i := 20) (m' := 2097151) rfl (qa (.slice A151 r73.1.length c152) rfl) B E ?_
   refine qq (i := 21) (m' := 4194303) rfl (qa (.bool r73.2) rfl) B E ?_
   refine zA (qe (wp_seq (wp_seq (qc (qb (qa (.bool r73.2) rfl) (qb (qa (.bool (!r73.2)) rfl) (qd (qe ?_))))))))
   rcases qm (!r73.2) with hb154 | hb154
   ·replace b := ifT b hb154
    refine qs (vb hb154) (wp_seq (qc (qb (qa (pt b0) rfl) ?_)))
    refine qR (qT (G := G146) zr46 rfl bs46 rfl (Parts.nil _)) ?_
    intro v155 hv156
    obtain ⟨r157, hr158, b⟩ := qu b
    refine qo (vs := [(pt b0), (.int .i64 3), v155]) en74 rfl (jg k hv156 H148 hr158) ?_
    rintro v163 w162 ⟨G159, A164, c165, g167, A168, c169, g170, A171, c172, hG160, rfl, H161, hs166⟩
    refine qd (qe (wp_ret (qI ?_)))
    have b := yq b
    subst b
    exact qt rfl RV.nil ⟨_, g167, A168, c169, g170, A171, c172, ((((hG22.trans hG43).trans hG127).trans hG147).trans hG160), rfl, H161⟩
   replace b := ifF b hb154
   refine qn (vb hb154) (wp_skip (qe (wp_seq (qc (qb (qa (pt b0) rfl) (qb (qa (.slice A151 r73.1.length c152) rfl) (qb (qM rfl) (qb (qh jH rfl) (qb (qh fo32_2 rfl) ?_)))))))))
   refine qy (z := r73.1) H148 (i := 0) rfl (Lens.then qH zD) ty30 rfl rfl (zw hs153) ?_
   intro w174 H173
   refine qd (qe (qc (qb (qa (pt b0) rfl) ?_)))
   refine qR (qT (G := G146) zr46 rfl bs46 rfl (Parts.nil _)) ?_
   intro v175 hv176
   obtain ⟨r177, hr178, b⟩ := qu b
   refine qo (vs := [(pt b0), (.int .i64 9), v175]) en74 rfl (jg k hv176 H173 hr178) ?_
   rintro v183 w182 ⟨G179, A184, c185, g187, A188, c189, g190, A191, c192, hG180, rfl, H181, hs186⟩
   refine qd ?_
   have b := yq b
   subst b
   exact end_mk rfl RV.nil ⟨_, g187, A188, c189, g190, A191, c192, ((((hG22.trans hG43).trans hG127).trans hG147).trans hG180), rfl, H181⟩
  intro hM126
  refine qF (fuel := 7) (m := 65519) (fun a w => ∃ T0 G1 A120 c121 A123 c124, a = mk 64 (qQ T0 [(0, (pt b0)), (35, (pu b0 4)), (41, (.slice A120 x31.Ours.length c121)), (46, (.int .u8 x42.Code)), (47, (.slice A123 r19.1.length c124))]) ∧ GLe G45 G1 ∧ St c G1 w ((.box b0 136 (qA.at_ (Tnego_workV.mk x31 (.slice A34 x32.length c35) (.slice A39 x37.length c40) x42))) :: (.row qC g33 A34 c35 46 x32) :: (.row kI g38 A39 c40 3 x37) :: σ) ∧ SlR qx G1 A120 c121 x31.Ours ∧ SlR qx G1 A123 c124 r19.1) ?_ ?_
  ·rintro a w ⟨T0, G119, A120, c121, A123, c124, rfl, hG117, H118, hs122, hs125⟩
   refine qi [4] ⟨qg (m' := 65535) fun I j => ?_, yp⟩
   refine ql H118 (i := 0) rfl (Lens.then qH ym) ty29 rfl ?_
   intro v193 hv194
   refine qd (j _ _ ?_)
   exact hM126 _ _ ⟨_, _, v193, A120, c121, A123, c124, qf _ ⟨rfl, rfl, rfl, rfl, rfl, yp⟩, hG117, H118, hv194, hs122, hs125⟩
  intro hM116
  refine qF (fuel := 7) (m := 65023) (fun a w => ∃ T0 G1 v111 A113 c114, a = mk 64 (qQ T0 [(0, (pt b0)), (36, v111), (40, (pu b0 9)), (46, (.int .u8 x42.Code)), (47, (.slice A113 r19.1.length c114))]) ∧ GLe G45 G1 ∧ St c G1 w ((.box b0 136 (qA.at_ (Tnego_workV.mk x31 (.slice A34 x32.length c35) (.slice A39 x37.length c40) x42))) :: (.row qC g33 A34 c35 46 x32) :: (.row kI g38 A39 c40 3 x37) :: σ) ∧ qU.V G1 v111 x31.R ∧ SlR qx G1 A113 c114 r19.1) ?_ ?_
  ·rintro a w ⟨T0, G110, v111, A113, c114, rfl, hG108, H109, hv112, hs115⟩
   refine qi [9] ⟨qg (m' := 65535) fun I j => ?_, yp⟩
   refine ql H109 (i := 0) rfl (Lens.then qH zD) ty30 rfl ?_
   intro v195 hv196
   obtain ⟨A197, c198, rfl, hs199⟩ := qN hv196
   refine qd (j _ _ ?_)
   exact hM126 _ _ ⟨_, _, v111, A197, c198, A113, c114, qf _ ⟨rfl, rfl, rfl, rfl, rfl, yp⟩, hG108, H109, hv112, hs199, hs115⟩
  intro hM107
  refine qF (fuel := 7) (m := 49151) (fun a w => ∃ T0 G1 v99 A101 c102 A104 c105, a = mk 64 (qQ T0 [(0, (pt b0)), (36, v99), (41, (.slice A101 x31.Ours.length c102)), (45, (pu b0 14)), (47, (.slice A104 r19.1.length c105))]) ∧ GLe G45 G1 ∧ St c G1 w ((.box b0 136 (qA.at_ (Tnego_workV.mk x31 (.slice A34 x32.length c35) (.slice A39 x37.length c40) x42))) :: (.row qC g33 A34 c35 46 x32) :: (.row kI g38 A39 c40 3 x37) :: σ) ∧ qU.V G1 v99 x31.R ∧ SlR qx G1 A101 c102 x31.Ours ∧ SlR qx G1 A104 c105 r19.1) ?_ ?_
  ·rintro a w ⟨T0, G98, v99, A101, c102, A104, c105, rfl, hG96, H97, hv100, hs103, hs106⟩
   refine qi [14] ⟨qg (m' := 65535) fun I j => ?_, yp⟩
   refine qp H97 (i := 0) rfl (Lens.then zi qW) (qz .u8) ty5 rfl (qd (j _ _ ?_))
   exact hM126 _ _ ⟨_, _, v99, A101, c102, A104, c105, qf _ ⟨rfl, rfl, rfl, rfl, rfl, yp⟩, hG96, H97, hv100, hs103, hs106⟩
  intro hM95
  refine qq (i := 0) (m' := 1) rfl (qa (pt b0) rfl) B E ?_
  refine qq (i := 1) (m' := 3) rfl (qM rfl) B E ?_
  refine qq (i := 2) (m' := 7) rfl (qh jH rfl) B E ?_
  refine qq (i := 3) (m' := 15) rfl (qh fo32_1 rfl) B E ?_
  refine qq (i := 5) (m' := 47) rfl (qa (pt b0) rfl) B E ?_
  refine qq (i := 6) (m' := 111) rfl (qM rfl) B E ?_
  refine qq (i := 7) (m' := 239) rfl (qh jH rfl) B E ?_
  refine qq (i := 8) (m' := 495) rfl (qh fo32_2 rfl) B E ?_
  refine qq (i := 10) (m' := 1519) rfl (qa (pt b0) rfl) B E ?_
  refine qq (i := 11) (m' := 3567) rfl (qM rfl) B E ?_
  refine qq (i := 12) (m' := 7663) rfl (qh fo136_3 rfl) B E ?_
  refine qq (i := 13) (m' := 15855) rfl (qh jO rfl) B E ?_
  refine qq (i := 15) (m' := 48623) rfl (qa (.slice A26 r19.1.length c27) rfl) B E ?_
  refine qi [4, 9, 14] ⟨?_, ?_, ?_, yp⟩
  ·refine qg (m' := 48639) fun I j => ?_
   refine ql H65 (i := 0) rfl (Lens.then qH ym) ty29 rfl ?_
   intro v200 hv201
   refine qd (j _ _ ?_)
   refine qi [9, 14] ⟨?_, ?_, yp⟩
   ·refine qg (m' := 49151) fun I j => ?_
    refine ql H65 (i := 0) rfl (Lens.then qH zD) ty30 rfl ?_
    intro v202 hv203
    obtain ⟨A204, c205, rfl, hs206⟩ := qN hv203
    refine qd (j _ _ ?_)
    exact hM95 _ _ ⟨_, _, v200, A204, c205, A26, c27, qf _ ⟨rfl, rfl, rfl, rfl, rfl, yp⟩, GLe.refl _, H65, hv201, hs206, (hs28.mono hG43)⟩
   refine qg (m' := 65023) fun I j => ?_
   refine qp H65 (i := 0) rfl (Lens.then zi qW) (qz .u8) ty5 rfl (qd (j _ _ ?_))
   exact hM107 _ _ ⟨_, _, v200, A26, c27, qf _ ⟨rfl, rfl, rfl, rfl, rfl, yp⟩, GLe.refl _, H65, hv201, (hs28.mono hG43)⟩
  ·refine qg (m' := 49135) fun I j => ?_
   refine ql H65 (i := 0) rfl (Lens.then qH zD) ty30 rfl ?_
   intro v207 hv208
   obtain ⟨A209, c210, rfl, hs211⟩ := qN hv208
   refine qd (j _ _ ?_)
   refine qi [4, 14] ⟨?_, ?_, yp⟩
   ·refine qg (m' := 49151) fun I j => ?_
    refine ql H65 (i := 0) rfl (Lens.then qH ym) ty29 rfl ?_
    intro v212 hv213
    refine qd (j _ _ ?_)
    exact hM95 _ _ ⟨_, _, v212, A209, c210, A26, c27, qf _ ⟨rfl, rfl, rfl, rfl, rfl, yp⟩, GLe.refl _, H65, hv213, hs211, (hs28.mono hG43)⟩
   refine qg (m' := 65519) fun I j => ?_
   refine qp H65 (i := 0) rfl (Lens.then zi qW) (qz .u8) ty5 rfl (qd (j _ _ ?_))
   exact hM116 _ _ ⟨_, _, A209, c210, A26, c27, qf _ ⟨rfl, rfl, rfl, rfl, rfl, yp⟩, GLe.refl _, H65, hs211, (hs28.mono hG43)⟩
  refine qg (m' := 65007) fun I j => ?_
  refine qp H65 (i := 0) rfl (Lens.then zi qW) (qz .u8) ty5 rfl (qd (j _ _ ?_))
  refine qi [4, 9] ⟨?_, ?_, yp⟩
  ·refine qg (m' := 65023) fun I j => ?_
   refine ql H65 (i := 0) rfl (Lens.then qH ym) ty29 rfl ?_
   intro v214 hv215
   refine qd (j _ _ ?_)
   exact hM107 _ _ ⟨_, _, v214, A26, c27, qf _ ⟨rfl, rfl, rfl, rfl, rfl, yp⟩, GLe.refl _, H65, hv215, (hs28.mono hG43)⟩
  refine qg (m' := 65519) fun I j => ?_
  refine ql H65 (i := 0) rfl (Lens.then qH zD) ty30 rfl ?_
  intro v216 hv217
  obtain ⟨A218, c219, rfl, hs220⟩ := qN hv217
  refine qd (j _ _ ?_)
  exact hM116 _ _ ⟨_, _, A218, c219, A26, c27, qf _ ⟨rfl, rfl, rfl, rfl, rfl, yp⟩, GLe.refl _, H65, hs220, (hs28.mono hG43)⟩
 refine jP (f := 16) H23 mixed ?_
 intro w221 H222
 refine xW (by repeat (first | exact PF.base | apply PF.then_ | apply PF.blk)) ?_
 intro B E
 rcases qm (x13.Id != x2.A.Id) with hb223 | hb223
 ·replace b := ifT b hb223
  refine qF (fuel := 5) (m := 2047) (fun a w => ∃ T0 G1, a = mk 64 (qQ T0 [(0, (pt b0)), (2, (.slice A26 r19.1.length c27)), (3, (.int .i64 r19.2)), (19, (.int .u8 x13.Id)), (25, (.int .u8 x2.A.Id))]) ∧ GLe G21 G1 ∧ St c G1 w ((.box b0 136 (qA.at_ (Tnego_workV.mk x2 (.slice A5 x3.length c6) (.slice A10 x8.length c11) x13))) :: (.row qC g4 A5 c6 46 x3) :: (.row kI g9 A10 c11 3 x8) :: σ)) ?_ ?_
  ·rintro a w ⟨T0, G227, rfl, hG225, H226⟩
   refine qq (i := 11) (m' := 4095) rfl (qa (.bool (x13.Id != x2.A.Id)) rfl) B E ?_
   refine qq (i := 12) (m' := 8191) rfl (qa (.bool (x13.Id != x2.A.Id)) rfl) B E ?_
   refine qS (i := 13) (m' := 16383) 27 false rfl (vb hb223) B E ?_
   refine qS (i := 14) (m' := 32767) 27 false rfl (vb hb223) B E ?_
   refine qq (i := 15) (m' := 65535) rfl (qB (.bool true) (vb hb223) rfl) B E ?_
   refine zA (qe ?_)
   exact ⟨_, _, true, x2, x3, x8, x13, g4, A5, c6, g9, A10, c11, qf _ ⟨rfl, rfl, rfl, yp⟩, hG225, H226, b⟩
  intro hM224
  refine qq (i := 0) (m' := 1) rfl (qa (pt b0) rfl) B E ?_
  refine qq (i := 1) (m' := 3) rfl (qM rfl) B E ?_
  refine qq (i := 2) (m' := 7) rfl (qh fo136_3 rfl) B E ?_
  refine qq (i := 3) (m' := 15) rfl (qh jw rfl) B E ?_
  refine qq (i := 5) (m' := 47) rfl (qa (pt b0) rfl) B E ?_
  refine qq (i := 6) (m' := 111) rfl (qM rfl) B E ?_
  refine qq (i := 7) (m' := 239) rfl (qh jH rfl) B E ?_
  refine qq (i := 8) (m' := 495) rfl (qh xe rfl) B E ?_
  refine qq (i := 9) (m' := 1007) rfl (qh fo26_3 rfl) B E ?_
  refine qi [4, 10] ⟨?_, ?_, yp⟩
  ·refine qg (m' := 1023) fun I j => ?_
   refine qp H222 (i := 0) rfl (Lens.then zi zf) (qz .u8) ty5 rfl (qd (j _ _ ?_))
   refine qi [10] ⟨qg (m' := 2047) fun I j => ?_, yp⟩
   refine qp H222 (i := 0) rfl (Lens.then (Lens.then qH zq) zT) (qz .u8) ty5 rfl (qd (j _ _ ?_))
   exact hM224 _ _ ⟨_, _, qf _ ⟨rfl, rfl, rfl, rfl, rfl, yp⟩, GLe.refl _, H222⟩
  refine qg (m' := 2031) fun I j => ?_
  refine qp H222 (i := 0) rfl (Lens.then (Lens.then qH zq) zT) (qz .u8) ty5 rfl (qd (j _ _ ?_))
  refine qi [4] ⟨qg (m' := 2047) fun I j => ?_, yp⟩
  refine qp H222 (i := 0) rfl (Lens.then zi zf) (qz .u8) ty5 rfl (qd (j _ _ ?_))
  exact hM224 _ _ ⟨_, _, qf _ ⟨rfl, rfl, rfl, rfl, rfl, yp⟩, GLe.refl _, H222⟩
 replace b := ifF b hb223
 refine qF (fuel := 5) (m := 2047) (fun a w => ∃ T0 G1, a = mk 64 (qQ T0 [(0, (pt b0)), (2, (.slice A26 r19.1.length c27)), (3, (.int .i64 r19.2)), (19, (.int .u8 x13.Id)), (25, (.int .u8 x2.A.Id))]) ∧ GLe G21 G1 ∧ St c G1 w ((.box b0 136 (qA.at_ (Tnego_workV.mk x2 (.slice A5 x3.length c6) (.slice A10 x8.length c11) x13))) :: (.row qC g4 A5 c6 46 x3) :: (.row kI g9 A10 c11 3 x8) :: σ)) ?_ ?_
 ·rintro a w ⟨T0, G231, rfl, hG229, H230⟩
  refine qq (i := 11) (m' := 4095) rfl (qa (.bool (x13.Id != x2.A.Id)) rfl) B E ?_
  refine qq (i := 12) (m' := 8191) rfl (qa (.bool (x13.Id != x2.A.Id)) rfl) B E ?_
  refine zE 27 false (i := 13) (m' := 16383) rfl (qa (.int .i64 r19.2) rfl) (vb hb223) B E ?_
  refine zE 27 false (i := 14) (m' := 32767) rfl (qa (.bool (r19.2 != 0)) rfl) (vb hb223) B E ?_
  refine qq (i := 15) (m' := 65535) rfl (qr (.bool (r19.2 != 0)) (vb hb223) rfl) B E ?_
  refine zA (qe ?_)
  exact ⟨_, _, (r19.2 != 0), x2, x3, x8, x13, g4, A5, c6, g9, A10, c11, qf _ ⟨rfl, rfl, rfl, yp⟩, hG229, H230, b⟩
 intro hM228
 refine qq (i := 0) (m' := 1) rfl (qa (pt b0) rfl) B E ?_
 refine qq (i := 1) (m' := 3) rfl (qM rfl) B E ?_
 refine qq (i := 2) (m' := 7) rfl (qh fo136_3 rfl) B E ?_
 refine qq (i := 3) (m' := 15) rfl (qh jw rfl) B E ?_
 refine qq (i := 5) (m' := 47) rfl (qa (pt b0) rfl) B E ?_
 refine qq (i := 6) (m' := 111) rfl (qM rfl) B E ?_
 refine qq (i := 7) (m' := 239) rfl (qh jH rfl) B E ?_
 refine qq (i := 8) (m' := 495) rfl (qh xe rfl) B E ?_
 refine qq (i := 9) (m' := 1007) rfl (qh fo26_3 rfl) B E ?_
 refine qi [4, 10] ⟨?_, ?_, yp⟩
 ·refine qg (m' := 1023) fun I j => ?_
  refine qp H222 (i := 0) rfl (Lens.then zi zf) (qz .u8) ty5 rfl (qd (j _ _ ?_))
  refine qi [10] ⟨qg (m' := 2047) fun I j => ?_, yp⟩
  refine qp H222 (i := 0) rfl (Lens.then (Lens.then qH zq) zT) (qz .u8) ty5 rfl (qd (j _ _ ?_))
  exact hM228 _ _ ⟨_, _, qf _ ⟨rfl, rfl, rfl, rfl, rfl, yp⟩, GLe.refl _, H222⟩
 refine qg (m' := 2031) fun I j => ?_
 refine qp H222 (i := 0) rfl (Lens.then (Lens.then qH zq) zT) (qz .u8) ty5 rfl (qd (j _ _ ?_))
 refine qi [4] ⟨qg (m' := 2047) fun I j => ?_, yp⟩
 refine qp H222 (i := 0) rfl (Lens.then zi zf) (qz .u8) ty5 rfl (qd (j _ _ ?_))
 exact hM228 _ _ ⟨_, _, qf _ ⟨rfl, rfl, rfl, rfl, rfl, yp⟩, GLe.refl _, H222⟩

theorem nego_work_term_ok {c : World} (k : Hc c) {G : qk} {w : World} {σ : List Ent} {b0 : Nat} {x2 : TNego} {x3 : (List TPkt)} {x8 : (List Int)} {x13 : TPkt} {g4 : Option Nat} {A5 : Option Addr} {c6 : Nat} {g9 : Option Nat} {A10 : Option Addr} {c11 : Nat}  (H : St c G w ((.box b0 136 (qA.at_ (Tnego_workV.mk x2 (.slice A5 x3.length c6) (.slice A10 x8.length c11) x13))) :: (.row qC g4 A5 c6 46 x3) :: (.row kI g9 A10 c11 3 x8) :: σ)) {r : (TNego × (List TPkt) × (List Int) × TPkt)} (b : nego_work_term x2 x3 x8 x13 = some r) :
  Calls Tryz.prog 142 ([(pt b0)] : List Value).toArray w (zu fun v w' => ∃ (G' : qk) (g1' : Option Nat) (A2' : Option Addr) (c3' : Nat) (g4' : Option Nat) (A5' : Option Addr) (c6' : Nat), GLe G G' ∧ tup [] = v ∧ St c G' w' ((.box b0 136 (qA.at_ (Tnego_workV.mk r.1 (.slice A2' r.2.1.length c3') (.slice A5' r.2.2.1.length c6') r.2.2.2))) :: (.row qC g1' A2' c3' 46 r.2.1) :: (.row kI g4' A5' c6' 3 r.2.2.1) :: σ)) := by
 unfold nego_work_term at b
 refine qG Tryz.func142 rfl rfl rfl (qc (qb (qa (pt b0) rfl) ?_))
 refine qR (qT (G := G) zr46 rfl bs46 rfl (Parts.nil _)) ?_
 intro v14 hv15
 obtain ⟨r16, hr17, b⟩ := qu b
 refine qo (vs := [(pt b0), (.int .i64 10), v14]) en74 rfl (jg k hv15 H hr17) ?_
 rintro v22 w21 ⟨G18, A23, c24, g26, A27, c28, g29, A30, c31, hG19, rfl, H20, hs25⟩
 refine qd ?_
 have b := yq b
 subst b
 exact end_mk rfl RV.nil ⟨_, g26, A27, c28, g29, A30, c31, hG19, rfl, H20⟩

theorem nego_work_termed_ok {c : World} (k : Hc c) {G : qk} {w : World} {σ : List Ent} {b0 : Nat} {x2 : TNego} {x3 : (List TPkt)} {x8 : (List Int)} {x13 : TPkt} {g4 : Option Nat} {A5 : Option Addr} {c6 : Nat} {g9 : Option Nat} {A10 : Option Addr} {c11 : Nat}  (H : St c G w ((.box b0 136 (qA.at_ (Tnego_workV.mk x2 (.slice A5 x3.length c6) (.slice A10 x8.length c11) x13))) :: (.row qC g4 A5 c6 46 x3) :: (.row kI g9 A10 c11 3 x8) :: σ)) {r : (TNego × (List TPkt) × (List Int) × TPkt)} (b : nego_work_termed x2 x3 x8 x13 = some r) :
  Calls Tryz.prog 143 ([(pt b0)] : List Value).toArray w (zu fun v w' => ∃ (G' : qk) (g1' : Option Nat) (A2' : Option Addr) (c3' : Nat) (g4' : Option Nat) (A5' : Option Addr) (c6' : Nat), GLe G G' ∧ tup [] = v ∧ St c G' w' ((.box b0 136 (qA.at_ (Tnego_workV.mk r.1 (.slice A2' r.2.1.length c3') (.slice A5' r.2.2.1.length c6') r.2.2.2))) :: (.row qC g1' A2' c3' 46 r.2.1) :: (.row kI g4' A5' c6' 3 r.2.2.1) :: σ)) := by
 unfold nego_work_termed at b
 refine qG Tryz.func143 rfl rfl rfl (qc (qb (qa (pt b0) rfl) ?_))
 refine qR (qT (G := G) zr46 rfl bs46 rfl (Parts.nil _)) ?_
 intro v14 hv15
 obtain ⟨r16, hr17, b⟩ := qu b
 refine qo (vs := [(pt b0), (.int .i64 11), v14]) en74 rfl (jg k hv15 H hr17) ?_
 rintro v22 w21 ⟨G18, A23, c24, g26, A27, c28, g29, A30, c31, hG19, rfl, H20, hs25⟩
 refine qd ?_
 have b := yq b
 subst b
 exact end_mk rfl RV.nil ⟨_, g26, A27, c28, g29, A30, c31, hG19, rfl, H20⟩

theorem nego_work_rejected_ok {c : World} (k : Hc c) {G : qk} {w : World} {σ : List Ent} {b0 : Nat} {x2 : TNego} {x3 : (List TPkt)} {x8 : (List Int)} {x13 : TPkt} {g4 : Option Nat} {A5 : Option Addr} {c6 : Nat} {g9 : Option Nat} {A10 : Option Addr} {c11 : Nat} {a1 : Bool}  (H : St c G w ((.box b0 136 (qA.at_ (Tnego_workV.mk x2 (.slice A5 x3.length c6) (.slice A10 x8.length c11) x13))) :: (.row qC g4 A5 c6 46 x3) :: (.row kI g9 A10 c11 3 x8) :: σ)) {r : (TNego × (List TPkt) × (List Int) × TPkt)} (b : jv x2 x3 x8 x13 a1 = some r) :
  Calls Tryz.prog 192 ([(pt b0), (.bool a1)] : List Value).toArray w (zu fun v w' => ∃ (G' : qk) (g1' : Option Nat) (A2' : Option Addr) (c3' : Nat) (g4' : Option Nat) (A5' : Option Addr) (c6' : Nat), GLe G G' ∧ tup [] = v ∧ St c G' w' ((.box b0 136 (qA.at_ (Tnego_workV.mk r.1 (.slice A2' r.2.1.length c3') (.slice A5' r.2.2.1.length c6') r.2.2.2))) :: (.row qC g1' A2' c3' 46 r.2.1) :: (.row kI g4' A5' c6' 3 r.2.2.1) :: σ)) := by
 unfold jv at b
 refine qG Tryz.func192 rfl rfl rfl (wp_seq (wp_seq (qc (qb (qa (.bool a1) rfl) (qd (qe ?_))))))
 rcases qm a1 with hb14 | hb14
 ·replace b := ifT b hb14
  refine qs (vb hb14) (wp_seq (qc (qb (qa (pt b0) rfl) ?_)))
  refine qR (qT (G := G) zr46 rfl bs46 rfl (Parts.nil _)) ?_
  intro v15 hv16
  obtain ⟨r17, hr18, b⟩ := qu b
  refine qo (vs := [(pt b0), (.int .i64 13), v15]) en74 rfl (jg k hv16 H hr18) ?_
  rintro v23 w22 ⟨G19, A24, c25, g27, A28, c29, g30, A31, c32, hG20, rfl, H21, hs26⟩
  refine qd (qe (wp_ret (qI ?_)))
  have b := yq b
  subst b
  exact qt rfl RV.nil ⟨_, g27, A28, c29, g30, A31, c32, hG20, rfl, H21⟩
 replace b := ifF b hb14
 refine qn (vb hb14) (wp_skip (qe (qc (qb (qa (pt b0) rfl) ?_))))
 refine qR (qT (G := G) zr46 rfl bs46 rfl (Parts.nil _)) ?_
 intro v33 hv34
 obtain ⟨r35, hr36, b⟩ := qu b
 refine qo (vs := [(pt b0), (.int .i64 14), v33]) en74 rfl (jg k hv34 H hr36) ?_
 rintro v41 w40 ⟨G37, A42, c43, g45, A46, c47, g48, A49, c50, hG38, rfl, H39, hs44⟩
 refine qd ?_
 have b := yq b
 subst b
 exact end_mk rfl RV.nil ⟨_, g45, A46, c47, g48, A49, c50, hG38, rfl, H39⟩

theorem nego_work_code_ok {c : World} (k : Hc c) {G : qk} {w : World} {σ : List Ent} {b0 : Nat} {x2 : TNego} {x3 : (List TPkt)} {x8 : (List Int)} {x13 : TPkt} {g4 : Option Nat} {A5 : Option Addr} {c6 : Nat} {g9 : Option Nat} {A10 : Option Addr} {c11 : Nat}  (H : St c G w ((.box b0 136 (qA.at_ (Tnego_workV.mk x2 (.slice A5 x3.length c6) (.slice A10 x8.length c11) x13))) :: (.row qC g4 A5 c6 46 x3) :: (.row kI g9 A10 c11 3 x8) :: σ)) {r : (TNego × (List TPkt) × (List Int) × TPkt)} (b : nego_work_code x2 x3 x8 x13 = some r) :
  Calls Tryz.prog 144 ([(pt b0)] : List Value).toArray w (zu fun v w' => ∃ (G' : qk) (g1' : Option Nat) (A2' : Option Addr) (c3' : Nat) (g4' : Option Nat) (A5' : Option Addr) (c6' : Nat), GLe G G' ∧ tup [] = v ∧ St c G' w' ((.box b0 136 (qA.at_ (Tnego_workV.mk r.1 (.slice A2' r.2.1.length c3') (.slice A5' r.2.2.1.length c6') r.2.2.2))) :: (.row qC g1' A2' c3' 46 r.2.1) :: (.row kI g4' A5' c6' 3 r.2.2.1) :: σ)) := by
 unfold nego_work_code at b
 refine qG Tryz.func144 rfl rfl rfl (wp_seq (qc (qb (qa (pt b0) rfl) (qb (qM rfl) (qb (qh fo136_3 rfl) (qb (qh xG rfl) ?_))))))
 refine ql H (i := 0) rfl (Lens.then zi zm) jy rfl ?_
 intro v14 hv15
 obtain ⟨A16, c17, rfl, hs18⟩ := qN hv15
 refine qb (qa (.slice A16 x13.Data.length c17) rfl) (qd (qe (qc (qb (qa (pt b0) rfl) (qb (qa (.slice A16 x13.Data.length c17) rfl) (qb (zb zJ rfl) ?_))))))
 iterate 2 refine qb (qa (.bool ((x13.Data.length : Int) == 0)) rfl) ?_
 rcases qm ((x13.Data.length : Int) == 0) with hb19 | hb19
 ·replace b := ifT b hb19
  iterate 4 refine qJ rfl rfl rfl (vb hb19) ?_
  refine qb (qB (.bool true) (vb hb19) rfl) (qb (qa (.bool true) rfl) ?_)
  iterate 4 refine qJ rfl rfl rfl rfl ?_
  refine qb (qB (.bool true) rfl rfl) ?_
  obtain ⟨r20, hr21, b⟩ := qu b
  refine qo (vs := [(pt b0), (.bool true)]) en192 rfl (nego_work_rejected_ok k H hr21) ?_
  rintro v26 w25 ⟨G22, g27, A28, c29, g30, A31, c32, hG23, rfl, H24⟩
  refine qd ?_
  have b := yq b
  subst b
  exact end_mk rfl RV.nil ⟨_, g27, A28, c29, g30, A31, c32, hG23, rfl, H24⟩
 replace b := ifF b hb19
 refine qj rfl rfl rfl (vb hb19) (qb (qa (.slice A16 x13.Data.length c17) rfl) (qj rfl rfl rfl (vb hb19) ?_))
 obtain ⟨x33, hx34, b⟩ := qu b
 refine qR (qY hs18 zJ ty5 rfl rfl hx34) ?_
 intro a35 hp36
 refine qj rfl rfl rfl (vb hb19) ?_
 refine zd H hp36 (qz .u8) ty5 rfl ?_
 refine qj rfl rfl rfl (vb hb19) (qb (qa (.bool (decide (x33 < 1))) rfl) (qb (qr (.bool (decide (x33 < 1))) (vb hb19) rfl) (qb (qa (.bool (decide (x33 < 1))) rfl) ?_)))
 rcases qm (decide (x33 < 1)) with hb37 | hb37
 ·replace b := ifT b hb37
  iterate 4 refine qJ rfl rfl rfl (vb hb37) ?_
  refine qb (qB (.bool true) (vb hb37) rfl) ?_
  obtain ⟨r38, hr39, b⟩ := qu b
  refine qo (vs := [(pt b0), (.bool true)]) en192 rfl (nego_work_rejected_ok k H hr39) ?_
  rintro v44 w43 ⟨G40, g45, A46, c47, g48, A49, c50, hG41, rfl, H42⟩
  refine qd ?_
  have b := yq b
  subst b
  exact end_mk rfl RV.nil ⟨_, g45, A46, c47, g48, A49, c50, hG41, rfl, H42⟩
 replace b := ifF b hb37
 refine qj rfl rfl rfl (vb hb37) (qb (qa (.slice A16 x13.Data.length c17) rfl) (qj rfl rfl rfl (vb hb37) ?_))
 obtain ⟨x51, hx52, b⟩ := qu b
 refine qR (qY hs18 zJ ty5 rfl rfl hx52) ?_
 intro a53 hp54
 refine qj rfl rfl rfl (vb hb37) ?_
 refine zd H hp54 (qz .u8) ty5 rfl ?_
 refine qj rfl rfl rfl (vb hb37) (qb (qa (.bool (decide (x51 > 7))) rfl) (qb (qr (.bool (decide (x51 > 7))) (vb hb37) rfl) ?_))
 obtain ⟨r55, hr56, b⟩ := qu b
 refine qo (vs := [(pt b0), (.bool (decide (x51 > 7)))]) en192 rfl (nego_work_rejected_ok k H hr56) ?_
 rintro v61 w60 ⟨G57, g62, A63, c64, g65, A66, c67, hG58, rfl, H59⟩
 refine qd ?_
 have b := yq b
 subst b
 exact end_mk rfl RV.nil ⟨_, g62, A63, c64, g65, A66, c67, hG58, rfl, H59⟩

theorem bytes_HasPrefix_ok {c : World} (k : Hc c) {G : qk} {w : World} {σ : List Ent} {a0 : (List Int)} {A0_ : Option Addr} {c0_ : Nat} {a1 : (List Int)} {A1_ : Option Addr} {c1_ : Nat} (h0_ : SlR kB G A0_ c0_ a0) (h1_ : SlR kB G A1_ c1_ a1) (H : St c G w (σ)) {r : Bool} (b : xU a0 a1 = some r) :
  Calls Tryz.prog 193 ([(.slice A0_ a0.length c0_), (.slice A1_ a1.length c1_)] : List Value).toArray w (zu fun v w' => ∃ (G' : qk), GLe G G' ∧ tup [(.bool r)] = v ∧ St c G' w' (σ)) := by
 unfold xU at b
 refine qG Tryz.func193 rfl rfl rfl (wp_seq (qc (qb (qa (.bool false) rfl) (qd (qe (wp_seq (qc (qb (qa (.slice A0_ a0.length c0_) rfl) (qb (zb zJ rfl) (qb (qa (.slice A1_ a1.length c1_) rfl) (qb (zb zJ rfl) ?_)))))))))))
 iterate 2 refine qb (qa (.bool (decide ((a0.length : Int) ≥ (a1.length : Int)))) rfl) ?_
 rcases qm (decide ((a0.length : Int) ≥ (a1.length : Int))) with hb1 | hb1
 ·replace b := ifT b hb1
  refine qj rfl rfl rfl (vb hb1) (qb (qa (.slice A0_ a0.length c0_) rfl) (qj rfl rfl rfl (vb hb1) (qb (qa (.slice A1_ a1.length c1_) rfl) (qj rfl rfl rfl (vb hb1) (qb (zb zJ rfl) (qj rfl rfl rfl (vb hb1) ?_))))))
  obtain ⟨r2, hr3, b⟩ := qu b
  refine qR (rn_cut (lo := none) (hi := (some (a1.length : Int))) h0_ zJ ty5 rfl yp ⟨_, rfl⟩ hr3) ?_
  intro z4 hs5
  refine qj rfl rfl rfl (vb hb1) (qb (qa (.slice A1_ a1.length c1_) rfl) (qj rfl rfl rfl (vb hb1) ?_))
  obtain ⟨r6, hr7, b⟩ := qu b
  refine qo (vs := [(.slice z4.1 r2.length z4.2), (.slice A1_ a1.length c1_)]) en165 rfl (bytes_Equal_ok k hs5 h1_ H hr7) ?_
  rintro v12 w11 ⟨G8, hG9, rfl, H10⟩
  refine qb (qB (.bool r6) (vb hb1) rfl) (qb (qa (.bool r6) rfl) (qd (qe (wp_ret ?_))))
  have b := yq b
  subst b
  exact qt rfl (RV.tmp rfl RV.nil) ⟨_, hG9, rfl, H10⟩
 replace b := ifF b hb1
 iterate 6 refine qJ rfl rfl rfl (vb hb1) ?_
 refine qb (qr (.bool false) (vb hb1) rfl) (qb (qa (.bool false) rfl) (qd (qe (wp_ret ?_))))
 have b := yq b
 subst b
 exact qt rfl (RV.tmp rfl RV.nil) ⟨_, GLe.refl _, rfl, H⟩

theorem nego_work_proto_ok {c : World} (k : Hc c) {G : qk} {w : World} {σ : List Ent} {b0 : Nat} {x2 : TNego} {x3 : (List TPkt)} {x8 : (List Int)} {x13 : TPkt} {g4 : Option Nat} {A5 : Option Addr} {c6 : Nat} {g9 : Option Nat} {A10 : Option Addr} {c11 : Nat}  (H : St c G w ((.box b0 136 (qA.at_ (Tnego_workV.mk x2 (.slice A5 x3.length c6) (.slice A10 x8.length c11) x13))) :: (.row qC g4 A5 c6 46 x3) :: (.row kI g9 A10 c11 3 x8) :: σ)) {r : (TNego × (List TPkt) × (List Int) × TPkt)} (b : nego_work_proto x2 x3 x8 x13 = some r) :
  Calls Tryz.prog 145 ([(pt b0)] : List Value).toArray w (zu fun v w' => ∃ (G' : qk) (g1' : Option Nat) (A2' : Option Addr) (c3' : Nat) (g4' : Option Nat) (A5' : Option Addr) (c6' : Nat), GLe G G' ∧ tup [] = v ∧ St c G' w' ((.box b0 136 (qA.at_ (Tnego_workV.mk r.1 (.slice A2' r.2.1.length c3') (.slice A5' r.2.2.1.length c6') r.2.2.2))) :: (.row qC g1' A2' c3' 46 r.2.1) :: (.row kI g4' A5' c6' 3 r.2.2.1) :: σ)) := by
 unfold nego_work_proto at b
 refine qG Tryz.func145 rfl rfl rfl (qc ?_)
 iterate 2 refine qb (qa (pt b0) rfl) ?_
 refine qb (qM rfl) (qb (qh fo136_3 rfl) (qb (qh xG rfl) ?_))
 refine ql H (i := 0) rfl (Lens.then zi zm) jy rfl ?_
 intro v14 hv15
 obtain ⟨A16, c17, rfl, hs18⟩ := qN hv15
 refine zh (K := kB) (vs := [(.int .u8 192), (.int .u8 33)]) (xs := ([192, 33] : (List Int))) H zJ el5 rfl ⟨((qz .u8).toV _ _), ((qz .u8).toV _ _), yp⟩ rfl (by decide) ?_
 intro g19 w21 H20
 obtain ⟨G23, hG24, H25, hs26⟩ := H20.stay (i := 0) rfl (H20.capA (i := 0) rfl)
 obtain ⟨r27, hr28, b⟩ := qu b
 refine qo (vs := [(.slice A16 x13.Data.length c17), (.slice (some ⟨g19, 0, none⟩) ([192, 33] : (List Int)).length 2)]) en193 rfl (bytes_HasPrefix_ok k (hs18.mono hG24) hs26 H25 hr28) ?_
 rintro v33 w32 ⟨G29, hG30, rfl, H31⟩
 refine qb (qa (.bool (!r27)) rfl) ?_
 obtain ⟨r34, hr35, b⟩ := qu b
 refine qo (vs := [(pt b0), (.bool (!r27))]) en192 rfl (nego_work_rejected_ok k H31 hr35) ?_
 rintro v40 w39 ⟨G36, g41, A42, c43, g44, A45, c46, hG37, rfl, H38⟩
 refine qd ?_
 have b := yq b
 subst b
 exact end_mk rfl RV.nil ⟨_, g41, A42, c43, g44, A45, c46, ((hG24.trans hG30).trans hG37), rfl, H38⟩

theorem nego_Magic_ok {c : World} (k : Hc c) {G : qk} {w : World} {σ : List Ent} {a0 : TNego} {v0_ : Value} (h0_ : qv.V G v0_ a0) (H : St c G w (σ)) {r : Int} (b : nego_Magic a0 = some r) :
  Calls Tryz.prog 68 ([v0_] : List Value).toArray w (zu fun v w' => ∃ (G' : qk), GLe G G' ∧ tup [(.int .u32 r)] = v ∧ St c G' w' (σ)) := by
 unfold nego_Magic at b
 refine qG Tryz.func68 rfl rfl rfl (wp_seq (qc ?_))
 refine zp (K := qv) (x := a0) H rfl h0_ ?_
 intro b1 w4 H2
 refine qb (qa (.int .u32 0) rfl) (qd (qe (wp_seq (qc (qb (qh fo32_2 rfl) ?_)))))
 refine ql H2 (i := 0) rfl zD ty30 rfl ?_
 intro v5 hv6
 obtain ⟨A7, c8, rfl, hs9⟩ := qN hv6
 obtain ⟨r10, hr11, b⟩ := qu b
 refine qo (vs := [(.slice A7 a0.Ours.length c8), (.int .u8 5)]) en127 rfl (opts_Find_ok k hs9 H2 hr11) ?_
 rintro v16 w15 ⟨G12, v17, hG13, rfl, H14, hv18⟩
 refine qb (qa (.tuple #[v17, (.bool r10.2)]) rfl) (qb (qa v17 rfl) (qb (qa (.bool r10.2) rfl) ?_))
 refine qP H14 xv ?_
 intro b19 w22 H20
 refine qy (z := r10.1) H20 (i := 0) rfl (Lens.id qx) zc rfl rfl hv18 ?_
 intro w24 H23
 refine qb (qa (.bool r10.2) rfl) (qd (qe (wp_seq (wp_seq (qc (qb (qh fo32_1 rfl) (qb (qh fo29_0 rfl) (qp H23 (i := 1) rfl (Lens.then ym xO) dBool ty4 rfl (qd (qe ?_))))))))))
 rcases qm a0.R.Ip with hb25 | hb25
 ·replace b := ifT b hb25
  refine qs (vb hb25) (wp_seq (qc (qb (qa (.int .u32 0) rfl) (qd (qe (wp_ret (qI ?_)))))))
  have b := yq b
  subst b
  exact qt rfl (RV.tmp rfl RV.nil) ⟨_, hG13, rfl, (St.pk [] 2 H23 rfl (by decide))⟩
 replace b := ifF b hb25
 refine qn (vb hb25) (wp_skip (qe (wp_seq (qc (qb (qh jp rfl) ?_)))))
 refine ql H23 (i := 0) rfl qZ jy rfl ?_
 intro v26 hv27
 obtain ⟨A28, c29, rfl, hs30⟩ := qN hv27
 obtain ⟨r31, hr32, b⟩ := qu b
 refine qo (vs := [(.slice A28 r10.1.Data.length c29)]) en128 rfl (opts_Number_ok k hs30 H23 hr32) ?_
 rintro v37 w36 ⟨G33, hG34, rfl, H35⟩
 refine qb (qa (.int .u32 r31) rfl) (qd (qe (wp_ret ?_)))
 have b := yq b
 subst b
 exact qt rfl (RV.tmp rfl RV.nil) ⟨_, (hG13.trans hG34), rfl, (St.pk [] 2 H35 rfl (by decide))⟩
end Go.Proofs.YtadlndnagfnlgaaGreatDoor.W
