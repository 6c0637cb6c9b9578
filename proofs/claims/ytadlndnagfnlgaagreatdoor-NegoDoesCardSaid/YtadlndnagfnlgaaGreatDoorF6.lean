/- Calls come to what the plain functions say: written by a program (gen.py). -/
import Derived.Test.YtadlndnagfnlgaaGreatDoorG
import Derived.Test.YtadlndnagfnlgaaGreatDoorF4
import Derived.Test.YtadlndnagfnlgaaGreatDoorF5
set_option linter.unusedVariables false
set_option maxRecDepth 20000
namespace Go.Proofs.YtadlndnagfnlgaaGreatDoor.W
open Go
set_option maxHeartbeats 4000000
attribute [local irreducible] wpList wpAny Code.wp wpListIn wpAnyIn Code.wpIn
theorem pr14_Tick_ok {c : World} (k : Hc c) {G : qk} {w : World} {σ : List Ent} {a0 : TNego} {v0_ : Value} (h0_ : qv.V G v0_ a0) (H : St c G w (σ)) {r : Tref14_Out} (b : pr14_Tick a0 = some r) :
  Calls Tryz.prog 32 ([v0_] : List Value).toArray w (zu fun v w' => ∃ (G' : qk) (v1' : Value), GLe G G' ∧ tup [v1'] = v ∧ St c G' w' (σ) ∧ qE.V G' v1' r) := by
 unfold pr14_Tick at b
 refine qG Tryz.func32 rfl rfl rfl (wp_seq (qc ?_))
 refine zp (K := qv) (x := a0) H rfl h0_ ?_
 intro b1 w4 H2
 refine qP H2 zr78 ?_
 intro b5 w8 H6
 refine qd (qe (wp_seq (qc (qb (qh xe rfl) ?_))))
 refine ql H6 (i := 1) rfl zq xA rfl ?_
 intro v9 hv10
 obtain ⟨r11, hr12, b⟩ := qu b
 refine qo (vs := [v9]) en84 rfl (pr12_Tick_ok k hv10 H6 hr12) ?_
 rintro v17 w16 ⟨G13, v18, A20, c21, hG14, rfl, H15, hv19, hs22⟩
 refine qb (qa (.tuple #[v18, (.slice A20 r11.2.length c21)]) rfl) (qb (qa v18 rfl) (qb (qa (.slice A20 r11.2.length c21) rfl) ?_))
 refine qP H15 zr26 ?_
 intro b23 w26 H24
 refine qy (z := r11.1) H24 (i := 0) rfl (Lens.id za) xA rfl rfl hv19 ?_
 intro w28 H27
 refine qb (qa (.slice A20 r11.2.length c21) rfl) (qd (qe (wp_seq (qc (qb (qh xe rfl) (qb (qh fo26_0 rfl) (qp H27 (i := 2) rfl (Lens.then zq zZ) (qz .i64) ty3 rfl (qb (qa (.int .i64 a0.A.State) rfl) (qd (qe (wp_seq (qc ?_))))))))))))
 refine ql H27 (i := 0) rfl (Lens.id za) xA rfl ?_
 intro v29 hv30
 refine qb (qh xe rfl) ?_
 refine qy (z := r11.1) H27 (i := 2) rfl zq xA rfl rfl hv30 ?_
 intro w32 H31
 refine qd (qe (wp_seq (qc ?_)))
 refine ql H31 (i := 2) rfl (Lens.id qv) zG rfl ?_
 intro v33 hv34
 refine qb (qa (.int .i64 a0.A.State) rfl) (qb (qa (.slice A20 r11.2.length c21) rfl) ?_)
 refine qR (qT (G := G13) zr46 rfl bs46 rfl (Parts.nil _)) ?_
 intro v35 hv36
 refine qR (qT (G := G13) zr46 rfl bs46 rfl (Parts.nil _)) ?_
 intro v37 hv38
 obtain ⟨r39, hr40, b⟩ := qu b
 refine qo (vs := [v33, (.int .i64 a0.A.State), (.slice A20 r11.2.length c21), v35, v37]) en85 rfl (pr14_acted_ok k hv34 hs22 hv36 hv38 H31 hr40) ?_
 rintro v45 w44 ⟨G41, v46, hG42, rfl, H43, hv47⟩
 refine qy (z := r39) H43 (i := 1) rfl (Lens.id qE) yn rfl rfl hv47 ?_
 intro w49 H48
 refine qd (qe (wp_ret ?_))
 obtain ⟨v50, hv51, hl52⟩ := H48.loadv (i := 1) rfl yn
 have b := yq b
 subst b
 exact qt rfl (RV.cell rfl hl52 RV.nil) ⟨_, v50, (hG14.trans hG42), rfl, (St.pk [] 3 H48 rfl (by decide)), hv51⟩

theorem pr09_Bytes_ok {c : World} (k : Hc c) {G : qk} {w : World} {σ : List Ent} {a0 : TPkt} {v0_ : Value} (h0_ : qC.V G v0_ a0) (H : St c G w (σ)) {r : ((List Int) × Int)} (b : yi a0 = some r) :
  Calls Tryz.prog 152 ([v0_] : List Value).toArray w (zu fun v w' => ∃ (G' : qk) (A1' : Option Addr) (c2' : Nat), GLe G G' ∧ tup [(.slice A1' r.1.length c2'), (.int .i64 r.2)] = v ∧ St c G' w' (σ) ∧ SlR kB G' A1' c2' r.1) := by
 unfold yi at b
 refine qG Tryz.func152 rfl rfl rfl (wp_seq (qc ?_))
 refine zp (K := qC) (x := a0) H rfl h0_ ?_
 intro b1 w4 H2
 refine qb (qa (.slice none 0 0) rfl) (qb (qa (.int .i64 0) rfl) (qd (qe (wp_seq (qc (qb (qh xG rfl) ?_))))))
 refine ql H2 (i := 0) rfl zm jy rfl ?_
 intro v5 hv6
 obtain ⟨A7, c8, rfl, hs9⟩ := qN hv6
 refine qb (zb zJ rfl) ?_
 iterate 2 refine qb (qa (.int .i64 (IntKind.i64.wrap (4 + (a0.Data.length : Int)))) rfl) ?_
 refine qd (qe (wp_seq (wp_seq (qc (qb (qa (.int .i64 (IntKind.i64.wrap (4 + (a0.Data.length : Int)))) rfl) (qb (qa (.bool (decide ((IntKind.i64.wrap (4 + (a0.Data.length : Int))) > 1500))) rfl) (qd (qe ?_))))))))
 rcases qm (decide ((IntKind.i64.wrap (4 + (a0.Data.length : Int))) > 1500)) with hb10 | hb10
 ·replace b := ifT b hb10
  refine qs (vb hb10) (wp_seq (qc (qb (qa (.slice none 0 0) rfl) (qb (qa (.int .i64 1) rfl) (qd (qe (wp_ret (qI ?_))))))))
  have b := yq b
  subst b
  exact qt rfl (RV.tmp rfl (RV.tmp rfl RV.nil)) ⟨_, none, 0, GLe.refl _, rfl, (St.pk [] 1 H2 rfl (by decide)), (SlR.nil _ _)⟩
 replace b := ifF b hb10
 refine qn (vb hb10) (wp_skip (qe (wp_seq (qc (qb (qh jO rfl) (qp H2 (i := 0) rfl qW (qz .u8) ty5 rfl (qb (qh jw rfl) (qp H2 (i := 0) rfl zf (qz .u8) ty5 rfl (qb (qa (.int .i64 (IntKind.i64.wrap (4 + (a0.Data.length : Int)))) rfl) (qb (qa (.int .i64 (IntKind.i64.wrap (Int.tdiv (IntKind.i64.wrap (4 + (a0.Data.length : Int))) 256))) rfl) ?_))))))))))
 refine qb (zU un3 un5 rfl) (qb (qa (.int .i64 (IntKind.i64.wrap (4 + (a0.Data.length : Int)))) rfl) (qb (qa (.int .i64 (Int.tmod (IntKind.i64.wrap (4 + (a0.Data.length : Int))) 256)) rfl) (qb (zU un3 un5 rfl) ?_)))
 refine zh (K := kB) (vs := [(.int .u8 a0.Code), (.int .u8 a0.Id), (.int .u8 (IntKind.u8.wrap ((IntKind.i64.wrap (Int.tdiv (IntKind.i64.wrap (4 + (a0.Data.length : Int))) 256))))), (.int .u8 (IntKind.u8.wrap ((Int.tmod (IntKind.i64.wrap (4 + (a0.Data.length : Int))) 256))))]) (xs := ([a0.Code, a0.Id, (IntKind.u8.wrap ((IntKind.i64.wrap (Int.tdiv (IntKind.i64.wrap (4 + (a0.Data.length : Int))) 256)))), (IntKind.u8.wrap ((Int.tmod (IntKind.i64.wrap (4 + (a0.Data.length : Int))) 256)))] : (List Int))) H2 zJ el5 rfl ⟨((qz .u8).toV _ _), ((qz .u8).toV _ _), ((qz .u8).toV _ _), ((qz .u8).toV _ _), yp⟩ rfl (by decide) ?_
 intro g11 w13 H12
 refine qb (qa (.slice (some ⟨g11, 0, none⟩) ([a0.Code, a0.Id, (IntKind.u8.wrap ((IntKind.i64.wrap (Int.tdiv (IntKind.i64.wrap (4 + (a0.Data.length : Int))) 256)))), (IntKind.u8.wrap ((Int.tmod (IntKind.i64.wrap (4 + (a0.Data.length : Int))) 256)))] : (List Int)).length 4) rfl) (qd (qe (wp_seq (qc (qb (qa (.slice (some ⟨g11, 0, none⟩) ([a0.Code, a0.Id, (IntKind.u8.wrap ((IntKind.i64.wrap (Int.tdiv (IntKind.i64.wrap (4 + (a0.Data.length : Int))) 256)))), (IntKind.u8.wrap ((Int.tmod (IntKind.i64.wrap (4 + (a0.Data.length : Int))) 256)))] : (List Int)).length 4) rfl) (qb (qh xG rfl) ?_))))))
 refine ql H12 (i := 1) rfl zm jy rfl ?_
 intro v15 hv16
 obtain ⟨A17, c18, rfl, hs19⟩ := qN hv16
 obtain ⟨r20, hr21, b⟩ := qu b
 refine zB H12 zJ el5 (i := 0) rfl rfl rfl (hs19.src H12.ag) hr21 ?_
 intro g22 A23 c24 w25 H26
 refine qb (qa (.slice A23 r20.length c24) rfl) (qb (qa (.int .i64 0) rfl) (qd (qe (wp_ret ?_))))
 obtain ⟨G27, hG28, H29, hs30⟩ := H26.stay (i := 0) rfl (H26.capA (i := 0) rfl)
 have b := yq b
 subst b
 exact qt rfl (RV.tmp rfl (RV.tmp rfl RV.nil)) ⟨_, A23, c24, hG28, rfl, (St.pk [] 1 H29 rfl (by decide)), hs30⟩

theorem pr09_Reject_ok {c : World} (k : Hc c) {G : qk} {w : World} {σ : List Ent} {a0 : TPkt} {v0_ : Value} {a1 : Int} (h0_ : qC.V G v0_ a0) (H : St c G w (σ)) {r : TPkt} (b : pr09_Reject a0 a1 = some r) :
  Calls Tryz.prog 86 ([v0_, (.int .u8 a1)] : List Value).toArray w (zu fun v w' => ∃ (G' : qk) (v1' : Value), GLe G G' ∧ tup [v1'] = v ∧ St c G' w' (σ) ∧ qC.V G' v1' r) := by
 unfold pr09_Reject at b
 refine qG Tryz.func86 rfl rfl rfl (wp_seq (qc ?_))
 refine zp (K := qC) (x := a0) H rfl h0_ ?_
 intro b1 w4 H2
 refine qP H2 zr46 ?_
 intro b5 w8 H6
 refine qd (qe (wp_seq (qc ?_)))
 refine ql H6 (i := 1) rfl (Lens.id qC) ty46 rfl ?_
 intro v9 hv10
 obtain ⟨r11, hr12, b⟩ := qu b
 refine qo (vs := [v9]) en152 rfl (pr09_Bytes_ok k hv10 H6 hr12) ?_
 rintro v17 w16 ⟨G13, A18, c19, hG14, rfl, H15, hs20⟩
 refine qb (qa (.tuple #[(.slice A18 r11.1.length c19), (.int .i64 r11.2)]) rfl) (qb (qa (.slice A18 r11.1.length c19) rfl) (qb (qa (.int .i64 r11.2) rfl) (qb (qa (.slice A18 r11.1.length c19) rfl) (qb (qa (.int .i64 r11.2) rfl) (qd (qe (wp_seq (qc (qb (qa (.int .u8 a1) rfl) ?_)))))))))
 iterate 2 refine qb (qa (.slice A18 r11.1.length c19) rfl) ?_
 refine qb (zb zJ rfl) (qb (rn_min rfl rfl) ?_)
 obtain ⟨r21, hr22, b⟩ := qu b
 refine qR (rn_cut (lo := none) (hi := (some (if 1496 < (r11.1.length : Int) then 1496 else (r11.1.length : Int)))) hs20 zJ ty5 rfl yp ⟨_, rfl⟩ hr22) ?_
 intro z23 hs24
 refine qR (qT (G := G13) zr46 rfl bs46 rfl (Parts.cons jO qW ((qz .u8).toV _ _) (Parts.cons jw zf ((qz .u8).toV _ _) (Parts.cons xG zm (zw hs24) (Parts.nil _))))) ?_
 intro v25 hv26
 refine qy (z := (TPkt.mk 7 a1 r21)) H15 (i := 0) rfl (Lens.id qC) ty46 rfl rfl hv26 ?_
 intro w28 H27
 refine qd (qe (wp_ret ?_))
 obtain ⟨v29, hv30, hl31⟩ := H27.loadv (i := 0) rfl ty46
 have b := yq b
 subst b
 exact qt rfl (RV.cell rfl hl31 RV.nil) ⟨_, v29, hG14, rfl, (St.pk [] 2 H27 rfl (by decide)), hv30⟩

theorem pr10_Read_ok {c : World} (k : Hc c) {G : qk} {w : World} {σ : List Ent} {a0 : (List Int)} {A0_ : Option Addr} {c0_ : Nat} (h0_ : SlR kB G A0_ c0_ a0) (H : St c G w (σ)) {r : ((List TOpt) × Int)} (b : pr10_Read a0 = some r) :
  Calls Tryz.prog 153 ([(.slice A0_ a0.length c0_)] : List Value).toArray w (zu fun v w' => ∃ (G' : qk) (A1' : Option Addr) (c2' : Nat), GLe G G' ∧ tup [(.slice A1' r.1.length c2'), (.int .i64 r.2)] = v ∧ St c G' w' (σ) ∧ SlR qx G' A1' c2' r.1) := by
 unfold pr10_Read at b
 refine qG Tryz.func153 rfl rfl rfl (wp_seq (qc (qb (qa (.slice none 0 0) rfl) (qb (qa (.int .i64 0) rfl) (qd (qe (wp_seq (qc (qb (qa (.slice none 0 0) rfl) (qd (qe (wp_seq (qc (qb (qa (.int .i64 0) rfl) (qd (qe (wp_seq ?_)))))))))))))))))
 refine wp_block ?_
 have H174 := H.nilrow qx none 133
 refine ja (fun (s : ((List TOpt) × Int)) a w => ∃ (T0 : Fr) (G1 : qk) (g69 : Option Nat) (A70 : Option Addr) (c71 : Nat), a = mk 51 (qQ T0 [(0, (.slice A0_ a0.length c0_)), (4, (.slice A70 s.1.length c71)), (5, (.int .i64 s.2))]) ∧ GLe G G1 ∧ St c G1 w ((.row qx g69 A70 c71 133 s.1) :: σ)) b ?_ ?_
 ·exact ⟨_, _, none, none, 0, qf _ ⟨rfl, rfl, rfl, yp⟩, GLe.refl _, H174⟩
 rintro ⟨x68, x73⟩ a w y76 ⟨T0, G77, g69, A70, c71, rfl, hG74, H75⟩ b hy1
 refine wp_seq (wp_seq (qc (qb (qa (.int .i64 x73) rfl) (qb (qa (.slice A0_ a0.length c0_) rfl) (qb (zb zJ rfl) (qb (qa (.bool (decide (x73 < (a0.length : Int)))) rfl) (qd (qe ?_))))))))
 rcases qm (decide (x73 < (a0.length : Int))) with hb78 | hb78
 ·replace b := ifT b hb78
  refine qs (vb hb78) (wp_skip (qe (wp_block (wp_seq (wp_seq (qc (qb (qa (.int .i64 x73) rfl) (qb (qa (.int .i64 (IntKind.i64.wrap (x73 + 1))) rfl) (qb (qa (.slice A0_ a0.length c0_) rfl) (qb (zb zJ rfl) ?_))))))))))
  refine qb (qa (.bool ((IntKind.i64.wrap (x73 + 1)) == (a0.length : Int))) rfl) (qd (qe ?_))
  rcases qm ((IntKind.i64.wrap (x73 + 1)) == (a0.length : Int)) with hb79 | hb79
  ·replace b := ifT b hb79
   refine qs (vb hb79) (wp_seq (qc (qb (qa (.slice none 0 0) rfl) (qb (qa (.int .i64 2) rfl) (qd (qe (wp_ret (qI (zg (qI ?_))))))))))
   replace b := jJ b hy1
   refine zg (qI ?_)
   have b := yq b
   subst b
   exact qt rfl (RV.tmp rfl (RV.tmp rfl RV.nil)) ⟨_, none, 0, hG74, rfl, (St.pk [] 1 H75 rfl (by decide)), (SlR.nil _ _)⟩
  replace b := ifF b hb79
  refine qn (vb hb79) (wp_skip (qe (wp_seq (qc (qb (qa (.slice A0_ a0.length c0_) rfl) (qb (qa (.int .i64 x73) rfl) (qb (qa (.int .i64 (IntKind.i64.wrap (x73 + 1))) rfl) ?_)))))))
  obtain ⟨x80, hx81, b⟩ := qu b
  refine qR (qY (h0_.mono hG74) zJ ty5 rfl rfl hx81) ?_
  intro a82 hp83
  refine zd H75 hp83 (qz .u8) ty5 rfl ?_
  refine qb (zU un5 un3 rfl) (qb (qa (.int .i64 (IntKind.i64.wrap (x80))) rfl) (qd (qe (wp_seq ?_))))
  refine wp_seq (join (fun a w => ∃ (T0 G1 : _) (x85 : (List TOpt)) (x90 : Bool) (g86 A87 c88 : _), a = mk 51 (qQ T0 [(0, (.slice A0_ a0.length c0_)), (4, (.slice A87 x85.length c88)), (5, (.int .i64 x73)), (6, (.int .i64 (IntKind.i64.wrap (x80)))), (31, (.bool x90))]) ∧ GLe G77 G1 ∧ St c G1 w ((.row qx g86 A87 c88 133 x85) :: σ) ∧ xt a0 x73 x80 x85 x90 = some y76) ?_ ?_)
  ·rintro a w ⟨T0, G93, x85, x90, g86, A87, c88, rfl, hG91, H92, b⟩
   rcases qm x90 with hb94 | hb94
   ·replace b := ifT b hb94
    refine qs (vb hb94) (wp_seq (qc (qb (qa (.slice none 0 0) rfl) (qb (qa (.int .i64 2) rfl) (qd (qe (wp_ret (qI (zg (qI ?_))))))))))
    replace b := jJ b hy1
    refine zg (qI ?_)
    have b := yq b
    subst b
    exact qt rfl (RV.tmp rfl (RV.tmp rfl RV.nil)) ⟨_, none, 0, (hG74.trans hG91), rfl, (St.pk [] 1 H92 rfl (by decide)), (SlR.nil _ _)⟩
   replace b := ifF b hb94
   refine qn (vb hb94) (wp_skip (qe (wp_seq ?_)))
   refine jP (f := 16) H92 mixed ?_
   intro w116 H117
   refine xW (by repeat (first | exact PF.base | apply PF.then_ | apply PF.blk)) ?_
   intro B E
   obtain ⟨x118, hx119, b⟩ := qu b
   obtain ⟨r122, hr123, b⟩ := qu b
   obtain ⟨r132, hr133, b⟩ := qu b
   refine qq (i := 0) (m' := 1) rfl (qa (.slice A87 x85.length c88) rfl) B E ?_
   refine qq (i := 1) (m' := 3) rfl (qa (.slice A0_ a0.length c0_) rfl) B E ?_
   refine qq (i := 2) (m' := 7) rfl (qa (.int .i64 x73) rfl) B E ?_
   refine jD (i := 3) (m' := 15) rfl (qY (h0_.mono (hG74.trans hG91)) zJ ty5 rfl rfl hx119) B E ?_
   intro a154 hp155
   refine qq (i := 5) (m' := 47) rfl (qa (.slice A0_ a0.length c0_) rfl) B E ?_
   refine qq (i := 6) (m' := 111) rfl (qa (.int .i64 x73) rfl) B E ?_
   refine qq (i := 7) (m' := 239) rfl (qa (.int .i64 (IntKind.i64.wrap (x73 + 2))) rfl) B E ?_
   refine qq (i := 8) (m' := 495) rfl (qa (.int .i64 x73) rfl) B E ?_
   refine qq (i := 9) (m' := 1007) rfl (qa (.int .i64 (IntKind.i64.wrap (x80))) rfl) B E ?_
   refine qq (i := 10) (m' := 2031) rfl (qa (.int .i64 (IntKind.i64.wrap (x73 + (IntKind.i64.wrap (x80))))) rfl) B E ?_
   refine jD (i := 11) (m' := 4079) rfl (rn_cut (lo := (some (IntKind.i64.wrap (x73 + 2)))) (hi := (some (IntKind.i64.wrap (x73 + (IntKind.i64.wrap (x80)))))) (h0_.mono (hG74.trans hG91)) zJ ty5 rfl ⟨_, rfl⟩ ⟨_, rfl⟩ hr123) B E ?_
   intro z156 hs157
   refine qi [4] ⟨qg (m' := 4095) fun I j => ?_, yp⟩
   refine zd H117 hp155 (qz .u8) ty5 rfl ?_
   refine qd (j _ _ ?_)
   refine jD (i := 12) (m' := 8191) rfl (qT (G := G93) xv rfl bs133 rfl (Parts.cons jc qX ((qz .u8).toV _ _) (Parts.cons jp qZ (zw hs157) (Parts.nil _)))) B E ?_
   intro v158 hv159
   refine qi [13] ⟨qg (m' := 16383) fun I j => ?_, yp⟩
   refine zh (K := qx) (vs := [v158]) (xs := ([(TOpt.mk x118 r122)] : (List TOpt))) H117 zQ el133 rfl ⟨hv159, yp⟩ rfl (by decide) ?_
   intro g160 w162 H161
   refine qd (j _ _ ?_)
   refine qi [14] ⟨qg (m' := 32767) fun I j => ?_, yp⟩
   refine zB H161 zQ el133 (i := 1) rfl rfl rfl ((H161.okAt (i := 0) rfl).src) hr133 ?_
   intro g164 A165 c166 w167 H168
   refine qd (j _ _ ?_)
   refine qq (i := 15) (m' := 65535) rfl (qa (.slice A165 r132.length c166) rfl) B E ?_
   refine zA (qe (qc (qb (qa (.int .i64 x73) rfl) (qb (qa (.int .i64 (IntKind.i64.wrap (x80))) rfl) ?_))))
   iterate 2 refine qb (qa (.int .i64 (IntKind.i64.wrap (x73 + (IntKind.i64.wrap (x80))))) rfl) ?_
   refine qd (zn (qe ?_))
   exact ⟨_, (yq b).symm, _, _, g164, A165, c166, qf _ ⟨rfl, rfl, rfl, yp⟩, (hG74.trans hG91), (St.pk [1] 2 H168 rfl (by decide))⟩
  refine qc (qb (qa (.int .i64 (IntKind.i64.wrap (x80))) rfl) ?_)
  iterate 2 refine qb (qa (.bool (decide ((IntKind.i64.wrap (x80)) < 2))) rfl) ?_
  rcases qm (decide ((IntKind.i64.wrap (x80)) < 2)) with hb169 | hb169
  ·replace b := ifT b hb169
   iterate 6 refine qJ rfl rfl rfl (vb hb169) ?_
   refine qb (qB (.bool true) (vb hb169) rfl) (qd (qe ?_))
   exact ⟨_, _, x68, true, g69, A70, c71, qf _ ⟨rfl, rfl, rfl, rfl, rfl, yp⟩, GLe.refl _, H75, b⟩
  replace b := ifF b hb169
  refine qj rfl rfl rfl (vb hb169) (qb (qa (.int .i64 x73) rfl) (qj rfl rfl rfl (vb hb169) (qb (qa (.int .i64 (IntKind.i64.wrap (x80))) rfl) (qj rfl rfl rfl (vb hb169) (qb (qa (.int .i64 (IntKind.i64.wrap (x73 + (IntKind.i64.wrap (x80))))) rfl) (qj rfl rfl rfl (vb hb169) (qb (qa (.slice A0_ a0.length c0_) rfl) (qj rfl rfl rfl (vb hb169) (qb (zb zJ rfl) ?_)))))))))
  refine qj rfl rfl rfl (vb hb169) (qb (qa (.bool (decide ((IntKind.i64.wrap (x73 + (IntKind.i64.wrap (x80)))) > (a0.length : Int)))) rfl) (qb (qr (.bool (decide ((IntKind.i64.wrap (x73 + (IntKind.i64.wrap (x80)))) > (a0.length : Int)))) (vb hb169) rfl) (qd (qe ?_))))
  exact ⟨_, _, x68, (decide ((IntKind.i64.wrap (x73 + (IntKind.i64.wrap (x80)))) > (a0.length : Int))), g69, A70, c71, qf _ ⟨rfl, rfl, rfl, rfl, rfl, yp⟩, GLe.refl _, H75, b⟩
 replace b := ifF b hb78
 refine qn (vb hb78) ?_
 refine wp_exit ?_
 iterate 2 refine xB ?_
 replace b := jJ b hy1
 refine blk_e ?_
 refine qe (wp_seq (qc ?_))
 iterate 2 refine qb (qa (.slice A70 x68.length c71) rfl) ?_
 refine qb (qa (.int .i64 0) rfl) (qd (qe (wp_ret ?_)))
 obtain ⟨G170, hG171, H172, hs173⟩ := H75.stay (i := 0) rfl (H75.capA (i := 0) rfl)
 have b := yq b
 subst b
 exact qt rfl (RV.tmp rfl (RV.tmp rfl RV.nil)) ⟨_, A70, c71, (hG74.trans hG171), rfl, H172, hs173⟩

theorem pr13_Known_ok {c : World} (k : Hc c) {G : qk} {w : World} {σ : List Ent} {a0 : Bool} {a1 : TOpt} {v1_ : Value} (h1_ : qx.V G v1_ a1) (H : St c G w (σ)) {r : Bool} (b : pr13_Known a0 a1 = some r) :
  Calls Tryz.prog 196 ([(.bool a0), v1_] : List Value).toArray w (zu fun v w' => ∃ (G' : qk), GLe G G' ∧ tup [(.bool r)] = v ∧ St c G' w' (σ)) := by
 unfold pr13_Known at b
 refine qG Tryz.func196 rfl rfl rfl (wp_seq (qc ?_))
 refine zp (K := qx) (x := a1) H rfl h1_ ?_
 intro b1 w4 H2
 refine qb (qa (.bool false) rfl) (qd (qe (wp_seq (qc (qb (qh jp rfl) ?_)))))
 refine ql H2 (i := 0) rfl qZ jy rfl ?_
 intro v5 hv6
 obtain ⟨A7, c8, rfl, hs9⟩ := qN hv6
 refine qb (zb zJ rfl) (qb (qa (.int .i64 (a1.Data.length : Int)) rfl) (qd (qe (wp_seq (wp_seq (qc (qb (qa (.bool a0) rfl) (qd (qe ?_)))))))))
 rcases qm a0 with hb10 | hb10
 ·replace b := ifT b hb10
  refine qs (vb hb10) (wp_seq (qc (qb (qh jc rfl) (qp H2 (i := 0) rfl qX (qz .u8) ty5 rfl ?_))))
  iterate 2 refine qb (qa (.bool (a1.Typ == 3)) rfl) ?_
  rcases qm (a1.Typ == 3) with hb11 | hb11
  ·replace b := ifT b hb11
   refine qj rfl rfl rfl (vb hb11) (qb (qa (.int .i64 (a1.Data.length : Int)) rfl) (qj rfl rfl rfl (vb hb11) (qb (qa (.bool ((a1.Data.length : Int) == 4)) rfl) (qb (qB (.bool ((a1.Data.length : Int) == 4)) (vb hb11) rfl) (qb (qa (.bool ((a1.Data.length : Int) == 4)) rfl) (qd (qe (wp_ret (qI ?_)))))))))
   have b := yq b
   subst b
   exact qt rfl (RV.tmp rfl RV.nil) ⟨_, GLe.refl _, rfl, (St.pk [] 1 H2 rfl (by decide))⟩
  replace b := ifF b hb11
  iterate 2 refine qJ rfl rfl rfl (vb hb11) ?_
  refine qb (qr (.bool false) (vb hb11) rfl) (qb (qa (.bool false) rfl) (qd (qe (wp_ret (qI ?_)))))
  have b := yq b
  subst b
  exact qt rfl (RV.tmp rfl RV.nil) ⟨_, GLe.refl _, rfl, (St.pk [] 1 H2 rfl (by decide))⟩
 replace b := ifF b hb10
 refine qn (vb hb10) (wp_skip (qe (wp_seq (wp_seq (qc (qb (qh jc rfl) (qp H2 (i := 0) rfl qX (qz .u8) ty5 rfl (qd (qe (wp_block (wp_seq (qc ?_))))))))))))
 iterate 2 refine qb (qa (.bool (a1.Typ == 1)) rfl) ?_
 refine qd (qe ?_)
 rcases qm (a1.Typ == 1) with hb12 | hb12
 ·replace b := ifT b hb12
  refine qs (vb hb12) (wp_seq (qc (qb (qa (.int .i64 (a1.Data.length : Int)) rfl) ?_)))
  iterate 2 refine qb (qa (.bool ((a1.Data.length : Int) == 2)) rfl) ?_
  refine qd (qe (wp_ret (zg (qI ?_))))
  have b := yq b
  subst b
  exact qt rfl (RV.tmp rfl RV.nil) ⟨_, GLe.refl _, rfl, (St.pk [] 1 H2 rfl (by decide))⟩
 replace b := ifF b hb12
 refine qn (vb hb12) ?_
 refine wp_seq (join (fun a w => ∃ (T0 G1 : _) (x14 : Bool), a = mk 33 (qQ T0 [(5, (.int .i64 (a1.Data.length : Int))), (18, (.int .u8 a1.Typ)), (23, (.bool x14))]) ∧ GLe G G1 ∧ St c G1 w (σ) ∧ xg a1 x14 = some r) ?_ ?_)
 ·rintro a w ⟨T0, G17, x14, rfl, hG15, H16, b⟩
  rcases qm x14 with hb18 | hb18
  ·replace b := ifT b hb18
   refine qs (vb hb18) (wp_seq (qc (qb (qa (.int .i64 (a1.Data.length : Int)) rfl) ?_)))
   iterate 2 refine qb (qa (.bool ((a1.Data.length : Int) == 4)) rfl) ?_
   refine qd (qe (wp_ret (zg (qI ?_))))
   have b := yq b
   subst b
   exact qt rfl (RV.tmp rfl RV.nil) ⟨_, hG15, rfl, H16⟩
  replace b := ifF b hb18
  refine qn (vb hb18) ?_
  refine wp_seq (join (fun a w => ∃ (T0 G1 : _) (x20 : Bool), a = mk 33 (qQ T0 [(5, (.int .i64 (a1.Data.length : Int))), (28, (.bool x20))]) ∧ GLe G17 G1 ∧ St c G1 w (σ) ∧ yh a1 x20 = some r) ?_ ?_)
  ·rintro a w ⟨T0, G23, x20, rfl, hG21, H22, b⟩
   rcases qm x20 with hb24 | hb24
   ·replace b := ifT b hb24
    refine qs (vb hb24) (wp_seq (qc (qb (qa (.int .i64 (a1.Data.length : Int)) rfl) ?_)))
    iterate 2 refine qb (qa (.bool ((a1.Data.length : Int) == 0)) rfl) ?_
    refine qd (qe (wp_ret (zg (qI ?_))))
    have b := yq b
    subst b
    exact qt rfl (RV.tmp rfl RV.nil) ⟨_, (hG15.trans hG21), rfl, H22⟩
   replace b := ifF b hb24
   refine qn (vb hb24) (wp_skip (zn (qe (wp_seq (qc (qb (qa (.bool false) rfl) (qd (qe (wp_ret ?_)))))))))
   have b := yq b
   subst b
   exact qt rfl (RV.tmp rfl RV.nil) ⟨_, (hG15.trans hG21), rfl, H22⟩
  refine wp_seq (qc ?_)
  iterate 2 refine qb (qa (.bool (a1.Typ == 7)) rfl) ?_
  refine qd (qe ?_)
  rcases qm (a1.Typ == 7) with hb25 | hb25
  ·replace b := ifT b hb25
   refine qs (vb hb25) (wp_skip (qe ?_))
   exact ⟨_, _, (a1.Typ == 7), qf _ ⟨rfl, rfl, yp⟩, GLe.refl _, H16, b⟩
  replace b := ifF b hb25
  refine qn (vb hb25) (qc ?_)
  iterate 2 refine qb (qa (.bool (a1.Typ == 8)) rfl) ?_
  refine qd (qe ?_)
  exact ⟨_, _, (a1.Typ == 8), qf _ ⟨rfl, rfl, yp⟩, GLe.refl _, H16, b⟩
 refine wp_seq (qc ?_)
 iterate 2 refine qb (qa (.bool (a1.Typ == 2)) rfl) ?_
 refine qd (qe ?_)
 rcases qm (a1.Typ == 2) with hb26 | hb26
 ·replace b := ifT b hb26
  refine qs (vb hb26) (wp_skip (qe ?_))
  exact ⟨_, _, (a1.Typ == 2), qf _ ⟨rfl, rfl, rfl, yp⟩, GLe.refl _, (St.pk [] 1 H2 rfl (by decide)), b⟩
 replace b := ifF b hb26
 refine qn (vb hb26) (qc ?_)
 iterate 2 refine qb (qa (.bool (a1.Typ == 5)) rfl) ?_
 refine qd (qe ?_)
 exact ⟨_, _, (a1.Typ == 5), qf _ ⟨rfl, rfl, rfl, yp⟩, GLe.refl _, (St.pk [] 1 H2 rfl (by decide)), b⟩

theorem pr10_Number_ok {c : World} (k : Hc c) {G : qk} {w : World} {σ : List Ent} {a0 : (List Int)} {A0_ : Option Addr} {c0_ : Nat} (h0_ : SlR kB G A0_ c0_ a0) (H : St c G w (σ)) {r : Int} (b : xb a0 = some r) :
  Calls Tryz.prog 157 ([(.slice A0_ a0.length c0_)] : List Value).toArray w (zu fun v w' => ∃ (G' : qk), GLe G G' ∧ tup [(.int .u32 r)] = v ∧ St c G' w' (σ)) := by
 unfold xb at b
 refine qG Tryz.func157 rfl rfl rfl (wp_seq (qc (qb (qa (.int .u32 0) rfl) (qd (qe (wp_seq (qc (qb (qa (.int .u32 0) rfl) (qd (qe (wp_seq (wp_seq (qc (qb (qa (.slice A0_ a0.length c0_) rfl) (qb (zb zJ rfl) ?_)))))))))))))))
 refine qb (qa (.int .i64 (IntKind.i64.wrap ((a0.length : Int) - 4))) rfl) (qb (rn_max rfl rfl) (qb (qa (.int .i64 (if 0 < (IntKind.i64.wrap ((a0.length : Int) - 4)) then (IntKind.i64.wrap ((a0.length : Int) - 4)) else 0)) rfl) (qd (qe (wp_block ?_)))))
 refine ja (fun (s : (Int × Int)) a w => ∃ (T0 : Fr) (G1 : qk), a = mk 24 (qQ T0 [(0, (.slice A0_ a0.length c0_)), (3, (.int .u32 s.1)), (4, (.int .i64 s.2))]) ∧ GLe G G1 ∧ St c G1 w (σ)) b ?_ ?_
 ·exact ⟨_, _, qf _ ⟨rfl, rfl, rfl, yp⟩, GLe.refl _, H⟩
 rintro ⟨x9, x10⟩ a w y13 ⟨T0, G14, rfl, hG11, H12⟩ b hy1
 refine wp_seq (wp_seq (qc (qb (qa (.int .i64 x10) rfl) (qb (qa (.slice A0_ a0.length c0_) rfl) (qb (zb zJ rfl) (qb (qa (.bool (decide (x10 < (a0.length : Int)))) rfl) (qd (qe ?_))))))))
 rcases qm (decide (x10 < (a0.length : Int))) with hb15 | hb15
 ·replace b := ifT b hb15
  refine qs (vb hb15) (wp_skip (qe (wp_seq (wp_block (qc (qb (qa (.int .u32 x9) rfl) (qb (qa (.int .u32 (IntKind.u32.wrap (x9 * 256))) rfl) (qb (qa (.slice A0_ a0.length c0_) rfl) (qb (qa (.int .i64 x10) rfl) ?_)))))))))
  obtain ⟨x16, hx17, b⟩ := qu b
  refine qR (qY (h0_.mono hG11) zJ ty5 rfl rfl hx17) ?_
  intro a18 hp19
  refine zd H12 hp19 (qz .u8) ty5 rfl ?_
  refine qb (zU un5 un27 rfl) ?_
  iterate 2 refine qb (qa (.int .u32 (IntKind.u32.wrap ((IntKind.u32.wrap (x9 * 256)) + (IntKind.u32.wrap (x16))))) rfl) ?_
  refine qd (zn (qe (qc (qb (qa (.int .i64 x10) rfl) ?_))))
  iterate 2 refine qb (qa (.int .i64 (IntKind.i64.wrap (x10 + 1))) rfl) ?_
  refine qd (qe ?_)
  exact ⟨_, (yq b).symm, _, _, qf _ ⟨rfl, rfl, rfl, yp⟩, hG11, H12⟩
 replace b := ifF b hb15
 refine qn (vb hb15) ?_
 refine wp_exit ?_
 iterate 2 refine xB ?_
 replace b := jJ b hy1
 refine blk_e ?_
 refine qe (wp_seq (qc ?_))
 iterate 2 refine qb (qa (.int .u32 x9) rfl) ?_
 refine qd (qe (wp_ret ?_))
 have b := yq b
 subst b
 exact qt rfl (RV.tmp rfl RV.nil) ⟨_, hG11, rfl, H12⟩

theorem pr13_should_ok {c : World} (k : Hc c) {G : qk} {w : World} {σ : List Ent} {a0 : TRule} {v0_ : Value} {a1 : TOpt} {v1_ : Value} (h0_ : qU.V G v0_ a0) (h1_ : qx.V G v1_ a1) (H : St c G w (σ)) {r : (TOpt × Bool)} (b : pr13_should a0 a1 = some r) :
  Calls Tryz.prog 197 ([v0_, v1_] : List Value).toArray w (zu fun v w' => ∃ (G' : qk) (v1' : Value), GLe G G' ∧ tup [v1', (.bool r.2)] = v ∧ St c G' w' (σ) ∧ qx.V G' v1' r.1) := by
 unfold pr13_should at b
 refine qG Tryz.func197 rfl rfl rfl (wp_seq (qc ?_))
 refine zp (K := qU) (x := a0) H rfl h0_ ?_
 intro b1 w4 H2
 refine zp (K := qx) (x := a1) H2 rfl h1_ ?_
 intro b5 w8 H6
 refine qP H6 xv ?_
 intro b9 w12 H10
 refine qb (qa (.bool false) rfl) (qd (qe (wp_seq (qc (qb (qh jp rfl) ?_)))))
 refine ql H10 (i := 1) rfl qZ jy rfl ?_
 intro v13 hv14
 obtain ⟨A15, c16, rfl, hs17⟩ := qN hv14
 obtain ⟨r18, hr19, b⟩ := qu b
 refine qo (vs := [(.slice A15 a1.Data.length c16)]) en157 rfl (pr10_Number_ok k hs17 H10 hr19) ?_
 rintro v24 w23 ⟨G20, hG21, rfl, H22⟩
 refine qb (qa (.int .u32 r18) rfl) (qd (qe (wp_seq (wp_seq (qc (qb (qh fo29_0 rfl) (qp H22 (i := 2) rfl xO dBool ty4 rfl (qd (qe ?_)))))))))
 rcases qm a0.Ip with hb25 | hb25
 ·replace b := ifT b hb25
  refine qs (vb hb25) (wp_seq ?_)
  refine jP (f := 10) H22 mixed ?_
  intro w26 H27
  refine xW (by repeat (first | exact PF.base | apply PF.then_ | apply PF.blk)) ?_
  intro B E
  obtain ⟨r28, hr29, b⟩ := qu b
  refine qF (fuel := 1) (m := 511) (fun a w => ∃ T0 G1, a = mk 47 (qQ T0 [(4, (pt b9)), (19, (.bool (r18 != a0.Addr)))]) ∧ GLe G20 G1 ∧ St c G1 w ((.box b9 133 (qx.at_ (TOpt.mk 3 r28))) :: σ)) ?_ ?_
  ·rintro a w ⟨T0, G88, rfl, hG86, H87⟩
   refine qq (i := 9) (m' := 1023) rfl (qa (.bool (r18 != a0.Addr)) rfl) B E ?_
   refine zA (qe (wp_ret (qI ?_)))
   obtain ⟨v89, hv90, hl91⟩ := H87.loadv (i := 0) rfl zc
   have b := yq b
   subst b
   exact qt rfl (RV.cell rfl hl91 (RV.tmp rfl RV.nil)) ⟨_, v89, (hG21.trans hG86), rfl, (St.pk [] 1 H87 rfl (by decide)), hv90⟩
  intro hM85
  refine qF (fuel := 2) (m := 255) (fun a w => ∃ T0 G1 v81, a = mk 47 (qQ T0 [(4, (pt b9)), (15, v81), (19, (.bool (r18 != a0.Addr)))]) ∧ GLe G20 G1 ∧ St c G1 w ((.box b9 133 (qx.at_ zTOpt)) :: σ) ∧ qx.V G1 v81 (TOpt.mk 3 r28)) ?_ ?_
  ·rintro a w ⟨T0, G80, v81, rfl, hG78, H79, hv82⟩
   refine qi [8] ⟨qg (m' := 511) fun I j => ?_, yp⟩
   refine qy (z := (TOpt.mk 3 r28)) H79 (i := 0) rfl (Lens.id qx) zc rfl rfl hv82 ?_
   intro w93 H92
   refine qd (j _ _ ?_)
   exact hM85 _ _ ⟨_, _, qf _ ⟨rfl, rfl, yp⟩, hG78, H92⟩
  intro hM77
  refine qF (fuel := 4) (m := 243) (fun a w => ∃ T0 G1, a = mk 47 (qQ T0 [(4, (pt b9)), (13, (.int .u32 a0.Addr)), (19, (.bool (r18 != a0.Addr)))]) ∧ GLe G20 G1 ∧ St c G1 w ((.box b9 133 (qx.at_ zTOpt)) :: σ)) ?_ ?_
  ·rintro a w ⟨T0, G67, rfl, hG65, H66⟩
   refine qi [2] ⟨qg (m' := 247) fun I j => ?_, yp⟩
   refine qo (vs := [(.int .u32 a0.Addr)]) en89 rfl (zY k H66 hr29) ?_
   rintro v98 w97 ⟨G94, g99, A100, c101, hG95, rfl, H96⟩
   refine qd (j _ _ ?_)
   obtain ⟨G103, hG104, H105, hs106⟩ := H96.stay (i := 0) rfl (H96.capA (i := 0) rfl)
   refine jD (i := 3) (m' := 255) rfl (qT (G := G103) xv rfl bs133 rfl (Parts.cons jc qX ((qz .u8).toV _ _) (Parts.cons jp qZ (zw hs106) (Parts.nil _)))) B E ?_
   intro v107 hv108
   exact hM77 _ _ ⟨_, _, v107, qf _ ⟨rfl, rfl, rfl, yp⟩, ((hG65.trans hG95).trans hG104), H105, hv108⟩
  intro hM64
  refine qq (i := 0) (m' := 1) rfl (qh fo29_3 rfl) B E ?_
  refine qq (i := 4) (m' := 17) rfl (qa (.int .u32 r18) rfl) B E ?_
  refine qq (i := 5) (m' := 49) rfl (qh fo29_3 rfl) B E ?_
  refine qi [1, 6] ⟨?_, ?_, yp⟩
  ·refine qg (m' := 51) fun I j => ?_
   refine qp H27 (i := 2) rfl lTRule_Addr (qz .u32) ty27 rfl (qd (j _ _ ?_))
   refine qi [2, 6] ⟨?_, ?_, yp⟩
   ·refine qg (m' := 55) fun I j => ?_
    refine qo (vs := [(.int .u32 a0.Addr)]) en89 rfl (zY k H27 hr29) ?_
    rintro v113 w112 ⟨G109, g114, A115, c116, hG110, rfl, H111⟩
    refine qd (j _ _ ?_)
    obtain ⟨G118, hG119, H120, hs121⟩ := H111.stay (i := 0) rfl (H111.capA (i := 0) rfl)
    refine jD (i := 3) (m' := 63) rfl (qT (G := G118) xv rfl bs133 rfl (Parts.cons jc qX ((qz .u8).toV _ _) (Parts.cons jp qZ (zw hs121) (Parts.nil _)))) B E ?_
    intro v122 hv123
    refine qi [6, 8] ⟨?_, ?_, yp⟩
    ·refine qg (m' := 127) fun I j => ?_
     refine qp H120 (i := 2) rfl lTRule_Addr (qz .u32) ty27 rfl (qd (j _ _ ?_))
     refine qq (i := 7) (m' := 255) rfl (qa (.bool (r18 != a0.Addr)) rfl) B E ?_
     exact hM77 _ _ ⟨_, _, v122, qf _ ⟨rfl, rfl, rfl, yp⟩, (hG110.trans hG119), (St.pk [0] 3 H120 rfl (by decide)), hv123⟩
    refine qg (m' := 319) fun I j => ?_
    refine qy (z := (TOpt.mk 3 r28)) H120 (i := 0) rfl (Lens.id qx) zc rfl rfl hv123 ?_
    intro w125 H124
    refine qd (j _ _ ?_)
    refine qi [6] ⟨qg (m' := 383) fun I j => ?_, yp⟩
    refine qp H124 (i := 2) rfl lTRule_Addr (qz .u32) ty27 rfl (qd (j _ _ ?_))
    refine qq (i := 7) (m' := 511) rfl (qa (.bool (r18 != a0.Addr)) rfl) B E ?_
    exact hM85 _ _ ⟨_, _, qf _ ⟨rfl, rfl, yp⟩, (hG110.trans hG119), (St.pk [0] 3 H124 rfl (by decide))⟩
   refine qg (m' := 115) fun I j => ?_
   refine qp H27 (i := 2) rfl lTRule_Addr (qz .u32) ty27 rfl (qd (j _ _ ?_))
   refine qq (i := 7) (m' := 243) rfl (qa (.bool (r18 != a0.Addr)) rfl) B E ?_
   exact hM64 _ _ ⟨_, _, qf _ ⟨rfl, rfl, rfl, yp⟩, GLe.refl _, (St.pk [0] 3 H27 rfl (by decide))⟩
  refine qg (m' := 113) fun I j => ?_
  refine qp H27 (i := 2) rfl lTRule_Addr (qz .u32) ty27 rfl (qd (j _ _ ?_))
  refine qq (i := 7) (m' := 241) rfl (qa (.bool (r18 != a0.Addr)) rfl) B E ?_
  refine qi [1] ⟨qg (m' := 243) fun I j => ?_, yp⟩
  refine qp H27 (i := 2) rfl lTRule_Addr (qz .u32) ty27 rfl (qd (j _ _ ?_))
  exact hM64 _ _ ⟨_, _, qf _ ⟨rfl, rfl, rfl, yp⟩, GLe.refl _, (St.pk [0] 3 H27 rfl (by decide))⟩
 replace b := ifF b hb25
 refine qn (vb hb25) (wp_skip (qe (wp_seq ?_)))
 refine wp_seq (join (fun a w => ∃ (T0 G1 : _) (x127 : Bool), a = mk 47 (qQ T0 [(2, (pt b1)), (3, (pt b5)), (4, (pt b9)), (6, (.int .u32 r18)), (26, (.bool x127))]) ∧ GLe G20 G1 ∧ St c G1 w ((.box b9 133 (qx.at_ zTOpt)) :: (.box b5 133 (qx.at_ a1)) :: (.box b1 29 (qU.at_ a0)) :: σ) ∧ ju a0 a1 r18 x127 = some r) ?_ ?_)
 ·rintro a w ⟨T0, G130, x127, rfl, hG128, H129, b⟩
  rcases qm x127 with hb131 | hb131
  ·replace b := ifT b hb131
   refine qs (vb hb131) (wp_seq (qc ?_))
   refine zh (K := kB) (vs := [(.int .u8 0), (.int .u8 64)]) (xs := ([0, 64] : (List Int))) H129 zJ el5 rfl ⟨((qz .u8).toV _ _), ((qz .u8).toV _ _), yp⟩ rfl (by decide) ?_
   intro g132 w134 H133
   obtain ⟨G136, hG137, H138, hs139⟩ := H133.stay (i := 0) rfl (H133.capA (i := 0) rfl)
   refine qR (qT (G := G136) xv rfl bs133 rfl (Parts.cons jc qX ((qz .u8).toV _ _) (Parts.cons jp qZ (zw hs139) (Parts.nil _)))) ?_
   intro v140 hv141
   refine qy (z := (TOpt.mk 1 ([0, 64] : (List Int)))) H138 (i := 0) rfl (Lens.id qx) zc rfl rfl hv141 ?_
   intro w143 H142
   refine qb (qa (.bool true) rfl) (qd (qe (wp_ret (qI ?_))))
   obtain ⟨v144, hv145, hl146⟩ := H142.loadv (i := 0) rfl zc
   have b := yq b
   subst b
   exact qt rfl (RV.cell rfl hl146 (RV.tmp rfl RV.nil)) ⟨_, v144, ((hG21.trans hG128).trans hG137), rfl, (St.pk [] 3 H142 rfl (by decide)), hv145⟩
  replace b := ifF b hb131
  refine qn (vb hb131) (wp_skip (qe (wp_seq ?_)))
  refine wp_seq (join (fun a w => ∃ (T0 G1 : _) (x149 : Bool), a = mk 47 (qQ T0 [(2, (pt b1)), (3, (pt b5)), (4, (pt b9)), (41, (.bool x149))]) ∧ GLe G130 G1 ∧ St c G1 w ((.box b9 133 (qx.at_ zTOpt)) :: (.box b5 133 (qx.at_ a1)) :: (.box b1 29 (qU.at_ a0)) :: σ) ∧ jV a0 a1 x149 = some r) ?_ ?_)
  ·rintro a w ⟨T0, G152, x149, rfl, hG150, H151, b⟩
   rcases qm x149 with hb153 | hb153
   ·replace b := ifT b hb153
    refine qs (vb hb153) (wp_seq (qc (qb (qh fo29_2 rfl) (qp H151 (i := 2) rfl lTRule_Other (qz .u32) ty27 rfl ?_))))
    obtain ⟨r154, hr155, b⟩ := qu b
    refine qo (vs := [(.int .u32 a0.Other)]) en89 rfl (zY k H151 hr155) ?_
    rintro v160 w159 ⟨G156, g161, A162, c163, hG157, rfl, H158⟩
    obtain ⟨G165, hG166, H167, hs168⟩ := H158.stay (i := 0) rfl (H158.capA (i := 0) rfl)
    refine qR (qT (G := G165) xv rfl bs133 rfl (Parts.cons jc qX ((qz .u8).toV _ _) (Parts.cons jp qZ (zw hs168) (Parts.nil _)))) ?_
    intro v169 hv170
    refine qy (z := (TOpt.mk 5 r154)) H167 (i := 0) rfl (Lens.id qx) zc rfl rfl hv170 ?_
    intro w172 H171
    refine qb (qa (.bool true) rfl) (qd (qe (wp_ret (qI ?_))))
    obtain ⟨v173, hv174, hl175⟩ := H171.loadv (i := 0) rfl zc
    have b := yq b
    subst b
    exact qt rfl (RV.cell rfl hl175 (RV.tmp rfl RV.nil)) ⟨_, v173, ((((hG21.trans hG128).trans hG150).trans hG157).trans hG166), rfl, (St.pk [] 3 H171 rfl (by decide)), hv174⟩
   replace b := ifF b hb153
   refine qn (vb hb153) (wp_skip (qe (wp_seq (qc ?_))))
   refine ql H151 (i := 1) rfl (Lens.id qx) zc rfl ?_
   intro v176 hv177
   refine qy (z := a1) H151 (i := 0) rfl (Lens.id qx) zc rfl rfl hv177 ?_
   intro w179 H178
   refine qb (qa (.bool false) rfl) (qd (qe (wp_ret ?_)))
   obtain ⟨v180, hv181, hl182⟩ := H178.loadv (i := 0) rfl zc
   have b := yq b
   subst b
   exact qt rfl (RV.cell rfl hl182 (RV.tmp rfl RV.nil)) ⟨_, v180, ((hG21.trans hG128).trans hG150), rfl, (St.pk [] 3 H178 rfl (by decide)), hv181⟩
  refine qc (qb (qh jc rfl) (qp H129 (i := 1) rfl qX (qz .u8) ty5 rfl ?_))
  iterate 2 refine qb (qa (.bool (a1.Typ == 5)) rfl) ?_
  rcases qm (a1.Typ == 5) with hb183 | hb183
  ·replace b := ifT b hb183
   refine qj rfl rfl rfl (vb hb183) (qb (qa (.int .u32 r18) rfl) (qj rfl rfl rfl (vb hb183) (qb (qa (.bool (r18 == 0)) rfl) (qj rfl rfl rfl (vb hb183) (qb (qa (.bool (r18 == 0)) rfl) ?_)))))
   rcases qm (r18 == 0) with hb184 | hb184
   ·replace b := ifT b hb184
    iterate 4 refine qJ rfl rfl rfl (vb hb184) ?_
    refine qj rfl rfl rfl (vb hb183) (qb (qB (.bool true) (vb hb184) rfl) (qb (qB (.bool true) (vb hb183) rfl) (qd (qe ?_))))
    exact ⟨_, _, true, qf _ ⟨rfl, rfl, rfl, rfl, yp⟩, GLe.refl _, H129, b⟩
   replace b := ifF b hb184
   refine qj rfl rfl rfl (vb hb184) (qb (qa (.int .u32 r18) rfl) (qj rfl rfl rfl (vb hb184) (qb (qh fo29_1 rfl) (qj rfl rfl rfl (vb hb184) (qp H129 (i := 2) rfl lTRule_Magic (qz .u32) ty27 rfl (qj rfl rfl rfl (vb hb184) (qb (qa (.bool (r18 == a0.Magic)) rfl) (qj rfl rfl rfl (vb hb183) (qb (qr (.bool (r18 == a0.Magic)) (vb hb184) rfl) ?_)))))))))
   refine qb (qB (.bool (r18 == a0.Magic)) (vb hb183) rfl) (qd (qe ?_))
   exact ⟨_, _, (r18 == a0.Magic), qf _ ⟨rfl, rfl, rfl, rfl, yp⟩, GLe.refl _, H129, b⟩
  replace b := ifF b hb183
  iterate 3 refine qJ rfl rfl rfl (vb hb183) ?_
  iterate 4 refine wl_nou rfl rfl rfl rfl ?_
  refine qJ rfl rfl rfl (vb hb183) (qb (qr (.bool false) (vb hb183) rfl) (qd (qe ?_)))
  exact ⟨_, _, false, qf _ ⟨rfl, rfl, rfl, rfl, yp⟩, GLe.refl _, H129, b⟩
 refine qc (qb (qh jc rfl) (qp H22 (i := 1) rfl qX (qz .u8) ty5 rfl ?_))
 iterate 2 refine qb (qa (.bool (a1.Typ == 1)) rfl) ?_
 rcases qm (a1.Typ == 1) with hb185 | hb185
 ·replace b := ifT b hb185
  refine qj rfl rfl rfl (vb hb185) (qb (qa (.int .u32 r18) rfl) (qj rfl rfl rfl (vb hb185) (qb (qa (.bool (decide (r18 < 64))) rfl) (qb (qB (.bool (decide (r18 < 64))) (vb hb185) rfl) (qd (qe ?_))))))
  exact ⟨_, _, (decide (r18 < 64)), qf _ ⟨rfl, rfl, rfl, rfl, rfl, yp⟩, GLe.refl _, H22, b⟩
 replace b := ifF b hb185
 iterate 2 refine qJ rfl rfl rfl (vb hb185) ?_
 refine qb (qr (.bool false) (vb hb185) rfl) (qd (qe ?_))
 exact ⟨_, _, false, qf _ ⟨rfl, rfl, rfl, rfl, rfl, yp⟩, GLe.refl _, H22, b⟩

theorem pr13_Address_ok {c : World} (k : Hc c) {G : qk} {w : World} {σ : List Ent} {a0 : (List TOpt)} {A0_ : Option Addr} {c0_ : Nat} (h0_ : SlR qx G A0_ c0_ a0) (H : St c G w (σ)) {r : (Int × Bool)} (b : xr a0 = some r) :
  Calls Tryz.prog 198 ([(.slice A0_ a0.length c0_)] : List Value).toArray w (zu fun v w' => ∃ (G' : qk), GLe G G' ∧ tup [(.int .u32 r.1), (.bool r.2)] = v ∧ St c G' w' (σ)) := by
 unfold xr at b
 refine qG Tryz.func198 rfl rfl rfl (wp_seq (qc (qb (qa (.int .u32 0) rfl) (qb (qa (.bool false) rfl) (qd (qe (wp_seq (wp_seq (qc (qb (qa (.int .i64 0) rfl) (qd (qe (wp_block ?_)))))))))))))
 refine ja (fun (s : Int) a w => ∃ (T0 : Fr) (G1 : qk), a = mk 32 (qQ T0 [(0, (.slice A0_ a0.length c0_)), (4, (.int .i64 s))]) ∧ GLe G G1 ∧ St c G1 w (σ)) b ?_ ?_
 ·exact ⟨_, _, qf _ ⟨rfl, rfl, yp⟩, GLe.refl _, H⟩
 rintro x36 a w y39 ⟨T0, G40, rfl, hG37, H38⟩ b hy1
 refine wp_seq (wp_seq (qc (qb (qa (.int .i64 x36) rfl) (qb (qa (.slice A0_ a0.length c0_) rfl) (qb (zb zQ rfl) (qb (qa (.bool (decide (x36 < (a0.length : Int)))) rfl) (qd (qe ?_))))))))
 rcases qm (decide (x36 < (a0.length : Int))) with hb41 | hb41
 ·replace b := ifT b hb41
  refine qs (vb hb41) (wp_skip (qe (wp_seq (wp_block ?_))))
  refine wp_seq (join (fun a w => ∃ (T0 G1 : _) (x56 : Bool), a = mk 32 (qQ T0 [(0, (.slice A0_ a0.length c0_)), (4, (.int .i64 x36)), (25, (.bool x56))]) ∧ GLe G40 G1 ∧ St c G1 w (σ) ∧ jN a0 x36 x56 = some y39) ?_ ?_)
  ·rintro a w ⟨T0, G59, x56, rfl, hG57, H58, b⟩
   rcases qm x56 with hb60 | hb60
   ·replace b := ifT b hb60
    refine qs (vb hb60) (wp_seq (qc (qb (qa (.slice A0_ a0.length c0_) rfl) (qb (qa (.int .i64 x36) rfl) ?_))))
    obtain ⟨x61, hx62, b⟩ := qu b
    refine qR (qY (h0_.mono (hG37.trans hG57)) zQ zc rfl rfl hx62) ?_
    intro a63 hp64
    refine qb (jW jp rfl) ?_
    refine zH H58 (hp64.lens qZ) jy rfl ?_
    intro v65 hv66
    obtain ⟨A67, c68, rfl, hs69⟩ := qN hv66
    obtain ⟨r70, hr71, b⟩ := qu b
    refine qo (vs := [(.slice A67 x61.Data.length c68)]) en157 rfl (pr10_Number_ok k hs69 H58 hr71) ?_
    rintro v76 w75 ⟨G72, hG73, rfl, H74⟩
    refine qb (qa (.int .u32 r70) rfl) (qb (qa (.bool true) rfl) (qd (qe (wp_ret (zg ?_)))))
    iterate 2 refine qI ?_
    replace b := jJ b hy1
    refine zg (qI ?_)
    have b := yq b
    subst b
    exact qt rfl (RV.tmp rfl (RV.tmp rfl RV.nil)) ⟨_, ((hG37.trans hG57).trans hG73), rfl, H74⟩
   replace b := ifF b hb60
   refine qn (vb hb60) (wp_skip (zn (qe (qc (qb (qa (.int .i64 x36) rfl) ?_)))))
   iterate 2 refine qb (qa (.int .i64 (IntKind.i64.wrap (x36 + 1))) rfl) ?_
   refine qd (qe ?_)
   exact ⟨_, (yq b).symm, _, _, qf _ ⟨rfl, rfl, yp⟩, (hG37.trans hG57), H58⟩
  refine qc (qb (qa (.slice A0_ a0.length c0_) rfl) (qb (qa (.int .i64 x36) rfl) ?_))
  obtain ⟨x77, hx78, b⟩ := qu b
  refine qR (qY (h0_.mono hG37) zQ zc rfl rfl hx78) ?_
  intro a79 hp80
  refine qb (jW jc rfl) ?_
  refine zd H38 (hp80.lens qX) (qz .u8) ty5 rfl ?_
  iterate 2 refine qb (qa (.bool (x77.Typ == 3)) rfl) ?_
  rcases qm (x77.Typ == 3) with hb81 | hb81
  ·replace b := ifT b hb81
   refine qj rfl rfl rfl (vb hb81) (qb (qa (.slice A0_ a0.length c0_) rfl) (qj rfl rfl rfl (vb hb81) (qb (qa (.int .i64 x36) rfl) (qj rfl rfl rfl (vb hb81) ?_))))
   obtain ⟨x82, hx83, b⟩ := qu b
   refine qR (qY (h0_.mono hG37) zQ zc rfl rfl hx83) ?_
   intro a84 hp85
   refine qj rfl rfl rfl (vb hb81) (qb (jW jp rfl) (qj rfl rfl rfl (vb hb81) ?_))
   refine zH H38 (hp85.lens qZ) jy rfl ?_
   intro v86 hv87
   obtain ⟨A88, c89, rfl, hs90⟩ := qN hv87
   refine qj rfl rfl rfl (vb hb81) (qb (zb zJ rfl) (qj rfl rfl rfl (vb hb81) (qb (qa (.bool ((x82.Data.length : Int) == 4)) rfl) (qb (qB (.bool ((x82.Data.length : Int) == 4)) (vb hb81) rfl) (qd (qe ?_))))))
   exact ⟨_, _, ((x82.Data.length : Int) == 4), qf _ ⟨rfl, rfl, rfl, yp⟩, GLe.refl _, H38, b⟩
  replace b := ifF b hb81
  iterate 7 refine qJ rfl rfl rfl (vb hb81) ?_
  refine qb (qr (.bool false) (vb hb81) rfl) (qd (qe ?_))
  exact ⟨_, _, false, qf _ ⟨rfl, rfl, rfl, yp⟩, GLe.refl _, H38, b⟩
 replace b := ifF b hb41
 refine qn (vb hb41) ?_
 refine wp_exit ?_
 iterate 2 refine xB ?_
 replace b := jJ b hy1
 refine blk_e ?_
 refine qe (wp_seq (qc (qb (qa (.int .u32 0) rfl) (qb (qa (.bool false) rfl) (qd (qe (wp_ret ?_)))))))
 have b := yq b
 subst b
 exact qt rfl (RV.tmp rfl (RV.tmp rfl RV.nil)) ⟨_, hG37, rfl, H38⟩

theorem pr13_Answer_ok {c : World} (k : Hc c) {G : qk} {w : World} {σ : List Ent} {a0 : TRule} {v0_ : Value} {a1 : (List TOpt)} {A1_ : Option Addr} {c1_ : Nat} {a2 : Int} (h0_ : qU.V G v0_ a0) (h1_ : SlR qx G A1_ c1_ a1) (H : St c G w (σ)) {r : (Int × (List TOpt))} (b : pr13_Answer a0 a1 a2 = some r) :
  Calls Tryz.prog 154 ([v0_, (.slice A1_ a1.length c1_), (.int .i64 a2)] : List Value).toArray w (zu fun v w' => ∃ (G' : qk) (A1' : Option Addr) (c2' : Nat), GLe G G' ∧ tup [(.int .u8 r.1), (.slice A1' r.2.length c2')] = v ∧ St c G' w' (σ) ∧ SlR qx G' A1' c2' r.2) := by
 unfold pr13_Answer at b
 refine qG Tryz.func154 rfl rfl rfl (wp_seq (qc ?_))
 refine zp (K := qU) (x := a0) H rfl h0_ ?_
 intro b1 w4 H2
 refine qb (qa (.int .u8 0) rfl) (qb (qa (.slice none 0 0) rfl) (qd (qe (wp_seq (qc (qb (qa (.slice none 0 0) rfl) (qd (qe (wp_seq (qc (qb (qa (.slice none 0 0) rfl) (qd (qe (wp_seq (qc (qb (qa (.slice none 0 0) rfl) (qd (qe (wp_seq ?_)))))))))))))))))))
 refine wp_seq (qc (qb (qa (.int .i64 0) rfl) (qd (qe (wp_block ?_)))))
 have H811 := H2.nilrow qx none 133
 have H813 := H811.nilrow qx none 133
 have H815 := H813.nilrow qx none 133
 refine ja (fun (s : ((List TOpt) × (List TOpt) × (List TOpt) × Int)) a w => ∃ (T0 : Fr) (G1 : qk) (g227 : Option Nat) (A228 : Option Addr) (c229 : Nat) (g232 : Option Nat) (A233 : Option Addr) (c234 : Nat) (g237 : Option Nat) (A238 : Option Addr) (c239 : Nat), a = mk 99 (qQ T0 [(1, (.slice A1_ a1.length c1_)), (2, (.int .i64 a2)), (3, (pt b1)), (8, (.slice A228 s.1.length c229)), (9, (.slice A233 s.2.1.length c234)), (10, (.slice A238 s.2.2.1.length c239)), (11, (.int .i64 s.2.2.2))]) ∧ GLe G G1 ∧ St c G1 w ((.row qx g227 A228 c229 133 s.1) :: (.row qx g232 A233 c234 133 s.2.1) :: (.row qx g237 A238 c239 133 s.2.2.1) :: (.box b1 29 (qU.at_ a0)) :: σ)) b ?_ ?_
 ·exact ⟨_, _, none, none, 0, none, none, 0, none, none, 0, qf _ ⟨rfl, rfl, rfl, rfl, rfl, rfl, rfl, yp⟩, GLe.refl _, (St.pk [2, 1, 0, 3] 4 H815 rfl (by decide))⟩
 rintro ⟨x226, x231, x236, x241⟩ a w y244 ⟨T0, G245, g227, A228, c229, g232, A233, c234, g237, A238, c239, rfl, hG242, H243⟩ b hy5
 refine wp_seq (wp_seq (qc (qb (qa (.int .i64 x241) rfl) (qb (qa (.slice A1_ a1.length c1_) rfl) (qb (zb zQ rfl) (qb (qa (.bool (decide (x241 < (a1.length : Int)))) rfl) (qd (qe ?_))))))))
 rcases qm (decide (x241 < (a1.length : Int))) with hb246 | hb246
 ·replace b := ifT b hb246
  refine qs (vb hb246) (wp_skip (qe ?_))
  refine wp_seq (join (fun a w => ∃ (T0 G1 : _) (x368 : (List TOpt)) (x373 : (List TOpt)) (x378 : (List TOpt)) (g369 A370 c371 g374 A375 c376 g379 A380 c381 : _), a = mk 99 (qQ T0 [(1, (.slice A1_ a1.length c1_)), (2, (.int .i64 a2)), (3, (pt b1)), (8, (.slice A370 x368.length c371)), (9, (.slice A375 x373.length c376)), (10, (.slice A380 x378.length c381)), (11, (.int .i64 x241))]) ∧ GLe G245 G1 ∧ St c G1 w ((.row qx g369 A370 c371 133 x368) :: (.row qx g374 A375 c376 133 x373) :: (.row qx g379 A380 c381 133 x378) :: (.box b1 29 (qU.at_ a0)) :: σ) ∧ jr x241 x368 x373 x378 = some y244) ?_ ?_)
  ·rintro a w ⟨T0, G385, x368, x373, x378, g369, A370, c371, g374, A375, c376, g379, A380, c381, rfl, hG383, H384, b⟩
   refine qc (qb (qa (.int .i64 x241) rfl) ?_)
   iterate 2 refine qb (qa (.int .i64 (IntKind.i64.wrap (x241 + 1))) rfl) ?_
   refine qd (qe ?_)
   exact ⟨_, (yq b).symm, _, _, g369, A370, c371, g374, A375, c376, g379, A380, c381, qf _ ⟨rfl, rfl, rfl, rfl, rfl, rfl, rfl, yp⟩, (hG242.trans hG383), H384⟩
  refine wp_block (wp_seq ?_)
  refine jP (f := 8) H243 mixed ?_
  intro w399 H400
  refine xW (by repeat (first | exact PF.base | apply PF.then_ | apply PF.blk)) ?_
  intro B E
  obtain ⟨x401, hx402, b⟩ := qu b
  obtain ⟨r407, hr408, b⟩ := qu b
  refine qF (fuel := 2) (m := 63) (fun a w => ∃ T0 G1 v424, a = mk 99 (qQ T0 [(1, (.slice A1_ a1.length c1_)), (2, (.int .i64 a2)), (3, (pt b1)), (8, (.slice A228 x226.length c229)), (9, (.slice A233 x231.length c234)), (10, (.slice A238 x236.length c239)), (11, (.int .i64 x241)), (24, (.bool a0.Ip)), (28, v424)]) ∧ GLe G245 G1 ∧ St c G1 w ((.box b1 29 (qU.at_ a0)) :: (.row qx g227 A228 c229 133 x226) :: (.row qx g232 A233 c234 133 x231) :: (.row qx g237 A238 c239 133 x236) :: σ) ∧ qx.V G1 v424 x401) ?_ ?_
  ·rintro a w ⟨T0, G423, v424, rfl, hG421, H422, hv425⟩
   refine qi [6] ⟨qg (m' := 127) fun I j => ?_, yp⟩
   refine qo (vs := [(.bool a0.Ip), v424]) en196 rfl (pr13_Known_ok k hv425 H422 hr408) ?_
   rintro v435 w434 ⟨G431, hG432, rfl, H433⟩
   refine qd (j _ _ ?_)
   refine qq (i := 7) (m' := 255) rfl (qa (.bool r407) rfl) B E ?_
   refine zA (qe (wp_seq (wp_seq (qc (qb (qa (.bool r407) rfl) (qb (qa (.bool (!r407)) rfl) (qd (qe ?_))))))))
   rcases qm (!r407) with hb436 | hb436
   ·replace b := ifT b hb436
    refine qs (vb hb436) (wp_seq (qc (qb (qa (.slice A228 x226.length c229) rfl) (qb (qa (.slice A1_ a1.length c1_) rfl) (qb (qa (.int .i64 x241) rfl) ?_)))))
    obtain ⟨x437, hx438, b⟩ := qu b
    refine qR (qY (h1_.mono ((hG242.trans hG421).trans hG432)) zQ zc rfl rfl hx438) ?_
    intro a439 hp440
    refine zH H433 hp440 zc rfl ?_
    intro v441 hv442
    refine zh (K := qx) (vs := [v441]) (xs := ([x437] : (List TOpt))) H433 zQ el133 rfl ⟨hv442, yp⟩ rfl (by decide) ?_
    intro g443 w445 H444
    obtain ⟨r447, hr448, b⟩ := qu b
    refine zB H444 zQ el133 (i := 2) rfl rfl rfl ((H444.okAt (i := 0) rfl).src) hr448 ?_
    intro g449 A450 c451 w452 H453
    refine qb (qa (.slice A450 r447.length c451) rfl) (qd (qe ?_))
    refine wp_exit ?_
    refine xB ?_
    refine blk_e ?_
    refine qe ?_
    exact ⟨_, _, r447, x231, x236, g449, A450, c451, g232, A233, c234, g237, A238, c239, qf _ ⟨rfl, rfl, rfl, rfl, rfl, rfl, rfl, yp⟩, (hG421.trans hG432), (St.pk [2, 3, 4, 1] 5 H453 rfl (by decide)), b⟩
   replace b := ifF b hb436
   refine qn (vb hb436) (wp_skip (qe (wp_seq ?_)))
   refine jP (f := 12) H433 mixed ?_
   intro w477 H478
   refine xW (by repeat (first | exact PF.base | apply PF.then_ | apply PF.blk)) ?_
   intro B E
   obtain ⟨x481, hx482, b⟩ := qu b
   obtain ⟨r487, hr488, b⟩ := qu b
   refine qF (fuel := 2) (m := 1023) (fun a w => ∃ (T0 G1 : _) (b581 : Nat) (v582 : _), a = mk 99 (qQ T0 [(1, (.slice A1_ a1.length c1_)), (2, (.int .i64 a2)), (3, (pt b1)), (8, (.slice A228 x226.length c229)), (9, (.slice A233 x231.length c234)), (10, (.slice A238 x236.length c239)), (11, (.int .i64 x241)), (13, (pt b581)), (46, v582), (47, (.bool r487.2))]) ∧ GLe G431 G1 ∧ St c G1 w ((.box b1 29 (qU.at_ a0)) :: (.row qx g227 A228 c229 133 x226) :: (.row qx g232 A233 c234 133 x231) :: (.row qx g237 A238 c239 133 x236) :: (.box b581 133 (qx.at_ zTOpt)) :: σ) ∧ qx.V G1 v582 r487.1) ?_ ?_
   ·rintro a w ⟨T0, G580, b581, v582, rfl, hG578, H579, hv583⟩
    refine qi [10] ⟨qg (m' := 2047) fun I j => ?_, yp⟩
    refine qy (z := r487.1) H579 (i := 4) rfl (Lens.id qx) zc rfl rfl hv583 ?_
    intro w587 H586
    refine qd (j _ _ ?_)
    refine qq (i := 11) (m' := 4095) rfl (qa (.bool r487.2) rfl) B E ?_
    refine zA (qe (wp_seq (qc (qb (qa (.bool r487.2) rfl) (qd (qe ?_))))))
    rcases qm r487.2 with hb588 | hb588
    ·replace b := ifT b hb588
     refine qs (vb hb588) (wp_seq (qc (qb (qa (.slice A233 x231.length c234) rfl) (qb (qa (.slice A1_ a1.length c1_) rfl) (qb (qa (.int .i64 x241) rfl) ?_)))))
     obtain ⟨x589, hx590, b⟩ := qu b
     refine qR (qY (h1_.mono (((hG242.trans hG421).trans hG432).trans hG578)) zQ zc rfl rfl hx590) ?_
     intro a591 hp592
     refine zH H586 hp592 zc rfl ?_
     intro v593 hv594
     refine zh (K := qx) (vs := [v593]) (xs := ([x589] : (List TOpt))) H586 zQ el133 rfl ⟨hv594, yp⟩ rfl (by decide) ?_
     intro g595 w597 H596
     obtain ⟨r599, hr600, b⟩ := qu b
     refine zB H596 zQ el133 (i := 3) rfl rfl rfl ((H596.okAt (i := 0) rfl).src) hr600 ?_
     intro g601 A602 c603 w604 H605
     refine qb (qa (.slice A602 r599.length c603) rfl) (qd (qe (qc (qb (qa (.slice A238 x236.length c239) rfl) ?_))))
     refine ql H605 (i := 5) rfl (Lens.id qx) zc rfl ?_
     intro v606 hv607
     refine zh (K := qx) (vs := [v606]) (xs := ([r487.1] : (List TOpt))) H605 zQ el133 rfl ⟨hv607, yp⟩ rfl (by decide) ?_
     intro g608 w610 H609
     obtain ⟨r612, hr613, b⟩ := qu b
     refine zB H609 zQ el133 (i := 5) rfl rfl rfl ((H609.okAt (i := 0) rfl).src) hr613 ?_
     intro g614 A615 c616 w617 H618
     refine qb (qa (.slice A615 r612.length c616) rfl) (qd (zn (qe ?_)))
     exact ⟨_, _, x226, r599, r612, g227, A228, c229, g601, A602, c603, g614, A615, c616, qf _ ⟨rfl, rfl, rfl, rfl, rfl, rfl, rfl, yp⟩, ((hG421.trans hG432).trans hG578), (St.pk [3, 4, 5, 2] 7 H618 rfl (by decide)), b⟩
    replace b := ifF b hb588
    refine qn (vb hb588) (wp_skip (zn (qe ?_)))
    exact ⟨_, _, x226, x231, x236, g227, A228, c229, g232, A233, c234, g237, A238, c239, qf _ ⟨rfl, rfl, rfl, rfl, rfl, rfl, rfl, yp⟩, ((hG421.trans hG432).trans hG578), (St.pk [1, 2, 3, 0] 5 H586 rfl (by decide)), b⟩
   intro hM577
   refine qF (fuel := 6) (m := 543) (fun a w => ∃ (T0 G1 : _) (b561 : Nat) (v562 v564 : _), a = mk 99 (qQ T0 [(1, (.slice A1_ a1.length c1_)), (2, (.int .i64 a2)), (3, (pt b1)), (8, (.slice A228 x226.length c229)), (9, (.slice A233 x231.length c234)), (10, (.slice A238 x236.length c239)), (11, (.int .i64 x241)), (13, (pt b561)), (40, v562), (44, v564)]) ∧ GLe G431 G1 ∧ St c G1 w ((.box b1 29 (qU.at_ a0)) :: (.row qx g227 A228 c229 133 x226) :: (.row qx g232 A233 c234 133 x231) :: (.row qx g237 A238 c239 133 x236) :: (.box b561 133 (qx.at_ zTOpt)) :: σ) ∧ qU.V G1 v562 a0 ∧ qx.V G1 v564 x481) ?_ ?_
   ·rintro a w ⟨T0, G560, b561, v562, v564, rfl, hG558, H559, hv563, hv565⟩
    refine qi [5] ⟨qg (m' := 575) fun I j => ?_, yp⟩
    refine qo (vs := [v562, v564]) en197 rfl (pr13_should_ok k hv563 hv565 H559 hr488) ?_
    rintro v623 w622 ⟨G619, v624, hG620, rfl, H621, hv625⟩
    refine qd (j _ _ ?_)
    refine qq (i := 6) (m' := 639) rfl (qa (.tuple #[v624, (.bool r487.2)]) rfl) B E ?_
    refine qq (i := 7) (m' := 767) rfl (qa v624 rfl) B E ?_
    refine qq (i := 8) (m' := 1023) rfl (qa (.bool r487.2) rfl) B E ?_
    exact hM577 _ _ ⟨_, _, b561, v624, qf _ ⟨rfl, rfl, rfl, rfl, rfl, rfl, rfl, rfl, rfl, rfl, yp⟩, (hG558.trans hG620), H621, hv625⟩
   intro hM557
   refine qF (fuel := 7) (m := 542) (fun a w => ∃ (T0 G1 : _) (b554 : Nat) (v555 : _), a = mk 99 (qQ T0 [(1, (.slice A1_ a1.length c1_)), (2, (.int .i64 a2)), (3, (pt b1)), (8, (.slice A228 x226.length c229)), (9, (.slice A233 x231.length c234)), (10, (.slice A238 x236.length c239)), (11, (.int .i64 x241)), (13, (pt b554)), (44, v555)]) ∧ GLe G431 G1 ∧ St c G1 w ((.box b1 29 (qU.at_ a0)) :: (.row qx g227 A228 c229 133 x226) :: (.row qx g232 A233 c234 133 x231) :: (.row qx g237 A238 c239 133 x236) :: (.box b554 133 (qx.at_ zTOpt)) :: σ) ∧ qx.V G1 v555 x481) ?_ ?_
   ·rintro a w ⟨T0, G553, b554, v555, rfl, hG551, H552, hv556⟩
    refine qi [0] ⟨qg (m' := 543) fun I j => ?_, yp⟩
    refine ql H552 (i := 0) rfl (Lens.id qU) ty29 rfl ?_
    intro v626 hv627
    refine qd (j _ _ ?_)
    exact hM557 _ _ ⟨_, _, b554, v626, v555, qf _ ⟨rfl, rfl, rfl, rfl, rfl, rfl, rfl, rfl, rfl, rfl, yp⟩, hG551, H552, hv627, hv556⟩
   intro hM550
   refine qF (fuel := 7) (m := 527) (fun a w => ∃ (T0 G1 : _) (b545 : Nat) (v546 : _) (a548 : Addr), a = mk 99 (qQ T0 [(1, (.slice A1_ a1.length c1_)), (2, (.int .i64 a2)), (3, (pt b1)), (8, (.slice A228 x226.length c229)), (9, (.slice A233 x231.length c234)), (10, (.slice A238 x236.length c239)), (11, (.int .i64 x241)), (13, (pt b545)), (40, v546), (43, (.pointer (some a548)))]) ∧ GLe G431 G1 ∧ St c G1 w ((.box b1 29 (qU.at_ a0)) :: (.row qx g227 A228 c229 133 x226) :: (.row qx g232 A233 c234 133 x231) :: (.row qx g237 A238 c239 133 x236) :: (.box b545 133 (qx.at_ zTOpt)) :: σ) ∧ qU.V G1 v546 a0 ∧ PtR qx G1 a548 x481) ?_ ?_
   ·rintro a w ⟨T0, G544, b545, v546, a548, rfl, hG542, H543, hv547, hp549⟩
    refine qi [4] ⟨qg (m' := 543) fun I j => ?_, yp⟩
    refine zH H543 hp549 zc rfl ?_
    intro v628 hv629
    refine qd (j _ _ ?_)
    exact hM557 _ _ ⟨_, _, b545, v546, v628, qf _ ⟨rfl, rfl, rfl, rfl, rfl, rfl, rfl, rfl, rfl, rfl, yp⟩, hG542, H543, hv547, hv629⟩
   intro hM541
   refine qF (fuel := 7) (m := 31) (fun a w => ∃ T0 G1 v526 v528, a = mk 99 (qQ T0 [(1, (.slice A1_ a1.length c1_)), (2, (.int .i64 a2)), (3, (pt b1)), (8, (.slice A228 x226.length c229)), (9, (.slice A233 x231.length c234)), (10, (.slice A238 x236.length c239)), (11, (.int .i64 x241)), (40, v526), (44, v528)]) ∧ GLe G431 G1 ∧ St c G1 w ((.box b1 29 (qU.at_ a0)) :: (.row qx g227 A228 c229 133 x226) :: (.row qx g232 A233 c234 133 x231) :: (.row qx g237 A238 c239 133 x236) :: σ) ∧ qU.V G1 v526 a0 ∧ qx.V G1 v528 x481) ?_ ?_
   ·rintro a w ⟨T0, G525, v526, v528, rfl, hG523, H524, hv527, hv529⟩
    refine qi [5, 9] ⟨?_, ?_, yp⟩
    ·refine qg (m' := 63) fun I j => ?_
     refine qo (vs := [v526, v528]) en197 rfl (pr13_should_ok k hv527 hv529 H524 hr488) ?_
     rintro v634 w633 ⟨G630, v635, hG631, rfl, H632, hv636⟩
     refine qd (j _ _ ?_)
     refine qq (i := 6) (m' := 127) rfl (qa (.tuple #[v635, (.bool r487.2)]) rfl) B E ?_
     refine qq (i := 7) (m' := 255) rfl (qa v635 rfl) B E ?_
     refine qq (i := 8) (m' := 511) rfl (qa (.bool r487.2) rfl) B E ?_
     refine qi [9] ⟨qg (m' := 1023) fun I j => ?_, yp⟩
     refine qP H632 xv ?_
     intro b637 w640 H638
     refine qd (j _ _ ?_)
     exact hM577 _ _ ⟨_, _, b637, v635, qf _ ⟨rfl, rfl, rfl, rfl, rfl, rfl, rfl, rfl, rfl, rfl, yp⟩, (hG523.trans hG631), (St.pk [1, 2, 3, 4, 0] 5 H638 rfl (by decide)), hv636⟩
    refine qg (m' := 543) fun I j => ?_
    refine qP H524 xv ?_
    intro b641 w644 H642
    refine qd (j _ _ ?_)
    exact hM557 _ _ ⟨_, _, b641, v526, v528, qf _ ⟨rfl, rfl, rfl, rfl, rfl, rfl, rfl, rfl, rfl, rfl, yp⟩, hG523, (St.pk [1, 2, 3, 4, 0] 5 H642 rfl (by decide)), hv527, hv529⟩
   intro hM522
   refine qq (i := 1) (m' := 2) rfl (qa (.slice A1_ a1.length c1_) rfl) B E ?_
   refine qq (i := 2) (m' := 6) rfl (qa (.int .i64 x241) rfl) B E ?_
   refine jD (i := 3) (m' := 14) rfl (qY (h1_.mono ((hG242.trans hG421).trans hG432)) zQ zc rfl rfl hx482) B E ?_
   intro a645 hp646
   refine qi [0, 4, 9] ⟨?_, ?_, ?_, yp⟩
   ·refine qg (m' := 15) fun I j => ?_
    refine ql H478 (i := 0) rfl (Lens.id qU) ty29 rfl ?_
    intro v647 hv648
    refine qd (j _ _ ?_)
    refine qi [4, 9] ⟨?_, ?_, yp⟩
    ·refine qg (m' := 31) fun I j => ?_
     refine zH H478 hp646 zc rfl ?_
     intro v649 hv650
     refine qd (j _ _ ?_)
     exact hM522 _ _ ⟨_, _, v647, v649, qf _ ⟨rfl, rfl, rfl, rfl, rfl, rfl, rfl, rfl, rfl, yp⟩, GLe.refl _, H478, hv648, hv650⟩
    refine qg (m' := 527) fun I j => ?_
    refine qP H478 xv ?_
    intro b651 w654 H652
    refine qd (j _ _ ?_)
    exact hM541 _ _ ⟨_, _, b651, v647, a645, qf _ ⟨rfl, rfl, rfl, rfl, rfl, rfl, rfl, rfl, rfl, rfl, yp⟩, GLe.refl _, (St.pk [1, 2, 3, 4, 0] 5 H652 rfl (by decide)), hv648, hp646⟩
   ·refine qg (m' := 30) fun I j => ?_
    refine zH H478 hp646 zc rfl ?_
    intro v655 hv656
    refine qd (j _ _ ?_)
    refine qi [0, 9] ⟨?_, ?_, yp⟩
    ·refine qg (m' := 31) fun I j => ?_
     refine ql H478 (i := 0) rfl (Lens.id qU) ty29 rfl ?_
     intro v657 hv658
     refine qd (j _ _ ?_)
     exact hM522 _ _ ⟨_, _, v657, v655, qf _ ⟨rfl, rfl, rfl, rfl, rfl, rfl, rfl, rfl, rfl, yp⟩, GLe.refl _, H478, hv658, hv656⟩
    refine qg (m' := 542) fun I j => ?_
    refine qP H478 xv ?_
    intro b659 w662 H660
    refine qd (j _ _ ?_)
    exact hM550 _ _ ⟨_, _, b659, v655, qf _ ⟨rfl, rfl, rfl, rfl, rfl, rfl, rfl, rfl, rfl, yp⟩, GLe.refl _, (St.pk [1, 2, 3, 4, 0] 5 H660 rfl (by decide)), hv656⟩
   refine qg (m' := 526) fun I j => ?_
   refine qP H478 xv ?_
   intro b663 w666 H664
   refine qd (j _ _ ?_)
   refine qi [0, 4] ⟨?_, ?_, yp⟩
   ·refine qg (m' := 527) fun I j => ?_
    refine ql H664 (i := 1) rfl (Lens.id qU) ty29 rfl ?_
    intro v667 hv668
    refine qd (j _ _ ?_)
    exact hM541 _ _ ⟨_, _, b663, v667, a645, qf _ ⟨rfl, rfl, rfl, rfl, rfl, rfl, rfl, rfl, rfl, rfl, yp⟩, GLe.refl _, (St.pk [1, 2, 3, 4, 0] 5 H664 rfl (by decide)), hv668, hp646⟩
   refine qg (m' := 542) fun I j => ?_
   refine zH H664 hp646 zc rfl ?_
   intro v669 hv670
   refine qd (j _ _ ?_)
   exact hM550 _ _ ⟨_, _, b663, v669, qf _ ⟨rfl, rfl, rfl, rfl, rfl, rfl, rfl, rfl, rfl, yp⟩, GLe.refl _, (St.pk [1, 2, 3, 4, 0] 5 H664 rfl (by decide)), hv670⟩
  intro hM420
  refine qq (i := 0) (m' := 1) rfl (qh fo29_0 rfl) B E ?_
  refine qq (i := 2) (m' := 5) rfl (qa (.slice A1_ a1.length c1_) rfl) B E ?_
  refine qq (i := 3) (m' := 13) rfl (qa (.int .i64 x241) rfl) B E ?_
  refine jD (i := 4) (m' := 29) rfl (qY (h1_.mono hG242) zQ zc rfl rfl hx402) B E ?_
  intro a671 hp672
  refine qi [1, 5] ⟨?_, ?_, yp⟩
  ·refine qg (m' := 31) fun I j => ?_
   refine qp H400 (i := 3) rfl xO dBool ty4 rfl (qd (j _ _ ?_))
   refine qi [5] ⟨qg (m' := 63) fun I j => ?_, yp⟩
   refine zH H400 hp672 zc rfl ?_
   intro v673 hv674
   refine qd (j _ _ ?_)
   exact hM420 _ _ ⟨_, _, v673, qf _ ⟨rfl, rfl, rfl, rfl, rfl, rfl, rfl, rfl, rfl, yp⟩, GLe.refl _, (St.pk [3, 0, 1, 2] 4 H400 rfl (by decide)), hv674⟩
  refine qg (m' := 61) fun I j => ?_
  refine zH H400 hp672 zc rfl ?_
  intro v675 hv676
  refine qd (j _ _ ?_)
  refine qi [1] ⟨qg (m' := 63) fun I j => ?_, yp⟩
  refine qp H400 (i := 3) rfl xO dBool ty4 rfl (qd (j _ _ ?_))
  exact hM420 _ _ ⟨_, _, v675, qf _ ⟨rfl, rfl, rfl, rfl, rfl, rfl, rfl, rfl, rfl, yp⟩, GLe.refl _, (St.pk [3, 0, 1, 2] 4 H400 rfl (by decide)), hv676⟩
 replace b := ifF b hb246
 refine qn (vb hb246) ?_
 refine wp_exit ?_
 iterate 2 refine xB ?_
 replace b := jJ b hy5
 refine blk_e ?_
 refine qe (wp_seq (wp_seq (qc (qb (qa (.slice A228 x226.length c229) rfl) (qb (zb zQ rfl) (qb (qa (.bool (decide ((x226.length : Int) > 0))) rfl) (qd (qe ?_))))))))
 rcases qm (decide ((x226.length : Int) > 0)) with hb677 | hb677
 ·replace b := ifT b hb677
  refine qs (vb hb677) (wp_seq (qc (qb (qa (.slice A228 x226.length c229) rfl) (qb (qa (.int .u8 4) rfl) (qb (qa (.slice A228 x226.length c229) rfl) (qd (qe (wp_ret (qI ?_)))))))))
  obtain ⟨G678, hG679, H680, hs681⟩ := H243.stay (i := 0) rfl (H243.capA (i := 0) rfl)
  have b := yq b
  subst b
  exact qt rfl (RV.tmp rfl (RV.tmp rfl RV.nil)) ⟨_, A228, c229, (hG242.trans hG679), rfl, (St.pk [] 3 H680 rfl (by decide)), hs681⟩
 replace b := ifF b hb677
 refine qn (vb hb677) (wp_skip (qe (wp_seq ?_)))
 refine wp_seq (join (fun a w => ∃ (T0 G1 : _) (x683 : (List TOpt)) (x687 : (List TOpt)) (x692 : Bool) (A684 c685 g688 A689 c690 : _), a = mk 99 (qQ T0 [(1, (.slice A1_ a1.length c1_)), (2, (.int .i64 a2)), (3, (pt b1)), (9, (.slice A684 x683.length c685)), (10, (.slice A689 x687.length c690)), (70, (.bool x692))]) ∧ GLe G245 G1 ∧ St c G1 w ((.row qx g688 A689 c690 133 x687) :: (.box b1 29 (qU.at_ a0)) :: σ) ∧ SlR qx G1 A684 c685 x683 ∧ xP a0 a1 a2 x683 x687 x692 = some r) ?_ ?_)
 ·rintro a w ⟨T0, G695, x683, x687, x692, A684, c685, g688, A689, c690, rfl, hG693, H694, hs686, b⟩
  rcases qm x692 with hb696 | hb696
  ·replace b := ifT b hb696
   refine qs (vb hb696) (wp_seq (qc (qb (qa (.slice A684 x683.length c685) rfl) (qb (qa (.int .u8 4) rfl) (qb (qa (.slice A684 x683.length c685) rfl) (qd (qe (wp_ret (qI ?_)))))))))
   have b := yq b
   subst b
   exact qt rfl (RV.tmp rfl (RV.tmp rfl RV.nil)) ⟨_, A684, c685, (hG242.trans hG693), rfl, (St.pk [] 2 H694 rfl (by decide)), hs686⟩
  replace b := ifF b hb696
  refine qn (vb hb696) (wp_skip (qe (wp_seq (qc (qb (qa (.slice A1_ a1.length c1_) rfl) ?_)))))
  obtain ⟨r697, hr698, b⟩ := qu b
  refine qo (vs := [(.slice A1_ a1.length c1_)]) en198 rfl (pr13_Address_ok k (h1_.mono (hG242.trans hG693)) H694 hr698) ?_
  rintro v703 w702 ⟨G699, hG700, rfl, H701⟩
  refine qb (qa (.tuple #[(.int .u32 r697.1), (.bool r697.2)]) rfl) (qb (qa (.int .u32 r697.1) rfl) (qb (qa (.bool r697.2) rfl) (qb (qa (.int .u32 r697.1) rfl) (qb (qa (.bool r697.2) rfl) (qd (qe ?_))))))
  refine wp_seq (join (fun a w => ∃ (T0 G1 : _) (x740 : (List TOpt)) (A741 c742 : _), a = mk 99 (qQ T0 [(1, (.slice A1_ a1.length c1_)), (2, (.int .i64 a2)), (10, (.slice A741 x740.length c742))]) ∧ GLe G699 G1 ∧ St c G1 w (σ) ∧ SlR qx G1 A741 c742 x740 ∧ xR a1 a2 x740 = some r) ?_ ?_)
  ·rintro a w ⟨T0, G746, x740, A741, c742, rfl, hG744, H745, hs743, b⟩
   refine wp_seq ?_
   refine wp_seq (join (fun a w => ∃ (T0 G1 : _) (x748 : Bool), a = mk 99 (qQ T0 [(1, (.slice A1_ a1.length c1_)), (10, (.slice A741 x740.length c742)), (96, (.bool x748))]) ∧ GLe G746 G1 ∧ St c G1 w (σ) ∧ pr13_Answer_j5 a1 x740 x748 = some r) ?_ ?_)
   ·rintro a w ⟨T0, G751, x748, rfl, hG749, H750, b⟩
    rcases qm x748 with hb752 | hb752
    ·replace b := ifT b hb752
     refine qs (vb hb752) (wp_seq (qc (qb (qa (.slice A741 x740.length c742) rfl) (qb (qa (.int .u8 3) rfl) (qb (qa (.slice A741 x740.length c742) rfl) (qd (qe (wp_ret (qI ?_)))))))))
     have b := yq b
     subst b
     exact qt rfl (RV.tmp rfl (RV.tmp rfl RV.nil)) ⟨_, A741, c742, ((((hG242.trans hG693).trans hG700).trans hG744).trans hG749), rfl, H750, (hs743.mono hG749)⟩
    replace b := ifF b hb752
    refine qn (vb hb752) (wp_skip (qe (wp_seq (qc (qb (qa (.slice A1_ a1.length c1_) rfl) (qb (qa (.int .u8 2) rfl) (qb (qa (.slice A1_ a1.length c1_) rfl) (qd (qe (wp_ret ?_))))))))))
    have b := yq b
    subst b
    exact qt rfl (RV.tmp rfl (RV.tmp rfl RV.nil)) ⟨_, A1_, c1_, ((((hG242.trans hG693).trans hG700).trans hG744).trans hG749), rfl, H750, (h1_.mono ((((hG242.trans hG693).trans hG700).trans hG744).trans hG749))⟩
   refine qc (qb (qa (.int .i64 a2) rfl) ?_)
   iterate 2 refine qb (qa (.bool (decide (a2 < 3))) rfl) ?_
   rcases qm (decide (a2 < 3)) with hb753 | hb753
   ·replace b := ifT b hb753
    refine qj rfl rfl rfl (vb hb753) (qb (qa (.slice A741 x740.length c742) rfl) (qj rfl rfl rfl (vb hb753) (qb (zb zQ rfl) (qj rfl rfl rfl (vb hb753) (qb (qa (.bool (decide ((x740.length : Int) > 0))) rfl) (qb (qB (.bool (decide ((x740.length : Int) > 0))) (vb hb753) rfl) (qd (qe ?_))))))))
    exact ⟨_, _, (decide ((x740.length : Int) > 0)), qf _ ⟨rfl, rfl, rfl, yp⟩, GLe.refl _, H745, b⟩
   replace b := ifF b hb753
   iterate 3 refine qJ rfl rfl rfl (vb hb753) ?_
   refine qb (qr (.bool false) (vb hb753) rfl) (qd (qe ?_))
   exact ⟨_, _, false, qf _ ⟨rfl, rfl, rfl, yp⟩, GLe.refl _, H745, b⟩
  refine wp_seq (join (fun a w => ∃ (T0 G1 : _) (x755 : (List TOpt)) (x760 : Bool) (g756 A757 c758 : _), a = mk 99 (qQ T0 [(1, (.slice A1_ a1.length c1_)), (2, (.int .i64 a2)), (3, (pt b1)), (10, (.slice A757 x755.length c758)), (82, (.bool x760))]) ∧ GLe G699 G1 ∧ St c G1 w ((.row qx g756 A757 c758 133 x755) :: (.box b1 29 (qU.at_ a0)) :: σ) ∧ pr13_Answer_j6 a0 a1 a2 x755 x760 = some r) ?_ ?_)
  ·rintro a w ⟨T0, G763, x755, x760, g756, A757, c758, rfl, hG761, H762, b⟩
   rcases qm x760 with hb764 | hb764
   ·replace b := ifT b hb764
    refine qs (vb hb764) (qc (qb (qa (.slice A757 x755.length c758) rfl) (qb (qh fo29_3 rfl) (qp H762 (i := 1) rfl lTRule_Addr (qz .u32) ty27 rfl ?_))))
    obtain ⟨r765, hr766, b⟩ := qu b
    refine qo (vs := [(.int .u32 a0.Addr)]) en89 rfl (zY k H762 hr766) ?_
    rintro v771 w770 ⟨G767, g772, A773, c774, hG768, rfl, H769⟩
    obtain ⟨G776, hG777, H778, hs779⟩ := H769.stay (i := 0) rfl (H769.capA (i := 0) rfl)
    refine qR (qT (G := G776) xv rfl bs133 rfl (Parts.cons jc qX ((qz .u8).toV _ _) (Parts.cons jp qZ (zw hs779) (Parts.nil _)))) ?_
    intro v780 hv781
    refine zh (K := qx) (vs := [v780]) (xs := ([(TOpt.mk 3 r765)] : (List TOpt))) H778 zQ el133 rfl ⟨hv781, yp⟩ rfl (by decide) ?_
    intro g782 w784 H783
    obtain ⟨r786, hr787, b⟩ := qu b
    refine zB H783 zQ el133 (i := 1) rfl rfl rfl ((H783.okAt (i := 0) rfl).src) hr787 ?_
    intro g788 A789 c790 w791 H792
    refine qb (qa (.slice A789 r786.length c790) rfl) (qd ?_)
    obtain ⟨G793, hG794, H795, hs796⟩ := H792.stay (i := 1) rfl (H792.capA (i := 1) rfl)
    refine qe ?_
    exact ⟨_, _, r786, A789, c790, qf _ ⟨rfl, rfl, rfl, yp⟩, (((hG761.trans hG768).trans hG777).trans hG794), (St.pk [] 2 H795 rfl (by decide)), hs796, b⟩
   replace b := ifF b hb764
   refine qn (vb hb764) (wp_skip ?_)
   obtain ⟨G797, hG798, H799, hs800⟩ := H762.stay (i := 0) rfl (H762.capA (i := 0) rfl)
   refine qe ?_
   exact ⟨_, _, x755, A757, c758, qf _ ⟨rfl, rfl, rfl, yp⟩, (hG761.trans hG798), (St.pk [] 1 H799 rfl (by decide)), hs800, b⟩
  refine qc (qb (qh fo29_0 rfl) (qp H701 (i := 1) rfl xO dBool ty4 rfl (qb (qa (.bool a0.Ip) rfl) ?_)))
  rcases qm a0.Ip with hb801 | hb801
  ·replace b := ifT b hb801
   refine qj rfl rfl rfl (vb hb801) (qb (qa (.bool r697.2) rfl) (qj rfl rfl rfl (vb hb801) (qb (qa (.bool (!r697.2)) rfl) (qb (qB (.bool (!r697.2)) (vb hb801) rfl) (qd (qe ?_))))))
   exact ⟨_, _, x687, (!r697.2), g688, A689, c690, qf _ ⟨rfl, rfl, rfl, rfl, rfl, yp⟩, GLe.refl _, H701, b⟩
  replace b := ifF b hb801
  iterate 2 refine qJ rfl rfl rfl (vb hb801) ?_
  refine qb (qr (.bool false) (vb hb801) rfl) (qd (qe ?_))
  exact ⟨_, _, x687, false, g688, A689, c690, qf _ ⟨rfl, rfl, rfl, rfl, rfl, yp⟩, GLe.refl _, H701, b⟩
 refine qc (qb (qa (.int .i64 a2) rfl) ?_)
 iterate 2 refine qb (qa (.bool (decide (a2 ≥ 3))) rfl) ?_
 rcases qm (decide (a2 ≥ 3)) with hb802 | hb802
 ·replace b := ifT b hb802
  refine qj rfl rfl rfl (vb hb802) (qb (qa (.slice A233 x231.length c234) rfl) (qj rfl rfl rfl (vb hb802) (qb (zb zQ rfl) (qj rfl rfl rfl (vb hb802) (qb (qa (.bool (decide ((x231.length : Int) > 0))) rfl) (qb (qB (.bool (decide ((x231.length : Int) > 0))) (vb hb802) rfl) (qd ?_)))))))
  obtain ⟨G803, hG804, H805, hs806⟩ := H243.stay (i := 1) rfl (H243.capA (i := 1) rfl)
  refine qe ?_
  exact ⟨_, _, x231, x236, (decide ((x231.length : Int) > 0)), A233, c234, g237, A238, c239, qf _ ⟨rfl, rfl, rfl, rfl, rfl, rfl, yp⟩, hG804, (St.pk [1, 2] 3 H805 rfl (by decide)), hs806, b⟩
 replace b := ifF b hb802
 iterate 3 refine qJ rfl rfl rfl (vb hb802) ?_
 refine qb (qr (.bool false) (vb hb802) rfl) (qd ?_)
 obtain ⟨G807, hG808, H809, hs810⟩ := H243.stay (i := 1) rfl (H243.capA (i := 1) rfl)
 refine qe ?_
 exact ⟨_, _, x231, x236, false, A233, c234, g237, A238, c239, qf _ ⟨rfl, rfl, rfl, rfl, rfl, rfl, yp⟩, hG808, (St.pk [1, 2] 3 H809 rfl (by decide)), hs810, b⟩

theorem pr14_request_ok {c : World} (k : Hc c) {G : qk} {w : World} {σ : List Ent} {a0 : TNego} {v0_ : Value} {a1 : TPkt} {v1_ : Value} (h0_ : qv.V G v0_ a0) (h1_ : qC.V G v1_ a1) (H : St c G w (σ)) {r : Tref14_Out} (b : yk a0 a1 = some r) :
  Calls Tryz.prog 87 ([v0_, v1_] : List Value).toArray w (zu fun v w' => ∃ (G' : qk) (v1' : Value), GLe G G' ∧ tup [v1'] = v ∧ St c G' w' (σ) ∧ qE.V G' v1' r) := by
 unfold yk at b
 refine qG Tryz.func87 rfl rfl rfl (wp_seq (qc ?_))
 refine zp (K := qv) (x := a0) H rfl h0_ ?_
 intro b1 w4 H2
 refine zp (K := qC) (x := a1) H2 rfl h1_ ?_
 intro b5 w8 H6
 refine qP H6 zr78 ?_
 intro b9 w12 H10
 refine qd (qe (wp_seq (qc (qb (qh xG rfl) ?_))))
 refine ql H10 (i := 1) rfl zm jy rfl ?_
 intro v13 hv14
 obtain ⟨A15, c16, rfl, hs17⟩ := qN hv14
 obtain ⟨r18, hr19, b⟩ := qu b
 refine qo (vs := [(.slice A15 a1.Data.length c16)]) en153 rfl (pr10_Read_ok k hs17 H10 hr19) ?_
 rintro v24 w23 ⟨G20, A25, c26, hG21, rfl, H22, hs27⟩
 refine qb (qa (.tuple #[(.slice A25 r18.1.length c26), (.int .i64 r18.2)]) rfl) (qb (qa (.slice A25 r18.1.length c26) rfl) (qb (qa (.int .i64 r18.2) rfl) (qb (qa (.slice A25 r18.1.length c26) rfl) (qb (qa (.int .i64 r18.2) rfl) (qd (qe (wp_seq (wp_seq (qc (qb (qa (.int .i64 r18.2) rfl) (qb (qa (.bool (r18.2 != 0)) rfl) ?_)))))))))))
 refine qd (qe ?_)
 rcases qm (r18.2 != 0) with hb28 | hb28
 ·replace b := ifT b hb28
  refine qs (vb hb28) (wp_seq (qc ?_))
  refine ql H22 (i := 2) rfl (Lens.id qv) zG rfl ?_
  intro v29 hv30
  refine qR (qT (G := G20) zr78 rfl bs78 rfl (Parts.cons fo78_0 jU hv30 (Parts.nil _))) ?_
  intro v31 hv32
  refine qy (z := (Tref14_Out.mk a0 qD.Sent qD.Told qD.L)) H22 (i := 0) rfl (Lens.id qE) yn rfl rfl hv32 ?_
  intro w34 H33
  refine qd (qe (wp_ret (qI ?_)))
  obtain ⟨v35, hv36, hl37⟩ := H33.loadv (i := 0) rfl yn
  have b := yq b
  subst b
  exact qt rfl (RV.cell rfl hl37 RV.nil) ⟨_, v35, hG21, rfl, (St.pk [] 3 H33 rfl (by decide)), hv36⟩
 replace b := ifF b hb28
 refine qn (vb hb28) (wp_skip (qe ?_))
 refine wp_seq (join (fun a w => ∃ (T0 G1 : _) (x41 : TNego), a = mk 81 (qQ T0 [(2, (pt b1)), (3, (pt b5)), (4, (pt b9)), (5, (.slice A25 r18.1.length c26))]) ∧ GLe G20 G1 ∧ St c G1 w ((.box b9 78 (qE.at_ qD)) :: (.box b5 46 (qC.at_ a1)) :: (.box b1 32 (qv.at_ x41)) :: σ) ∧ xy a1 r18 x41 = some r) ?_ ?_)
 ·rintro a w ⟨T0, G44, x41, rfl, hG42, H43, b⟩
  refine wp_seq (qc (qb (qh fo32_1 rfl) ?_))
  refine ql H43 (i := 2) rfl ym ty29 rfl ?_
  intro v45 hv46
  refine qb (qa (.slice A25 r18.1.length c26) rfl) (qb (qh fo32_3 rfl) (qp H43 (i := 2) rfl jb (qz .i64) ty3 rfl ?_))
  obtain ⟨r47, hr48, b⟩ := qu b
  refine qo (vs := [v45, (.slice A25 r18.1.length c26), (.int .i64 x41.Naks)]) en154 rfl (pr13_Answer_ok k hv46 (hs27.mono hG42) H43 hr48) ?_
  rintro v53 w52 ⟨G49, A54, c55, hG50, rfl, H51, hs56⟩
  refine qb (qa (.tuple #[(.int .u8 r47.1), (.slice A54 r47.2.length c55)]) rfl) (qb (qa (.int .u8 r47.1) rfl) (qb (qa (.slice A54 r47.2.length c55) rfl) (qb (qa (.int .u8 r47.1) rfl) (qb (qa (.slice A54 r47.2.length c55) rfl) (qd (qe (wp_seq (qc (qb (qa (.slice A54 r47.2.length c55) rfl) ?_)))))))))
  obtain ⟨r57, hr58, b⟩ := qu b
  refine qo (vs := [(.slice A54 r47.2.length c55)]) en73 rfl (pr10_Bytes_ok k hs56 H51 hr58) ?_
  rintro v63 w62 ⟨G59, A64, c65, hG60, rfl, H61, hs66⟩
  refine qb (qa (.tuple #[(.slice A64 r57.1.length c65), (.int .i64 r57.2)]) rfl) (qb (qa (.slice A64 r57.1.length c65) rfl) (qb (qa (.int .i64 r57.2) rfl) (qb (qa (.slice A64 r57.1.length c65) rfl) (qb (qa (.int .i64 r57.2) rfl) (qd (qe (wp_seq (qc (qb (qa (.int .i64 7) rfl) (qd (qe ?_)))))))))))
  refine wp_seq (join (fun a w => ∃ (T0 G1 : _) (x68 : Int), a = mk 81 (qQ T0 [(2, (pt b1)), (3, (pt b5)), (4, (pt b9)), (5, (.slice A25 r18.1.length c26)), (7, (.int .u8 r47.1)), (9, (.slice A64 r57.1.length c65)), (11, (.int .i64 x68))]) ∧ GLe G59 G1 ∧ St c G1 w ((.box b9 78 (qE.at_ qD)) :: (.box b5 46 (qC.at_ a1)) :: (.box b1 32 (qv.at_ x41)) :: σ) ∧ xx a1 r18 x41 r47 r57 x68 = some r) ?_ ?_)
  ·rintro a w ⟨T0, G71, x68, rfl, hG69, H70, b⟩
   refine wp_seq (qc ?_)
   refine ql H70 (i := 2) rfl (Lens.id qv) zG rfl ?_
   intro v72 hv73
   refine qb (qa (.int .i64 x68) rfl) (qb (qa (.int .u8 r47.1) rfl) (qb (qh jw rfl) (qp H70 (i := 1) rfl zf (qz .u8) ty5 rfl (qb (qa (.slice A64 r57.1.length c65) rfl) ?_))))
   refine qR (qT (G := G71) zr46 rfl bs46 rfl (Parts.cons jO qW ((qz .u8).toV _ _) (Parts.cons jw zf ((qz .u8).toV _ _) (Parts.cons xG zm (zw (hs66.mono hG69)) (Parts.nil _))))) ?_
   intro v74 hv75
   refine qb (qh jw rfl) (qp H70 (i := 1) rfl zf (qz .u8) ty5 rfl ?_)
   obtain ⟨r76, hr77, b⟩ := qu b
   refine qo (vs := [v72, (.int .i64 x68), v74, (.int .u8 a1.Id)]) en83 rfl (zt k hv73 hv75 H70 hr77) ?_
   rintro v82 w81 ⟨G78, v83, hG79, rfl, H80, hv84⟩
   refine qP H80 zr78 ?_
   intro b85 w88 H86
   refine qy (z := r76) H86 (i := 0) rfl (Lens.id qE) yn rfl rfl hv84 ?_
   intro w90 H89
   refine qd (qe (wp_seq (qc (qb (qh fo78_3 rfl) ?_))))
   refine ql H89 (i := 0) rfl lTref14_Out_L ty44 rfl ?_
   intro v91 hv92
   obtain ⟨A93, c94, rfl, hs95⟩ := qN hv92
   obtain ⟨r96, hr97, b⟩ := qu b
   refine qo (vs := [(.slice A93 r76.L.length c94), (.int .i64 8)]) en150 rfl (pr11_Has_ok k hs95 H89 hr97) ?_
   rintro v102 w101 ⟨G98, hG99, rfl, H100⟩
   refine qb (qa (.bool r96) rfl) (qd (qe (wp_seq (qc (qb (qh fo78_3 rfl) ?_)))))
   refine ql H100 (i := 0) rfl lTref14_Out_L ty44 rfl ?_
   intro v103 hv104
   obtain ⟨A105, c106, rfl, hs107⟩ := qN hv104
   obtain ⟨r108, hr109, b⟩ := qu b
   refine qo (vs := [(.slice A105 r76.L.length c106), (.int .i64 9)]) en150 rfl (pr11_Has_ok k hs107 H100 hr109) ?_
   rintro v114 w113 ⟨G110, hG111, rfl, H112⟩
   refine qb (qa (.bool r108) rfl) (qd (qe ?_))
   refine wp_seq (join (fun a w => ∃ (T0 G1 : _) (x120 : Tref14_Out), a = mk 81 (qQ T0 [(4, (pt b9)), (7, (.int .u8 r47.1)), (12, (pt b85)), (14, (.bool r108))]) ∧ GLe G110 G1 ∧ St c G1 w ((.box b85 78 (qE.at_ x120)) :: (.box b9 78 (qE.at_ qD)) :: σ) ∧ xw r47 r108 x120 = some r) ?_ ?_)
   ·rintro a w ⟨T0, G123, x120, rfl, hG121, H122, b⟩
    refine wp_seq ?_
    refine wp_seq (join (fun a w => ∃ (T0 G1 : _) (x125 : Bool), a = mk 81 (qQ T0 [(4, (pt b9)), (12, (pt b85)), (72, (.bool x125))]) ∧ GLe G123 G1 ∧ St c G1 w ((.box b85 78 (qE.at_ x120)) :: (.box b9 78 (qE.at_ qD)) :: σ) ∧ xz x120 x125 = some r) ?_ ?_)
    ·rintro a w ⟨T0, G128, x125, rfl, hG126, H127, b⟩
     rcases qm x125 with hb129 | hb129
     ·replace b := ifT b hb129
      refine qs (vb hb129) (qc (qb (qh fo78_0 rfl) (qb (qh fo32_3 rfl) (qp H127 (i := 0) rfl (Lens.then jU jb) (qz .i64) ty3 rfl (qb (qa (.int .i64 (IntKind.i64.wrap (x120.N.Naks + 1))) rfl) (qb (rn_min rfl rfl) (qb (qh fo78_0 rfl) (qb (qh fo32_3 rfl) ?_))))))))
      refine qy (z := (if (IntKind.i64.wrap (x120.N.Naks + 1)) < 3 then (IntKind.i64.wrap (x120.N.Naks + 1)) else 3)) H127 (i := 0) rfl (Lens.then jU jb) ty3 rfl rfl ((qz .i64).toV _ _) ?_
      intro w131 H130
      refine qd (qe (wp_seq (qc ?_)))
      refine ql H130 (i := 0) rfl (Lens.id qE) yn rfl ?_
      intro v132 hv133
      refine qy (z := (Tref14_Out.mk (TNego.mk x120.N.A x120.N.R x120.N.Ours (if (IntKind.i64.wrap (x120.N.Naks + 1)) < 3 then (IntKind.i64.wrap (x120.N.Naks + 1)) else 3) x120.N.Peer) x120.Sent x120.Told x120.L)) H130 (i := 1) rfl (Lens.id qE) yn rfl rfl hv133 ?_
      intro w135 H134
      refine qd (qe (wp_ret ?_))
      obtain ⟨v136, hv137, hl138⟩ := H134.loadv (i := 1) rfl yn
      have b := yq b
      subst b
      exact qt rfl (RV.cell rfl hl138 RV.nil) ⟨_, v136, (((((((((hG21.trans hG42).trans hG50).trans hG60).trans hG69).trans hG79).trans hG99).trans hG111).trans hG121).trans hG126), rfl, (St.pk [] 2 H134 rfl (by decide)), hv137⟩
     replace b := ifF b hb129
     refine qn (vb hb129) (wp_skip (qe (wp_seq (qc ?_))))
     refine ql H127 (i := 0) rfl (Lens.id qE) yn rfl ?_
     intro v139 hv140
     refine qy (z := x120) H127 (i := 1) rfl (Lens.id qE) yn rfl rfl hv140 ?_
     intro w142 H141
     refine qd (qe (wp_ret ?_))
     obtain ⟨v143, hv144, hl145⟩ := H141.loadv (i := 1) rfl yn
     have b := yq b
     subst b
     exact qt rfl (RV.cell rfl hl145 RV.nil) ⟨_, v143, (((((((((hG21.trans hG42).trans hG50).trans hG60).trans hG69).trans hG79).trans hG99).trans hG111).trans hG121).trans hG126), rfl, (St.pk [] 2 H141 rfl (by decide)), hv144⟩
    refine qc ?_
    iterate 2 refine qb (qa (.bool r108) rfl) ?_
    rcases qm r108 with hb146 | hb146
    ·replace b := ifT b hb146
     refine qj rfl rfl rfl (vb hb146) (qb (qa (.int .u8 r47.1) rfl) (qj rfl rfl rfl (vb hb146) (qb (qa (.bool (r47.1 == 3)) rfl) (qb (qB (.bool (r47.1 == 3)) (vb hb146) rfl) (qd (qe ?_))))))
     exact ⟨_, _, (r47.1 == 3), qf _ ⟨rfl, rfl, rfl, yp⟩, GLe.refl _, H122, b⟩
    replace b := ifF b hb146
    iterate 2 refine qJ rfl rfl rfl (vb hb146) ?_
    refine qb (qr (.bool false) (vb hb146) rfl) (qd (qe ?_))
    exact ⟨_, _, false, qf _ ⟨rfl, rfl, rfl, yp⟩, GLe.refl _, H122, b⟩
   refine wp_seq (qc (qb (qa (.bool r96) rfl) (qd (qe ?_))))
   rcases qm r96 with hb147 | hb147
   ·replace b := ifT b hb147
    refine qs (vb hb147) (wp_seq (qc (qb (qh fo78_0 rfl) (qb (qh fo32_3 rfl) ?_))))
    refine qy (z := 0) H112 (i := 0) rfl (Lens.then jU jb) ty3 rfl rfl ((qz .i64).toV _ _) ?_
    intro w149 H148
    refine qd (qe (qc (qb (qa (.slice A25 r18.1.length c26) rfl) (qb (qh fo78_0 rfl) (qb (qh fo32_4 rfl) ?_)))))
    refine qy (z := r18.1) H148 (i := 0) rfl (Lens.then jU lTNego_Peer) ty30 rfl rfl (zw (hs27.mono ((((((hG42.trans hG50).trans hG60).trans hG69).trans hG79).trans hG99).trans hG111))) ?_
    intro w151 H150
    refine qd (qe ?_)
    exact ⟨_, _, (Tref14_Out.mk (TNego.mk r76.N.A r76.N.R r76.N.Ours 0 r18.1) r76.Sent r76.Told r76.L), qf _ ⟨rfl, rfl, rfl, rfl, yp⟩, GLe.refl _, (St.pk [0, 1] 4 H150 rfl (by decide)), b⟩
   replace b := ifF b hb147
   refine qn (vb hb147) (wp_skip (qe ?_))
   exact ⟨_, _, r76, qf _ ⟨rfl, rfl, rfl, rfl, yp⟩, GLe.refl _, (St.pk [0, 1] 4 H112 rfl (by decide)), b⟩
  refine wp_seq (qc (qb (qa (.int .u8 r47.1) rfl) (qb (qa (.bool (r47.1 == 2)) rfl) (qd (qe ?_)))))
  rcases qm (r47.1 == 2) with hb152 | hb152
  ·replace b := ifT b hb152
   refine qs (vb hb152) (qc (qb (qa (.int .i64 6) rfl) (qd (qe ?_))))
   exact ⟨_, _, 6, qf _ ⟨rfl, rfl, rfl, rfl, rfl, rfl, rfl, yp⟩, GLe.refl _, H61, b⟩
  replace b := ifF b hb152
  refine qn (vb hb152) (wp_skip (qe ?_))
  exact ⟨_, _, 7, qf _ ⟨rfl, rfl, rfl, rfl, rfl, rfl, rfl, yp⟩, GLe.refl _, H61, b⟩
 refine wp_seq (qc (qb (qh xe rfl) (qb (qh fo26_0 rfl) (qp H22 (i := 2) rfl (Lens.then zq zZ) (qz .i64) ty3 rfl (qb (qa (.bool (a0.A.State == 3)) rfl) (qd (qe ?_)))))))
 rcases qm (a0.A.State == 3) with hb153 | hb153
 ·replace b := ifT b hb153
  refine qs (vb hb153) (qc (qb (qh fo32_3 rfl) ?_))
  refine qy (z := 0) H22 (i := 2) rfl jb ty3 rfl rfl ((qz .i64).toV _ _) ?_
  intro w155 H154
  refine qd (qe ?_)
  exact ⟨_, _, (TNego.mk a0.A a0.R a0.Ours 0 a0.Peer), qf _ ⟨rfl, rfl, rfl, rfl, yp⟩, GLe.refl _, H154, b⟩
 replace b := ifF b hb153
 refine qn (vb hb153) (wp_skip (qe ?_))
 exact ⟨_, _, a0, qf _ ⟨rfl, rfl, rfl, rfl, yp⟩, GLe.refl _, H22, b⟩

theorem pr10_Find_ok {c : World} (k : Hc c) {G : qk} {w : World} {σ : List Ent} {a0 : (List TOpt)} {A0_ : Option Addr} {c0_ : Nat} {a1 : Int} (h0_ : SlR qx G A0_ c0_ a0) (H : St c G w (σ)) {r : (TOpt × Bool)} (b : jE a0 a1 = some r) :
  Calls Tryz.prog 156 ([(.slice A0_ a0.length c0_), (.int .u8 a1)] : List Value).toArray w (zu fun v w' => ∃ (G' : qk) (v1' : Value), GLe G G' ∧ tup [v1', (.bool r.2)] = v ∧ St c G' w' (σ) ∧ qx.V G' v1' r.1) := by
 unfold jE at b
 refine qG Tryz.func156 rfl rfl rfl (wp_seq (qc ?_))
 refine qP H xv ?_
 intro b1 w4 H2
 refine qb (qa (.bool false) rfl) (qd (qe (wp_seq (wp_seq (qc (qb (qa (.int .i64 0) rfl) (qd (qe (wp_block ?_)))))))))
 refine ja (fun (s : Int) a w => ∃ (T0 : Fr) (G1 : qk), a = mk 25 (qQ T0 [(0, (.slice A0_ a0.length c0_)), (1, (.int .u8 a1)), (4, (pt b1)), (6, (.int .i64 s))]) ∧ GLe G G1 ∧ St c G1 w ((.box b1 133 (qx.at_ zTOpt)) :: σ)) b ?_ ?_
 ·exact ⟨_, _, qf _ ⟨rfl, rfl, rfl, rfl, yp⟩, GLe.refl _, H2⟩
 rintro x31 a w y34 ⟨T0, G35, rfl, hG32, H33⟩ b hy5
 refine wp_seq (wp_seq (qc (qb (qa (.int .i64 x31) rfl) (qb (qa (.slice A0_ a0.length c0_) rfl) (qb (zb zQ rfl) (qb (qa (.bool (decide (x31 < (a0.length : Int)))) rfl) (qd (qe ?_))))))))
 rcases qm (decide (x31 < (a0.length : Int))) with hb36 | hb36
 ·replace b := ifT b hb36
  refine qs (vb hb36) (wp_skip (qe (wp_seq (wp_block (wp_seq (qc (qb (qa (.slice A0_ a0.length c0_) rfl) (qb (qa (.int .i64 x31) rfl) ?_))))))))
  obtain ⟨x37, hx38, b⟩ := qu b
  refine qR (qY (h0_.mono hG32) zQ zc rfl rfl hx38) ?_
  intro a39 hp40
  refine qb (jW jc rfl) ?_
  refine zd H33 (hp40.lens qX) (qz .u8) ty5 rfl ?_
  refine qb (qa (.int .u8 a1) rfl) (qb (qa (.bool (x37.Typ == a1)) rfl) (qd (qe ?_)))
  rcases qm (x37.Typ == a1) with hb41 | hb41
  ·replace b := ifT b hb41
   refine qs (vb hb41) (wp_seq (qc (qb (qa (.slice A0_ a0.length c0_) rfl) (qb (qa (.int .i64 x31) rfl) ?_))))
   obtain ⟨x42, hx43, b⟩ := qu b
   refine qR (qY (h0_.mono hG32) zQ zc rfl rfl hx43) ?_
   intro a44 hp45
   refine zH H33 hp45 zc rfl ?_
   intro v46 hv47
   refine qy (z := x42) H33 (i := 0) rfl (Lens.id qx) zc rfl rfl hv47 ?_
   intro w49 H48
   refine qb (qa (.bool true) rfl) (qd (qe (wp_ret (zg ?_))))
   iterate 2 refine qI ?_
   replace b := jJ b hy5
   refine zg (qI ?_)
   obtain ⟨v50, hv51, hl52⟩ := H48.loadv (i := 0) rfl zc
   have b := yq b
   subst b
   exact qt rfl (RV.cell rfl hl52 (RV.tmp rfl RV.nil)) ⟨_, v50, hG32, rfl, (St.pk [] 1 H48 rfl (by decide)), hv51⟩
  replace b := ifF b hb41
  refine qn (vb hb41) (wp_skip (zn (qe (qc (qb (qa (.int .i64 x31) rfl) ?_)))))
  iterate 2 refine qb (qa (.int .i64 (IntKind.i64.wrap (x31 + 1))) rfl) ?_
  refine qd (qe ?_)
  exact ⟨_, (yq b).symm, _, _, qf _ ⟨rfl, rfl, rfl, rfl, yp⟩, hG32, H33⟩
 replace b := ifF b hb36
 refine qn (vb hb36) ?_
 refine wp_exit ?_
 iterate 2 refine xB ?_
 replace b := jJ b hy5
 refine blk_e ?_
 refine qe (wp_seq (qc ?_))
 refine qR (qT (G := G35) xv rfl bs133 rfl (Parts.nil _)) ?_
 intro v53 hv54
 refine qy (z := zTOpt) H33 (i := 0) rfl (Lens.id qx) zc rfl rfl hv54 ?_
 intro w56 H55
 refine qb (qa (.bool false) rfl) (qd (qe (wp_ret ?_)))
 obtain ⟨v57, hv58, hl59⟩ := H55.loadv (i := 0) rfl zc
 have b := yq b
 subst b
 exact qt rfl (RV.cell rfl hl59 (RV.tmp rfl RV.nil)) ⟨_, v57, hG32, rfl, (St.pk [] 1 H55 rfl (by decide)), hv58⟩

theorem pr10_Drop_ok {c : World} (k : Hc c) {G : qk} {w : World} {σ : List Ent} {a0 : (List TOpt)} {A0_ : Option Addr} {c0_ : Nat} {a1 : Int} (h0_ : SlR qx G A0_ c0_ a0) (H : St c G w (σ)) {r : (List TOpt)} (b : pr10_Drop a0 a1 = some r) :
  Calls Tryz.prog 199 ([(.slice A0_ a0.length c0_), (.int .u8 a1)] : List Value).toArray w (zu fun v w' => ∃ (G' : qk) (A1' : Option Addr) (c2' : Nat), GLe G G' ∧ tup [(.slice A1' r.length c2')] = v ∧ St c G' w' (σ) ∧ SlR qx G' A1' c2' r) := by
 unfold pr10_Drop at b
 refine qG Tryz.func199 rfl rfl rfl (wp_seq (qc (qb (qa (.slice none 0 0) rfl) (qd (qe (wp_seq (qc (qb (qa (.slice none 0 0) rfl) (qd (qe (wp_seq (wp_seq (qc (qb (qa (.int .i64 0) rfl) (qd (qe ?_))))))))))))))))
 refine wp_block ?_
 have H107 := H.nilrow qx none 133
 refine ja (fun (s : ((List TOpt) × Int)) a w => ∃ (T0 : Fr) (G1 : qk) (g41 : Option Nat) (A42 : Option Addr) (c43 : Nat), a = mk 28 (qQ T0 [(0, (.slice A0_ a0.length c0_)), (1, (.int .u8 a1)), (5, (.slice A42 s.1.length c43)), (6, (.int .i64 s.2))]) ∧ GLe G G1 ∧ St c G1 w ((.row qx g41 A42 c43 133 s.1) :: σ)) b ?_ ?_
 ·exact ⟨_, _, none, none, 0, qf _ ⟨rfl, rfl, rfl, rfl, yp⟩, GLe.refl _, H107⟩
 rintro ⟨x40, x45⟩ a w y48 ⟨T0, G49, g41, A42, c43, rfl, hG46, H47⟩ b hy1
 refine wp_seq (wp_seq (qc (qb (qa (.int .i64 x45) rfl) (qb (qa (.slice A0_ a0.length c0_) rfl) (qb (zb zQ rfl) (qb (qa (.bool (decide (x45 < (a0.length : Int)))) rfl) (qd (qe ?_))))))))
 rcases qm (decide (x45 < (a0.length : Int))) with hb50 | hb50
 ·replace b := ifT b hb50
  refine qs (vb hb50) (wp_skip (qe ?_))
  refine wp_seq (join (fun a w => ∃ (T0 G1 : _) (x73 : (List TOpt)) (g74 A75 c76 : _), a = mk 28 (qQ T0 [(0, (.slice A0_ a0.length c0_)), (1, (.int .u8 a1)), (5, (.slice A75 x73.length c76)), (6, (.int .i64 x45))]) ∧ GLe G49 G1 ∧ St c G1 w ((.row qx g74 A75 c76 133 x73) :: σ) ∧ pr10_Drop_j2 x45 x73 = some y48) ?_ ?_)
  ·rintro a w ⟨T0, G80, x73, g74, A75, c76, rfl, hG78, H79, b⟩
   refine qc (qb (qa (.int .i64 x45) rfl) ?_)
   iterate 2 refine qb (qa (.int .i64 (IntKind.i64.wrap (x45 + 1))) rfl) ?_
   refine qd (qe ?_)
   exact ⟨_, (yq b).symm, _, _, g74, A75, c76, qf _ ⟨rfl, rfl, rfl, rfl, yp⟩, (hG46.trans hG78), H79⟩
  refine wp_block (wp_seq (qc (qb (qa (.slice A0_ a0.length c0_) rfl) (qb (qa (.int .i64 x45) rfl) ?_))))
  obtain ⟨x81, hx82, b⟩ := qu b
  refine qR (qY (h0_.mono hG46) zQ zc rfl rfl hx82) ?_
  intro a83 hp84
  refine qb (jW jc rfl) ?_
  refine zd H47 (hp84.lens qX) (qz .u8) ty5 rfl ?_
  refine qb (qa (.int .u8 a1) rfl) (qb (qa (.bool (x81.Typ != a1)) rfl) (qd (qe ?_)))
  rcases qm (x81.Typ != a1) with hb85 | hb85
  ·replace b := ifT b hb85
   refine qs (vb hb85) (qc (qb (qa (.slice A42 x40.length c43) rfl) (qb (qa (.slice A0_ a0.length c0_) rfl) (qb (qa (.int .i64 x45) rfl) ?_))))
   obtain ⟨x86, hx87, b⟩ := qu b
   refine qR (qY (h0_.mono hG46) zQ zc rfl rfl hx87) ?_
   intro a88 hp89
   refine zH H47 hp89 zc rfl ?_
   intro v90 hv91
   refine zh (K := qx) (vs := [v90]) (xs := ([x86] : (List TOpt))) H47 zQ el133 rfl ⟨hv91, yp⟩ rfl (by decide) ?_
   intro g92 w94 H93
   obtain ⟨r96, hr97, b⟩ := qu b
   refine zB H93 zQ el133 (i := 1) rfl rfl rfl ((H93.okAt (i := 0) rfl).src) hr97 ?_
   intro g98 A99 c100 w101 H102
   refine qb (qa (.slice A99 r96.length c100) rfl) (qd (zn (qe ?_)))
   exact ⟨_, _, r96, g98, A99, c100, qf _ ⟨rfl, rfl, rfl, rfl, yp⟩, GLe.refl _, (St.pk [1] 2 H102 rfl (by decide)), b⟩
  replace b := ifF b hb85
  refine qn (vb hb85) (wp_skip (zn (qe ?_)))
  exact ⟨_, _, x40, g41, A42, c43, qf _ ⟨rfl, rfl, rfl, rfl, yp⟩, GLe.refl _, H47, b⟩
 replace b := ifF b hb50
 refine qn (vb hb50) ?_
 refine wp_exit ?_
 iterate 2 refine xB ?_
 replace b := jJ b hy1
 refine blk_e ?_
 refine qe (wp_seq (qc ?_))
 iterate 2 refine qb (qa (.slice A42 x40.length c43) rfl) ?_
 refine qd (qe (wp_ret ?_))
 obtain ⟨G103, hG104, H105, hs106⟩ := H47.stay (i := 0) rfl (H47.capA (i := 0) rfl)
 have b := yq b
 subst b
 exact qt rfl (RV.tmp rfl RV.nil) ⟨_, A42, c43, (hG46.trans hG104), rfl, H105, hs106⟩

theorem pr10_Put_ok {c : World} (k : Hc c) {G : qk} {w : World} {σ : List Ent} {a0 : (List TOpt)} {A0_ : Option Addr} {c0_ : Nat} {a1 : TOpt} {v1_ : Value} (h0_ : SlR qx G A0_ c0_ a0) (h1_ : qx.V G v1_ a1) (H : St c G w (σ)) {r : (List TOpt)} (b : pr10_Put a0 a1 = some r) :
  Calls Tryz.prog 200 ([(.slice A0_ a0.length c0_), v1_] : List Value).toArray w (zu fun v w' => ∃ (G' : qk) (A1' : Option Addr) (c2' : Nat), GLe G G' ∧ tup [(.slice A1' r.length c2')] = v ∧ St c G' w' (σ) ∧ SlR qx G' A1' c2' r) := by
 unfold pr10_Put at b
 refine qG Tryz.func200 rfl rfl rfl (wp_seq (qc ?_))
 refine zp (K := qx) (x := a1) H rfl h1_ ?_
 intro b1 w4 H2
 refine qb (qa (.slice none 0 0) rfl) (qd (qe (wp_seq (qc (qb (qa (.slice none 0 0) rfl) (qd (qe (wp_seq (qc (qb (qa (.bool false) rfl) (qd (qe (wp_seq (wp_seq (qc (qb (qa (.int .i64 0) rfl) (qd (qe ?_))))))))))))))))))
 refine wp_block ?_
 have H229 := H2.nilrow qx none 133
 refine ja (fun (s : ((List TOpt) × Bool × Int)) a w => ∃ (T0 : Fr) (G1 : qk) (g85 : Option Nat) (A86 : Option Addr) (c87 : Nat), a = mk 44 (qQ T0 [(0, (.slice A0_ a0.length c0_)), (3, (pt b1)), (5, (.slice A86 s.1.length c87)), (6, (.bool s.2.1)), (7, (.int .i64 s.2.2))]) ∧ GLe G G1 ∧ St c G1 w ((.row qx g85 A86 c87 133 s.1) :: (.box b1 133 (qx.at_ a1)) :: σ)) b ?_ ?_
 ·exact ⟨_, _, none, none, 0, qf _ ⟨rfl, rfl, rfl, rfl, rfl, yp⟩, GLe.refl _, H229⟩
 rintro ⟨x84, x89, x90⟩ a w y93 ⟨T0, G94, g85, A86, c87, rfl, hG91, H92⟩ b hy5
 refine wp_seq (wp_seq (qc (qb (qa (.int .i64 x90) rfl) (qb (qa (.slice A0_ a0.length c0_) rfl) (qb (zb zQ rfl) (qb (qa (.bool (decide (x90 < (a0.length : Int)))) rfl) (qd (qe ?_))))))))
 rcases qm (decide (x90 < (a0.length : Int))) with hb95 | hb95
 ·replace b := ifT b hb95
  refine qs (vb hb95) (wp_skip (qe ?_))
  refine wp_seq (join (fun a w => ∃ (T0 G1 : _) (x138 : (List TOpt)) (x143 : Bool) (g139 A140 c141 : _), a = mk 44 (qQ T0 [(0, (.slice A0_ a0.length c0_)), (3, (pt b1)), (5, (.slice A140 x138.length c141)), (6, (.bool x143)), (7, (.int .i64 x90))]) ∧ GLe G94 G1 ∧ St c G1 w ((.row qx g139 A140 c141 133 x138) :: (.box b1 133 (qx.at_ a1)) :: σ) ∧ pr10_Put_j2 x90 x138 x143 = some y93) ?_ ?_)
  ·rintro a w ⟨T0, G146, x138, x143, g139, A140, c141, rfl, hG144, H145, b⟩
   refine qc (qb (qa (.int .i64 x90) rfl) ?_)
   iterate 2 refine qb (qa (.int .i64 (IntKind.i64.wrap (x90 + 1))) rfl) ?_
   refine qd (qe ?_)
   exact ⟨_, (yq b).symm, _, _, g139, A140, c141, qf _ ⟨rfl, rfl, rfl, rfl, rfl, yp⟩, (hG91.trans hG144), H145⟩
  refine wp_block ?_
  refine wp_seq (join (fun a w => ∃ (T0 G1 : _) (x152 : (List TOpt)) (x157 : Bool) (g153 A154 c155 : _), a = mk 44 (qQ T0 [(0, (.slice A0_ a0.length c0_)), (3, (pt b1)), (5, (.slice A154 x152.length c155)), (6, (.bool x89)), (7, (.int .i64 x90)), (25, (.bool x157))]) ∧ GLe G94 G1 ∧ St c G1 w ((.row qx g153 A154 c155 133 x152) :: (.box b1 133 (qx.at_ a1)) :: σ) ∧ xa a0 a1 x89 x90 x152 x157 = some y93) ?_ ?_)
  ·rintro a w ⟨T0, G160, x152, x157, g153, A154, c155, rfl, hG158, H159, b⟩
   rcases qm x157 with hb161 | hb161
   ·replace b := ifT b hb161
    refine qs (vb hb161) (wp_seq (qc (qb (qa (.slice A154 x152.length c155) rfl) ?_)))
    refine ql H159 (i := 1) rfl (Lens.id qx) zc rfl ?_
    intro v162 hv163
    refine zh (K := qx) (vs := [v162]) (xs := ([a1] : (List TOpt))) H159 zQ el133 rfl ⟨hv163, yp⟩ rfl (by decide) ?_
    intro g164 w166 H165
    obtain ⟨r168, hr169, b⟩ := qu b
    refine zB H165 zQ el133 (i := 1) rfl rfl rfl ((H165.okAt (i := 0) rfl).src) hr169 ?_
    intro g170 A171 c172 w173 H174
    refine qb (qa (.slice A171 r168.length c172) rfl) (qd (qe (qc (qb (qa (.bool true) rfl) (qd (zn (qe ?_)))))))
    exact ⟨_, _, r168, true, g170, A171, c172, qf _ ⟨rfl, rfl, rfl, rfl, rfl, yp⟩, hG158, (St.pk [1, 2] 3 H174 rfl (by decide)), b⟩
   replace b := ifF b hb161
   refine qn (vb hb161) (qc (qb (qa (.slice A154 x152.length c155) rfl) (qb (qa (.slice A0_ a0.length c0_) rfl) (qb (qa (.int .i64 x90) rfl) ?_))))
   obtain ⟨x175, hx176, b⟩ := qu b
   refine qR (qY (h0_.mono (hG91.trans hG158)) zQ zc rfl rfl hx176) ?_
   intro a177 hp178
   refine zH H159 hp178 zc rfl ?_
   intro v179 hv180
   refine zh (K := qx) (vs := [v179]) (xs := ([x175] : (List TOpt))) H159 zQ el133 rfl ⟨hv180, yp⟩ rfl (by decide) ?_
   intro g181 w183 H182
   obtain ⟨r185, hr186, b⟩ := qu b
   refine zB H182 zQ el133 (i := 1) rfl rfl rfl ((H182.okAt (i := 0) rfl).src) hr186 ?_
   intro g187 A188 c189 w190 H191
   refine qb (qa (.slice A188 r185.length c189) rfl) (qd (zn (qe ?_)))
   exact ⟨_, _, r185, x89, g187, A188, c189, qf _ ⟨rfl, rfl, rfl, rfl, rfl, yp⟩, hG158, (St.pk [1, 2] 3 H191 rfl (by decide)), b⟩
  refine jP (f := 12) H92 mixed ?_
  intro w192 H193
  refine xW (by repeat (first | exact PF.base | apply PF.then_ | apply PF.blk)) ?_
  intro B E
  rcases qm (!x89) with hb194 | hb194
  ·replace b := ifT b hb194
   obtain ⟨x195, hx196, b⟩ := qu b
   refine qF (fuel := 2) (m := 1023) (fun a w => ∃ T0 G1, a = mk 44 (qQ T0 [(0, (.slice A0_ a0.length c0_)), (3, (pt b1)), (5, (.slice A86 x84.length c87)), (6, (.bool x89)), (7, (.int .i64 x90)), (16, (.bool (!x89))), (21, (.int .u8 x195.Typ)), (23, (.int .u8 a1.Typ))]) ∧ GLe G94 G1 ∧ St c G1 w ((.box b1 133 (qx.at_ a1)) :: (.row qx g85 A86 c87 133 x84) :: σ)) ?_ ?_
   ·rintro a w ⟨T0, G204, rfl, hG202, H203⟩
    refine zE 16 true (i := 10) (m' := 2047) rfl (qa (.bool (x195.Typ == a1.Typ)) rfl) (vb hb194) B E ?_
    refine qq (i := 11) (m' := 4095) rfl (qB (.bool (x195.Typ == a1.Typ)) (vb hb194) rfl) B E ?_
    refine zA (qe ?_)
    exact ⟨_, _, x84, (x195.Typ == a1.Typ), g85, A86, c87, qf _ ⟨rfl, rfl, rfl, rfl, rfl, rfl, yp⟩, hG202, (St.pk [1, 0] 2 H203 rfl (by decide)), b⟩
   intro hM201
   refine qq (i := 0) (m' := 1) rfl (qa (.bool x89) rfl) B E ?_
   refine qq (i := 1) (m' := 3) rfl (qa (.bool (!x89)) rfl) B E ?_
   refine qq (i := 2) (m' := 7) rfl (qa (.bool (!x89)) rfl) B E ?_
   refine zE 16 true (i := 3) (m' := 15) rfl (qa (.slice A0_ a0.length c0_) rfl) (vb hb194) B E ?_
   refine zE 16 true (i := 4) (m' := 31) rfl (qa (.int .i64 x90) rfl) (vb hb194) B E ?_
   refine any_rnEG 16 true (i := 5) (m' := 63) rfl (qY (h0_.mono hG91) zQ zc rfl rfl hx196) (vb hb194) B E ?_
   intro a205 hp206
   refine zE 16 true (i := 6) (m' := 127) rfl (jW jc rfl) (vb hb194) B E ?_
   refine zE 16 true (i := 8) (m' := 383) rfl (qh jc rfl) (vb hb194) B E ?_
   refine qi [7, 9] ⟨?_, ?_, yp⟩
   ·refine qg (m' := 511) fun I j => ?_
    refine qj rfl rfl rfl (vb hb194) ?_
    refine zd H193 (hp206.lens qX) (qz .u8) ty5 rfl ?_
    refine qd (j _ _ ?_)
    refine qi [9] ⟨qg (m' := 1023) fun I j => ?_, yp⟩
    refine qj rfl rfl rfl (vb hb194) (qp H193 (i := 1) rfl qX (qz .u8) ty5 rfl (qd (j _ _ ?_)))
    exact hM201 _ _ ⟨_, _, qf _ ⟨rfl, rfl, rfl, rfl, rfl, rfl, rfl, rfl, yp⟩, GLe.refl _, (St.pk [1, 0] 2 H193 rfl (by decide))⟩
   refine qg (m' := 895) fun I j => ?_
   refine qj rfl rfl rfl (vb hb194) (qp H193 (i := 1) rfl qX (qz .u8) ty5 rfl (qd (j _ _ ?_)))
   refine qi [7] ⟨qg (m' := 1023) fun I j => ?_, yp⟩
   refine qj rfl rfl rfl (vb hb194) ?_
   refine zd H193 (hp206.lens qX) (qz .u8) ty5 rfl ?_
   refine qd (j _ _ ?_)
   exact hM201 _ _ ⟨_, _, qf _ ⟨rfl, rfl, rfl, rfl, rfl, rfl, rfl, rfl, yp⟩, GLe.refl _, (St.pk [1, 0] 2 H193 rfl (by decide))⟩
  replace b := ifF b hb194
  refine qq (i := 0) (m' := 1) rfl (qa (.bool x89) rfl) B E ?_
  refine qq (i := 1) (m' := 3) rfl (qa (.bool (!x89)) rfl) B E ?_
  refine qq (i := 2) (m' := 7) rfl (qa (.bool (!x89)) rfl) B E ?_
  refine qS (i := 3) (m' := 15) 16 true rfl (vb hb194) B E ?_
  refine qS (i := 4) (m' := 31) 16 true rfl (vb hb194) B E ?_
  refine qS (i := 5) (m' := 63) 16 true rfl (vb hb194) B E ?_
  refine qS (i := 6) (m' := 127) 16 true rfl (vb hb194) B E ?_
  refine qS (i := 7) (m' := 255) 16 true rfl (vb hb194) B E ?_
  refine qS (i := 8) (m' := 511) 16 true rfl (vb hb194) B E ?_
  refine qS (i := 9) (m' := 1023) 16 true rfl (vb hb194) B E ?_
  refine qS (i := 10) (m' := 2047) 16 true rfl (vb hb194) B E ?_
  refine qq (i := 11) (m' := 4095) rfl (qr (.bool false) (vb hb194) rfl) B E ?_
  refine zA (qe ?_)
  exact ⟨_, _, x84, false, g85, A86, c87, qf _ ⟨rfl, rfl, rfl, rfl, rfl, rfl, yp⟩, GLe.refl _, H193, b⟩
 replace b := ifF b hb95
 refine qn (vb hb95) ?_
 refine wp_exit ?_
 iterate 2 refine xB ?_
 replace b := jJ b hy5
 refine blk_e ?_
 refine qe (wp_seq (wp_seq (qc (qb (qa (.bool x89) rfl) (qb (qa (.bool (!x89)) rfl) (qd (qe ?_)))))))
 rcases qm (!x89) with hb207 | hb207
 ·replace b := ifT b hb207
  refine qs (vb hb207) (qc (qb (qa (.slice A86 x84.length c87) rfl) ?_))
  refine ql H92 (i := 1) rfl (Lens.id qx) zc rfl ?_
  intro v208 hv209
  refine zh (K := qx) (vs := [v208]) (xs := ([a1] : (List TOpt))) H92 zQ el133 rfl ⟨hv209, yp⟩ rfl (by decide) ?_
  intro g210 w212 H211
  obtain ⟨r214, hr215, b⟩ := qu b
  refine zB H211 zQ el133 (i := 1) rfl rfl rfl ((H211.okAt (i := 0) rfl).src) hr215 ?_
  intro g216 A217 c218 w219 H220
  refine qb (qa (.slice A217 r214.length c218) rfl) (qd (qe (wp_seq (qc ?_))))
  iterate 2 refine qb (qa (.slice A217 r214.length c218) rfl) ?_
  refine qd (qe (wp_ret ?_))
  obtain ⟨G221, hG222, H223, hs224⟩ := H220.stay (i := 1) rfl (H220.capA (i := 1) rfl)
  have b := yq b
  subst b
  exact qt rfl (RV.tmp rfl RV.nil) ⟨_, A217, c218, (hG91.trans hG222), rfl, (St.pk [] 2 H223 rfl (by decide)), hs224⟩
 replace b := ifF b hb207
 refine qn (vb hb207) (wp_skip (qe (wp_seq (qc ?_))))
 iterate 2 refine qb (qa (.slice A86 x84.length c87) rfl) ?_
 refine qd (qe (wp_ret ?_))
 obtain ⟨G225, hG226, H227, hs228⟩ := H92.stay (i := 0) rfl (H92.capA (i := 0) rfl)
 have b := yq b
 subst b
 exact qt rfl (RV.tmp rfl RV.nil) ⟨_, A86, c87, (hG91.trans hG226), rfl, (St.pk [] 1 H227 rfl (by decide)), hs228⟩

theorem pr13_Turn_ok {c : World} (k : Hc c) {G : qk} {w : World} {σ : List Ent} {a0 : TRule} {v0_ : Value} {a1 : (List TOpt)} {A1_ : Option Addr} {c1_ : Nat} {a2 : Int} {a3 : (List TOpt)} {A3_ : Option Addr} {c3_ : Nat} (h0_ : qU.V G v0_ a0) (h1_ : SlR qx G A1_ c1_ a1) (h3_ : SlR qx G A3_ c3_ a3) (H : St c G w (σ)) {r : ((List TOpt) × Bool)} (b : pr13_Turn a0 a1 a2 a3 = some r) :
  Calls Tryz.prog 155 ([v0_, (.slice A1_ a1.length c1_), (.int .u8 a2), (.slice A3_ a3.length c3_)] : List Value).toArray w (zu fun v w' => ∃ (G' : qk) (A1' : Option Addr) (c2' : Nat), GLe G G' ∧ tup [(.slice A1' r.1.length c2'), (.bool r.2)] = v ∧ St c G' w' (σ) ∧ SlR qx G' A1' c2' r.1) := by
 unfold pr13_Turn at b
 refine qG Tryz.func155 rfl rfl rfl (wp_seq (qc ?_))
 refine zp (K := qU) (x := a0) H rfl h0_ ?_
 intro b1 w4 H2
 refine qb (qa (.slice none 0 0) rfl) (qb (qa (.bool false) rfl) (qd (qe (wp_seq (qc (qb (qa (.slice A3_ a3.length c3_) rfl) ?_))))))
 obtain ⟨r5, hr6, b⟩ := qu b
 refine qo (vs := [(.slice A3_ a3.length c3_), (.int .u8 3)]) en156 rfl (pr10_Find_ok k h3_ H2 hr6) ?_
 rintro v11 w10 ⟨G7, v12, hG8, rfl, H9, hv13⟩
 refine qb (qa (.tuple #[v12, (.bool r5.2)]) rfl) (qb (qa v12 rfl) (qb (qa (.bool r5.2) rfl) ?_))
 refine qP H9 xv ?_
 intro b14 w17 H15
 refine qy (z := r5.1) H15 (i := 0) rfl (Lens.id qx) zc rfl rfl hv13 ?_
 intro w19 H18
 refine qb (qa (.bool r5.2) rfl) (qd (qe (wp_seq ?_)))
 refine wp_seq (join (fun a w => ∃ (T0 G1 : _) (x24 : Bool), a = mk 82 (qQ T0 [(1, (.slice A1_ a1.length c1_)), (2, (.int .u8 a2)), (3, (.slice A3_ a3.length c3_)), (4, (pt b1)), (36, (.bool x24))]) ∧ GLe G7 G1 ∧ St c G1 w ((.box b1 29 (qU.at_ a0)) :: σ) ∧ zF a0 a1 a2 a3 x24 = some r) ?_ ?_)
 ·rintro a w ⟨T0, G27, x24, rfl, hG25, H26, b⟩
  rcases qm x24 with hb28 | hb28
  ·replace b := ifT b hb28
   refine qs (vb hb28) (wp_seq (qc ?_))
   iterate 2 refine qb (qa (.slice A1_ a1.length c1_) rfl) ?_
   refine qb (qa (.bool false) rfl) (qd (qe (wp_ret (qI ?_))))
   have b := yq b
   subst b
   exact qt rfl (RV.tmp rfl (RV.tmp rfl RV.nil)) ⟨_, A1_, c1_, (hG8.trans hG25), rfl, (St.pk [] 1 H26 rfl (by decide)), (h1_.mono (hG8.trans hG25))⟩
  replace b := ifF b hb28
  refine qn (vb hb28) (wp_skip (qe (wp_seq (wp_seq (qc (qb (qa (.int .u8 a2) rfl) (qb (qa (.bool (a2 == 4)) rfl) (qd (qe ?_)))))))))
  rcases qm (a2 == 4) with hb29 | hb29
  ·replace b := ifT b hb29
   refine qs (vb hb29) (wp_seq (qc ?_))
   iterate 2 refine qb (qa (.slice A1_ a1.length c1_) rfl) ?_
   refine qd (qe (wp_seq (wp_seq (qc (qb (qa (.int .i64 0) rfl) (qd (qe (wp_block ?_))))))))
   refine ja (fun (s : ((List TOpt) × Int)) a w => ∃ (T0 : Fr) (G1 : qk) (A52 : Option Addr) (c53 : Nat), a = mk 82 (qQ T0 [(3, (.slice A3_ a3.length c3_)), (12, (.slice A52 s.1.length c53)), (13, (.int .i64 s.2))]) ∧ GLe G27 G1 ∧ St c G1 w (σ) ∧ SlR qx G1 A52 c53 s.1) b ?_ ?_
   ·exact ⟨_, _, A1_, c1_, qf _ ⟨rfl, rfl, rfl, yp⟩, GLe.refl _, (St.pk [] 1 H26 rfl (by decide)), (h1_.mono (hG8.trans hG25))⟩
   rintro ⟨x51, x55⟩ a w y58 ⟨T0, G59, A52, c53, rfl, hG56, H57, hs54⟩ b hy30
   refine wp_seq (wp_seq (qc (qb (qa (.int .i64 x55) rfl) (qb (qa (.slice A3_ a3.length c3_) rfl) (qb (zb zQ rfl) (qb (qa (.bool (decide (x55 < (a3.length : Int)))) rfl) (qd (qe ?_))))))))
   rcases qm (decide (x55 < (a3.length : Int))) with hb60 | hb60
   ·replace b := ifT b hb60
    refine qs (vb hb60) (wp_skip (qe (wp_seq (wp_block (qc (qb (qa (.slice A52 x51.length c53) rfl) (qb (qa (.slice A3_ a3.length c3_) rfl) (qb (qa (.int .i64 x55) rfl) ?_))))))))
    obtain ⟨x61, hx62, b⟩ := qu b
    refine qR (qY (h3_.mono ((hG8.trans hG25).trans hG56)) zQ zc rfl rfl hx62) ?_
    intro a63 hp64
    refine qb (jW jc rfl) ?_
    refine zd H57 (hp64.lens qX) (qz .u8) ty5 rfl ?_
    obtain ⟨r65, hr66, b⟩ := qu b
    refine qo (vs := [(.slice A52 x51.length c53), (.int .u8 x61.Typ)]) en199 rfl (pr10_Drop_ok k hs54 H57 hr66) ?_
    rintro v71 w70 ⟨G67, A72, c73, hG68, rfl, H69, hs74⟩
    refine qb (qa (.slice A72 r65.length c73) rfl) (qd (zn (qe (qc (qb (qa (.int .i64 x55) rfl) ?_)))))
    iterate 2 refine qb (qa (.int .i64 (IntKind.i64.wrap (x55 + 1))) rfl) ?_
    refine qd (qe ?_)
    exact ⟨_, (yq b).symm, _, _, A72, c73, qf _ ⟨rfl, rfl, rfl, yp⟩, (hG56.trans hG68), H69, hs74⟩
   replace b := ifF b hb60
   refine qn (vb hb60) ?_
   refine wp_exit ?_
   iterate 2 refine xB ?_
   replace b := jJ b hy30
   refine blk_e ?_
   refine qe (wp_seq (qc ?_))
   iterate 2 refine qb (qa (.slice A52 x51.length c53) rfl) ?_
   refine qb (qa (.bool true) rfl) (qd (qe (wp_ret (qI ?_))))
   have b := yq b
   subst b
   exact qt rfl (RV.tmp rfl (RV.tmp rfl RV.nil)) ⟨_, A52, c53, ((hG8.trans hG25).trans hG56), rfl, H57, hs54⟩
  replace b := ifF b hb29
  refine qn (vb hb29) (wp_skip (qe (wp_seq (qc (qb (qa (.slice A3_ a3.length c3_) rfl) ?_)))))
  obtain ⟨r75, hr76, b⟩ := qu b
  refine qo (vs := [(.slice A3_ a3.length c3_), (.int .u8 5)]) en156 rfl (pr10_Find_ok k (h3_.mono (hG8.trans hG25)) H26 hr76) ?_
  rintro v81 w80 ⟨G77, v82, hG78, rfl, H79, hv83⟩
  refine qb (qa (.tuple #[v82, (.bool r75.2)]) rfl) (qb (qa v82 rfl) (qb (qa (.bool r75.2) rfl) ?_))
  refine qP H79 xv ?_
  intro b84 w87 H85
  refine qy (z := r75.1) H85 (i := 0) rfl (Lens.id qx) zc rfl rfl hv83 ?_
  intro w89 H88
  refine qb (qa (.bool r75.2) rfl) (qd (qe (wp_seq (qc (qb (qa (.slice A1_ a1.length c1_) rfl) ?_)))))
  obtain ⟨r90, hr91, b⟩ := qu b
  refine qo (vs := [(.slice A1_ a1.length c1_), (.int .u8 5)]) en156 rfl (pr10_Find_ok k (h1_.mono ((hG8.trans hG25).trans hG78)) H88 hr91) ?_
  rintro v96 w95 ⟨G92, v97, hG93, rfl, H94, hv98⟩
  refine qb (qa (.tuple #[v97, (.bool r90.2)]) rfl) (qb (qa v97 rfl) (qb (qa (.bool r90.2) rfl) ?_))
  refine qP H94 xv ?_
  intro b99 w102 H100
  refine qy (z := r90.1) H100 (i := 0) rfl (Lens.id qx) zc rfl rfl hv98 ?_
  intro w104 H103
  refine qb (qa (.bool r90.2) rfl) (qd (qe (wp_seq ?_)))
  refine wp_seq (join (fun a w => ∃ (T0 G1 : _) (x107 : Bool), a = mk 82 (qQ T0 [(1, (.slice A1_ a1.length c1_)), (4, (pt b1)), (74, (.bool x107))]) ∧ GLe G92 G1 ∧ St c G1 w ((.box b1 29 (qU.at_ a0)) :: σ) ∧ jQ a0 a1 x107 = some r) ?_ ?_)
  ·rintro a w ⟨T0, G110, x107, rfl, hG108, H109, b⟩
   rcases qm x107 with hb111 | hb111
   ·replace b := ifT b hb111
    refine qs (vb hb111) (wp_seq (qc ?_))
    iterate 2 refine qb (qa (.slice A1_ a1.length c1_) rfl) ?_
    refine qb (qa (.bool true) rfl) (qd (qe (wp_ret (qI ?_))))
    have b := yq b
    subst b
    exact qt rfl (RV.tmp rfl (RV.tmp rfl RV.nil)) ⟨_, A1_, c1_, ((((hG8.trans hG25).trans hG78).trans hG93).trans hG108), rfl, (St.pk [] 1 H109 rfl (by decide)), (h1_.mono ((((hG8.trans hG25).trans hG78).trans hG93).trans hG108))⟩
   replace b := ifF b hb111
   refine qn (vb hb111) (wp_skip (qe (wp_seq (qc (qb (qa (.slice A1_ a1.length c1_) rfl) (qb (qh fo29_2 rfl) (qp H109 (i := 0) rfl lTRule_Other (qz .u32) ty27 rfl ?_)))))))
   obtain ⟨r112, hr113, b⟩ := qu b
   refine qo (vs := [(.int .u32 a0.Other)]) en89 rfl (zY k H109 hr113) ?_
   rintro v118 w117 ⟨G114, g119, A120, c121, hG115, rfl, H116⟩
   obtain ⟨G123, hG124, H125, hs126⟩ := H116.stay (i := 0) rfl (H116.capA (i := 0) rfl)
   refine qR (qT (G := G123) xv rfl bs133 rfl (Parts.cons jc qX ((qz .u8).toV _ _) (Parts.cons jp qZ (zw hs126) (Parts.nil _)))) ?_
   intro v127 hv128
   obtain ⟨r129, hr130, b⟩ := qu b
   refine qo (vs := [(.slice A1_ a1.length c1_), v127]) en200 rfl (pr10_Put_ok k (h1_.mono ((((((hG8.trans hG25).trans hG78).trans hG93).trans hG108).trans hG115).trans hG124)) hv128 H125 hr130) ?_
   rintro v135 w134 ⟨G131, A136, c137, hG132, rfl, H133, hs138⟩
   refine qb (qa (.slice A136 r129.length c137) rfl) (qb (qa (.bool true) rfl) (qd (qe (wp_ret ?_))))
   have b := yq b
   subst b
   exact qt rfl (RV.tmp rfl (RV.tmp rfl RV.nil)) ⟨_, A136, c137, (((((((hG8.trans hG25).trans hG78).trans hG93).trans hG108).trans hG115).trans hG124).trans hG132), rfl, (St.pk [] 1 H133 rfl (by decide)), hs138⟩
  refine qc (qb (qh fo29_0 rfl) (qp H103 (i := 2) rfl xO dBool ty4 rfl (qb (qa (.bool a0.Ip) rfl) ?_)))
  rcases qm a0.Ip with hb139 | hb139
  ·replace b := ifT b hb139
   iterate 2 refine qJ rfl rfl rfl (vb hb139) ?_
   refine qb (qB (.bool true) (vb hb139) rfl) (qb (qa (.bool true) rfl) ?_)
   iterate 2 refine qJ rfl rfl rfl rfl ?_
   refine qb (qB (.bool true) rfl rfl) (qd (qe ?_))
   exact ⟨_, _, true, qf _ ⟨rfl, rfl, rfl, yp⟩, GLe.refl _, (St.pk [2] 3 H103 rfl (by decide)), b⟩
  replace b := ifF b hb139
  refine qj rfl rfl rfl (vb hb139) (qb (qa (.bool r75.2) rfl) (qj rfl rfl rfl (vb hb139) (qb (qa (.bool (!r75.2)) rfl) (qb (qr (.bool (!r75.2)) (vb hb139) rfl) (qb (qa (.bool (!r75.2)) rfl) ?_)))))
  rcases qm (!r75.2) with hb140 | hb140
  ·replace b := ifT b hb140
   iterate 2 refine qJ rfl rfl rfl (vb hb140) ?_
   refine qb (qB (.bool true) (vb hb140) rfl) (qd (qe ?_))
   exact ⟨_, _, true, qf _ ⟨rfl, rfl, rfl, yp⟩, GLe.refl _, (St.pk [2] 3 H103 rfl (by decide)), b⟩
  replace b := ifF b hb140
  refine qj rfl rfl rfl (vb hb140) (qb (qa (.bool r90.2) rfl) (qj rfl rfl rfl (vb hb140) (qb (qa (.bool (!r90.2)) rfl) (qb (qr (.bool (!r90.2)) (vb hb140) rfl) (qd (qe ?_))))))
  exact ⟨_, _, (!r90.2), qf _ ⟨rfl, rfl, rfl, yp⟩, GLe.refl _, (St.pk [2] 3 H103 rfl (by decide)), b⟩
 refine qc ?_
 iterate 2 refine qb (qa (.bool r5.2) rfl) ?_
 rcases qm r5.2 with hb141 | hb141
 ·replace b := ifT b hb141
  refine qj rfl rfl rfl (vb hb141) (qb (qh fo29_0 rfl) (qj rfl rfl rfl (vb hb141) (qp H18 (i := 1) rfl xO dBool ty4 rfl (qj rfl rfl rfl (vb hb141) (qb (qa (.bool (!a0.Ip)) rfl) (qb (qB (.bool (!a0.Ip)) (vb hb141) rfl) (qb (qa (.bool (!a0.Ip)) rfl) ?_)))))))
  rcases qm (!a0.Ip) with hb142 | hb142
  ·replace b := ifT b hb142
   iterate 3 refine qJ rfl rfl rfl (vb hb142) ?_
   iterate 2 refine wl_nou rfl rfl rfl rfl ?_
   refine qJ rfl rfl rfl (vb hb142) (qb (qB (.bool true) (vb hb142) rfl) (qd (qe ?_)))
   exact ⟨_, _, true, qf _ ⟨rfl, rfl, rfl, rfl, rfl, yp⟩, GLe.refl _, (St.pk [1] 2 H18 rfl (by decide)), b⟩
  replace b := ifF b hb142
  refine qj rfl rfl rfl (vb hb142) (qb (qa (.int .u8 a2) rfl) (qj rfl rfl rfl (vb hb142) (qb (qa (.bool (a2 != 3)) rfl) (qj rfl rfl rfl (vb hb142) (qb (qa (.bool (a2 != 3)) rfl) ?_)))))
  rcases qm (a2 != 3) with hb143 | hb143
  ·replace b := ifT b hb143
   refine qj rfl rfl rfl (vb hb143) (qb (qa (.int .u8 a2) rfl) (qj rfl rfl rfl (vb hb143) (qb (qa (.bool (a2 != 4)) rfl) (qj rfl rfl rfl (vb hb142) (qb (qB (.bool (a2 != 4)) (vb hb143) rfl) (qb (qr (.bool (a2 != 4)) (vb hb142) rfl) (qd (qe ?_))))))))
   exact ⟨_, _, (a2 != 4), qf _ ⟨rfl, rfl, rfl, rfl, rfl, yp⟩, GLe.refl _, (St.pk [1] 2 H18 rfl (by decide)), b⟩
  replace b := ifF b hb143
  iterate 2 refine qJ rfl rfl rfl (vb hb143) ?_
  refine qj rfl rfl rfl (vb hb142) (qb (qr (.bool false) (vb hb143) rfl) (qb (qr (.bool false) (vb hb142) rfl) (qd (qe ?_))))
  exact ⟨_, _, false, qf _ ⟨rfl, rfl, rfl, rfl, rfl, yp⟩, GLe.refl _, (St.pk [1] 2 H18 rfl (by decide)), b⟩
 replace b := ifF b hb141
 iterate 3 refine qJ rfl rfl rfl (vb hb141) ?_
 refine qb (qr (.bool false) (vb hb141) rfl) (qb (qa (.bool false) rfl) (qj rfl rfl rfl rfl (qb (qa (.int .u8 a2) rfl) (qj rfl rfl rfl rfl (qb (qa (.bool (a2 != 3)) rfl) (qj rfl rfl rfl rfl (qb (qa (.bool (a2 != 3)) rfl) ?_)))))))
 rcases qm (a2 != 3) with hb144 | hb144
 ·replace b := ifT b hb144
  refine qj rfl rfl rfl (vb hb144) (qb (qa (.int .u8 a2) rfl) (qj rfl rfl rfl (vb hb144) (qb (qa (.bool (a2 != 4)) rfl) (qj rfl rfl rfl rfl (qb (qB (.bool (a2 != 4)) (vb hb144) rfl) (qb (qr (.bool (a2 != 4)) rfl rfl) (qd (qe ?_))))))))
  exact ⟨_, _, (a2 != 4), qf _ ⟨rfl, rfl, rfl, rfl, rfl, yp⟩, GLe.refl _, (St.pk [1] 2 H18 rfl (by decide)), b⟩
 replace b := ifF b hb144
 iterate 2 refine qJ rfl rfl rfl (vb hb144) ?_
 refine qj rfl rfl rfl rfl (qb (qr (.bool false) (vb hb144) rfl) (qb (qr (.bool false) rfl rfl) (qd (qe ?_))))
 exact ⟨_, _, false, qf _ ⟨rfl, rfl, rfl, rfl, rfl, yp⟩, GLe.refl _, (St.pk [1] 2 H18 rfl (by decide)), b⟩

theorem pr14_answered_ok {c : World} (k : Hc c) {G : qk} {w : World} {σ : List Ent} {a0 : TNego} {v0_ : Value} {a1 : TPkt} {v1_ : Value} (h0_ : qv.V G v0_ a0) (h1_ : qC.V G v1_ a1) (H : St c G w (σ)) {r : Tref14_Out} (b : yb a0 a1 = some r) :
  Calls Tryz.prog 88 ([v0_, v1_] : List Value).toArray w (zu fun v w' => ∃ (G' : qk) (v1' : Value), GLe G G' ∧ tup [v1'] = v ∧ St c G' w' (σ) ∧ qE.V G' v1' r) := by
 unfold yb at b
 refine qG Tryz.func88 rfl rfl rfl (wp_seq (qc ?_))
 refine zp (K := qv) (x := a0) H rfl h0_ ?_
 intro b1 w4 H2
 refine zp (K := qC) (x := a1) H2 rfl h1_ ?_
 intro b5 w8 H6
 refine qP H6 zr78 ?_
 intro b9 w12 H10
 refine qd (qe (wp_seq (qc (qb (qh xG rfl) ?_))))
 refine ql H10 (i := 1) rfl zm jy rfl ?_
 intro v13 hv14
 obtain ⟨A15, c16, rfl, hs17⟩ := qN hv14
 obtain ⟨r18, hr19, b⟩ := qu b
 refine qo (vs := [(.slice A15 a1.Data.length c16)]) en153 rfl (pr10_Read_ok k hs17 H10 hr19) ?_
 rintro v24 w23 ⟨G20, A25, c26, hG21, rfl, H22, hs27⟩
 refine qb (qa (.tuple #[(.slice A25 r18.1.length c26), (.int .i64 r18.2)]) rfl) (qb (qa (.slice A25 r18.1.length c26) rfl) (qb (qa (.int .i64 r18.2) rfl) (qb (qa (.slice A25 r18.1.length c26) rfl) (qb (qa (.int .i64 r18.2) rfl) (qd (qe (wp_seq ?_)))))))
 refine wp_seq (join (fun a w => ∃ (T0 G1 : _) (x29 : Bool), a = mk 52 (qQ T0 [(2, (pt b1)), (3, (pt b5)), (4, (pt b9)), (5, (.slice A25 r18.1.length c26)), (24, (.bool x29))]) ∧ GLe G20 G1 ∧ St c G1 w ((.box b9 78 (qE.at_ qD)) :: (.box b5 46 (qC.at_ a1)) :: (.box b1 32 (qv.at_ a0)) :: σ) ∧ xn a0 a1 r18 x29 = some r) ?_ ?_)
 ·rintro a w ⟨T0, G32, x29, rfl, hG30, H31, b⟩
  rcases qm x29 with hb33 | hb33
  ·replace b := ifT b hb33
   refine qs (vb hb33) (wp_seq (qc ?_))
   refine ql H31 (i := 2) rfl (Lens.id qv) zG rfl ?_
   intro v34 hv35
   refine qR (qT (G := G32) zr78 rfl bs78 rfl (Parts.cons fo78_0 jU hv35 (Parts.nil _))) ?_
   intro v36 hv37
   refine qy (z := (Tref14_Out.mk a0 qD.Sent qD.Told qD.L)) H31 (i := 0) rfl (Lens.id qE) yn rfl rfl hv37 ?_
   intro w39 H38
   refine qd (qe (wp_ret (qI ?_)))
   obtain ⟨v40, hv41, hl42⟩ := H38.loadv (i := 0) rfl yn
   have b := yq b
   subst b
   exact qt rfl (RV.cell rfl hl42 RV.nil) ⟨_, v40, (hG21.trans hG30), rfl, (St.pk [] 3 H38 rfl (by decide)), hv41⟩
  replace b := ifF b hb33
  refine qn (vb hb33) (wp_skip (qe (wp_seq (qc (qb (qh fo32_1 rfl) ?_)))))
  refine ql H31 (i := 2) rfl ym ty29 rfl ?_
  intro v43 hv44
  refine qb (qh fo32_2 rfl) ?_
  refine ql H31 (i := 2) rfl zD ty30 rfl ?_
  intro v45 hv46
  obtain ⟨A47, c48, rfl, hs49⟩ := qN hv46
  refine qb (qh jO rfl) (qp H31 (i := 1) rfl qW (qz .u8) ty5 rfl (qb (qa (.slice A25 r18.1.length c26) rfl) ?_))
  obtain ⟨r50, hr51, b⟩ := qu b
  refine qo (vs := [v43, (.slice A47 a0.Ours.length c48), (.int .u8 a1.Code), (.slice A25 r18.1.length c26)]) en155 rfl (pr13_Turn_ok k hv44 hs49 (hs27.mono hG30) H31 hr51) ?_
  rintro v56 w55 ⟨G52, A57, c58, hG53, rfl, H54, hs59⟩
  refine qb (qa (.tuple #[(.slice A57 r50.1.length c58), (.bool r50.2)]) rfl) (qb (qa (.slice A57 r50.1.length c58) rfl) (qb (qa (.bool r50.2) rfl) (qb (qa (.slice A57 r50.1.length c58) rfl) (qb (qa (.bool r50.2) rfl) (qd (qe (wp_seq (wp_seq (qc (qb (qa (.bool r50.2) rfl) (qb (qa (.bool (!r50.2)) rfl) ?_)))))))))))
  refine qd (qe ?_)
  rcases qm (!r50.2) with hb60 | hb60
  ·replace b := ifT b hb60
   refine qs (vb hb60) (wp_seq (qc ?_))
   refine ql H54 (i := 2) rfl (Lens.id qv) zG rfl ?_
   intro v61 hv62
   refine qR (qT (G := G52) zr46 rfl bs46 rfl (Parts.nil _)) ?_
   intro v63 hv64
   refine qb (qh jw rfl) (qp H54 (i := 1) rfl zf (qz .u8) ty5 rfl ?_)
   obtain ⟨r65, hr66, b⟩ := qu b
   refine qo (vs := [v61, (.int .i64 3), v63, (.int .u8 a1.Id)]) en83 rfl (zt k hv62 hv64 H54 hr66) ?_
   rintro v71 w70 ⟨G67, v72, hG68, rfl, H69, hv73⟩
   refine qy (z := r65) H69 (i := 0) rfl (Lens.id qE) yn rfl rfl hv73 ?_
   intro w75 H74
   refine qd (qe (wp_ret (qI ?_)))
   obtain ⟨v76, hv77, hl78⟩ := H74.loadv (i := 0) rfl yn
   have b := yq b
   subst b
   exact qt rfl (RV.cell rfl hl78 RV.nil) ⟨_, v76, (((hG21.trans hG30).trans hG53).trans hG68), rfl, (St.pk [] 3 H74 rfl (by decide)), hv77⟩
  replace b := ifF b hb60
  refine qn (vb hb60) (wp_skip (qe (wp_seq (qc (qb (qa (.slice A57 r50.1.length c58) rfl) (qb (qh fo32_2 rfl) ?_))))))
  refine qy (z := r50.1) H54 (i := 2) rfl zD ty30 rfl rfl (zw hs59) ?_
  intro w80 H79
  refine qd (qe (wp_seq (qc ?_)))
  refine ql H79 (i := 2) rfl (Lens.id qv) zG rfl ?_
  intro v81 hv82
  refine qR (qT (G := G52) zr46 rfl bs46 rfl (Parts.nil _)) ?_
  intro v83 hv84
  refine qb (qh jw rfl) (qp H79 (i := 1) rfl zf (qz .u8) ty5 rfl ?_)
  obtain ⟨r85, hr86, b⟩ := qu b
  refine qo (vs := [v81, (.int .i64 9), v83, (.int .u8 a1.Id)]) en83 rfl (zt k hv82 hv84 H79 hr86) ?_
  rintro v91 w90 ⟨G87, v92, hG88, rfl, H89, hv93⟩
  refine qy (z := r85) H89 (i := 0) rfl (Lens.id qE) yn rfl rfl hv93 ?_
  intro w95 H94
  refine qd (qe (wp_ret ?_))
  obtain ⟨v96, hv97, hl98⟩ := H94.loadv (i := 0) rfl yn
  have b := yq b
  subst b
  exact qt rfl (RV.cell rfl hl98 RV.nil) ⟨_, v96, (((hG21.trans hG30).trans hG53).trans hG88), rfl, (St.pk [] 3 H94 rfl (by decide)), hv97⟩
 refine qc (qb (qa (.int .i64 r18.2) rfl) ?_)
 iterate 2 refine qb (qa (.bool (r18.2 != 0)) rfl) ?_
 rcases qm (r18.2 != 0) with hb99 | hb99
 ·replace b := ifT b hb99
  iterate 6 refine qJ rfl rfl rfl (vb hb99) ?_
  refine qb (qB (.bool true) (vb hb99) rfl) (qd (qe ?_))
  exact ⟨_, _, true, qf _ ⟨rfl, rfl, rfl, rfl, rfl, yp⟩, GLe.refl _, H22, b⟩
 replace b := ifF b hb99
 refine qj rfl rfl rfl (vb hb99) (qb (qh jw rfl) (qj rfl rfl rfl (vb hb99) (qp H22 (i := 1) rfl zf (qz .u8) ty5 rfl (qj rfl rfl rfl (vb hb99) (qb (qh xe rfl) (qj rfl rfl rfl (vb hb99) (qb (qh fo26_3 rfl) (qj rfl rfl rfl (vb hb99) (qp H22 (i := 2) rfl (Lens.then zq zT) (qz .u8) ty5 rfl ?_)))))))))
 refine qj rfl rfl rfl (vb hb99) (qb (qa (.bool (a1.Id != a0.A.Id)) rfl) (qb (qr (.bool (a1.Id != a0.A.Id)) (vb hb99) rfl) (qd (qe ?_))))
 exact ⟨_, _, (a1.Id != a0.A.Id), qf _ ⟨rfl, rfl, rfl, rfl, rfl, yp⟩, GLe.refl _, H22, b⟩

theorem pr14_Magic_ok {c : World} (k : Hc c) {G : qk} {w : World} {σ : List Ent} {a0 : TNego} {v0_ : Value} (h0_ : qv.V G v0_ a0) (H : St c G w (σ)) {r : Int} (b : xZ a0 = some r) :
  Calls Tryz.prog 90 ([v0_] : List Value).toArray w (zu fun v w' => ∃ (G' : qk), GLe G G' ∧ tup [(.int .u32 r)] = v ∧ St c G' w' (σ)) := by
 unfold xZ at b
 refine qG Tryz.func90 rfl rfl rfl (wp_seq (qc ?_))
 refine zp (K := qv) (x := a0) H rfl h0_ ?_
 intro b1 w4 H2
 refine qb (qa (.int .u32 0) rfl) (qd (qe (wp_seq (qc (qb (qh fo32_2 rfl) ?_)))))
 refine ql H2 (i := 0) rfl zD ty30 rfl ?_
 intro v5 hv6
 obtain ⟨A7, c8, rfl, hs9⟩ := qN hv6
 obtain ⟨r10, hr11, b⟩ := qu b
 refine qo (vs := [(.slice A7 a0.Ours.length c8), (.int .u8 5)]) en156 rfl (pr10_Find_ok k hs9 H2 hr11) ?_
 rintro v16 w15 ⟨G12, v17, hG13, rfl, H14, hv18⟩
 refine qb (qa (.tuple #[v17, (.bool r10.2)]) rfl) (qb (qa v17 rfl) (qb (qa (.bool r10.2) rfl) ?_))
 refine qP H14 xv ?_
 intro b19 w22 H20
 refine qy (z := r10.1) H20 (i := 0) rfl (Lens.id qx) zc rfl rfl hv18 ?_
 intro w24 H23
 refine qb (qa (.bool r10.2) rfl) (qd (qe (wp_seq ?_)))
 refine wp_seq (join (fun a w => ∃ (T0 G1 : _) (x26 : Bool), a = mk 21 (qQ T0 [(3, (pt b19)), (17, (.bool x26))]) ∧ GLe G12 G1 ∧ St c G1 w ((.box b19 133 (qx.at_ r10.1)) :: σ) ∧ pr14_Magic_j1 r10 x26 = some r) ?_ ?_)
 ·rintro a w ⟨T0, G29, x26, rfl, hG27, H28, b⟩
  rcases qm x26 with hb30 | hb30
  ·replace b := ifT b hb30
   refine qs (vb hb30) (wp_seq (qc (qb (qa (.int .u32 0) rfl) (qd (qe (wp_ret (qI ?_)))))))
   have b := yq b
   subst b
   exact qt rfl (RV.tmp rfl RV.nil) ⟨_, (hG13.trans hG27), rfl, (St.pk [] 1 H28 rfl (by decide))⟩
  replace b := ifF b hb30
  refine qn (vb hb30) (wp_skip (qe (wp_seq (qc (qb (qh jp rfl) ?_)))))
  refine ql H28 (i := 0) rfl qZ jy rfl ?_
  intro v31 hv32
  obtain ⟨A33, c34, rfl, hs35⟩ := qN hv32
  obtain ⟨r36, hr37, b⟩ := qu b
  refine qo (vs := [(.slice A33 r10.1.Data.length c34)]) en157 rfl (pr10_Number_ok k hs35 H28 hr37) ?_
  rintro v42 w41 ⟨G38, hG39, rfl, H40⟩
  refine qb (qa (.int .u32 r36) rfl) (qd (qe (wp_ret ?_)))
  have b := yq b
  subst b
  exact qt rfl (RV.tmp rfl RV.nil) ⟨_, ((hG13.trans hG27).trans hG39), rfl, (St.pk [] 1 H40 rfl (by decide))⟩
 refine qc (qb (qh fo32_1 rfl) (qb (qh fo29_0 rfl) (qp H23 (i := 1) rfl (Lens.then ym xO) dBool ty4 rfl (qb (qa (.bool a0.R.Ip) rfl) ?_))))
 rcases qm a0.R.Ip with hb43 | hb43
 ·replace b := ifT b hb43
  iterate 2 refine qJ rfl rfl rfl (vb hb43) ?_
  refine qb (qB (.bool true) (vb hb43) rfl) (qd (qe ?_))
  exact ⟨_, _, true, qf _ ⟨rfl, rfl, yp⟩, GLe.refl _, (St.pk [0] 2 H23 rfl (by decide)), b⟩
 replace b := ifF b hb43
 refine qj rfl rfl rfl (vb hb43) (qb (qa (.bool r10.2) rfl) (qj rfl rfl rfl (vb hb43) (qb (qa (.bool (!r10.2)) rfl) (qb (qr (.bool (!r10.2)) (vb hb43) rfl) (qd (qe ?_))))))
 exact ⟨_, _, (!r10.2), qf _ ⟨rfl, rfl, yp⟩, GLe.refl _, (St.pk [0] 2 H23 rfl (by decide)), b⟩
end Go.Proofs.YtadlndnagfnlgaaGreatDoor.W
