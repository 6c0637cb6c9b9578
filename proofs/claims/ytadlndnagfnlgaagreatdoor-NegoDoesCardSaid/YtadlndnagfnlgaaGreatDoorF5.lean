/- Calls come to what the plain functions say: written by a program (gen.py). -/
import Derived.Test.YtadlndnagfnlgaaGreatDoorG
import Derived.Test.YtadlndnagfnlgaaGreatDoorF3
import Derived.Test.YtadlndnagfnlgaaGreatDoorF4
set_option linter.unusedVariables false
set_option maxRecDepth 20000
namespace Go.Proofs.YtadlndnagfnlgaaGreatDoor.W
open Go
set_option maxHeartbeats 4000000
attribute [local irreducible] wpList wpAny Code.wp wpListIn wpAnyIn Code.wpIn
theorem pr11_Next_ok {c : World} (k : Hc c) {G : qk} {w : World} {σ : List Ent} {a0 : Int} {a1 : Int}  (H : St c G w (σ)) {r : ((List Int) × Int × Bool)} (b : zV a0 a1 = some r) :
  Calls Tryz.prog 195 ([(.int .i64 a0), (.int .i64 a1)] : List Value).toArray w (zu fun v w' => ∃ (G' : qk) (A1' : Option Addr) (c2' : Nat), GLe G G' ∧ tup [(.slice A1' r.1.length c2'), (.int .i64 r.2.1), (.bool r.2.2)] = v ∧ St c G' w' (σ) ∧ SlR kI G' A1' c2' r.1) := by
 unfold zV at b
 refine qG Tryz.func195 rfl rfl rfl (wp_seq (qc (qb (qa (.slice none 0 0) rfl) (qb (qa (.int .i64 0) rfl) (qb (qa (.bool false) rfl) (qd (qe (wp_seq ?_))))))))
 refine wp_seq (join (fun a w => ∃ (T0 G1 : _) (x6 : Bool), a = mk 153 (qQ T0 [(0, (.int .i64 a0)), (1, (.int .i64 a1)), (28, (.bool x6))]) ∧ GLe G G1 ∧ St c G1 w (σ) ∧ jR a0 a1 x6 = some r) ?_ ?_)
 ·rintro a w ⟨T0, G9, x6, rfl, hG7, H8, b⟩
  rcases qm x6 with hb10 | hb10
  ·replace b := ifT b hb10
   refine qs (vb hb10) (wp_seq (qc (qb (qa (.int .i64 a0) rfl) ?_)))
   obtain ⟨r11, hr12, b⟩ := qu b
   refine qo (vs := [(.int .i64 a0)]) en221 rfl (pr11_never_ok k H8 hr12) ?_
   rintro v17 w16 ⟨G13, A18, c19, hG14, rfl, H15, hs20⟩
   refine qb (qa (.slice A18 r11.1.length c19) rfl) (qb (qa (.int .i64 r11.2.1) rfl) (qb (qa (.bool r11.2.2) rfl) (qb (qa (.slice A18 r11.1.length c19) rfl) (qb (qa (.int .i64 r11.2.1) rfl) (qb (qa (.bool r11.2.2) rfl) (qd (qe (wp_ret (qI ?_)))))))))
   have b := yq b
   subst b
   exact qt rfl (RV.tmp rfl (RV.tmp rfl (RV.tmp rfl RV.nil))) ⟨_, A18, c19, (hG7.trans hG14), rfl, H15, hs20⟩
  replace b := ifF b hb10
  refine qn (vb hb10) (wp_skip (qe (wp_seq (wp_seq (qc (qb (qa (.int .i64 a1) rfl) (qd (qe (wp_block (wp_seq (qc ?_)))))))))))
  iterate 2 refine qb (qa (.bool (a1 == 0)) rfl) ?_
  refine qd (qe ?_)
  rcases qm (a1 == 0) with hb21 | hb21
  ·replace b := ifT b hb21
   refine qs (vb hb21) (wp_seq (qc (qb (qa (.int .i64 a0) rfl) ?_)))
   obtain ⟨r22, hr23, b⟩ := qu b
   refine qo (vs := [(.int .i64 a0)]) en222 rfl (pr11_up_ok k H8 hr23) ?_
   rintro v28 w27 ⟨G24, A29, c30, hG25, rfl, H26, hs31⟩
   refine qb (qa (.slice A29 r22.1.length c30) rfl) (qb (qa (.int .i64 r22.2.1) rfl) (qb (qa (.bool r22.2.2) rfl) (qb (qa (.slice A29 r22.1.length c30) rfl) (qb (qa (.int .i64 r22.2.1) rfl) (qb (qa (.bool r22.2.2) rfl) (qd (qe (wp_ret (zg (qI ?_))))))))))
   have b := yq b
   subst b
   exact qt rfl (RV.tmp rfl (RV.tmp rfl (RV.tmp rfl RV.nil))) ⟨_, A29, c30, (hG7.trans hG25), rfl, H26, hs31⟩
  replace b := ifF b hb21
  refine qn (vb hb21) (wp_seq (qc ?_))
  iterate 2 refine qb (qa (.bool (a1 == 1)) rfl) ?_
  refine qd (qe ?_)
  rcases qm (a1 == 1) with hb32 | hb32
  ·replace b := ifT b hb32
   refine qs (vb hb32) (wp_seq (qc (qb (qa (.int .i64 a0) rfl) ?_)))
   obtain ⟨r33, hr34, b⟩ := qu b
   refine qo (vs := [(.int .i64 a0)]) en223 rfl (pr11_down_ok k H8 hr34) ?_
   rintro v39 w38 ⟨G35, A40, c41, hG36, rfl, H37, hs42⟩
   refine qb (qa (.slice A40 r33.1.length c41) rfl) (qb (qa (.int .i64 r33.2.1) rfl) (qb (qa (.bool r33.2.2) rfl) (qb (qa (.slice A40 r33.1.length c41) rfl) (qb (qa (.int .i64 r33.2.1) rfl) (qb (qa (.bool r33.2.2) rfl) (qd (qe (wp_ret (zg (qI ?_))))))))))
   have b := yq b
   subst b
   exact qt rfl (RV.tmp rfl (RV.tmp rfl (RV.tmp rfl RV.nil))) ⟨_, A40, c41, (hG7.trans hG36), rfl, H37, hs42⟩
  replace b := ifF b hb32
  refine qn (vb hb32) (wp_seq (qc ?_))
  iterate 2 refine qb (qa (.bool (a1 == 2)) rfl) ?_
  refine qd (qe ?_)
  rcases qm (a1 == 2) with hb43 | hb43
  ·replace b := ifT b hb43
   refine qs (vb hb43) (wp_seq (qc (qb (qa (.int .i64 a0) rfl) ?_)))
   obtain ⟨r44, hr45, b⟩ := qu b
   refine qo (vs := [(.int .i64 a0)]) en224 rfl (pr11_opened_ok k H8 hr45) ?_
   rintro v50 w49 ⟨G46, A51, c52, hG47, rfl, H48, hs53⟩
   refine qb (qa (.slice A51 r44.1.length c52) rfl) (qb (qa (.int .i64 r44.2.1) rfl) (qb (qa (.bool r44.2.2) rfl) (qb (qa (.slice A51 r44.1.length c52) rfl) (qb (qa (.int .i64 r44.2.1) rfl) (qb (qa (.bool r44.2.2) rfl) (qd (qe (wp_ret (zg (qI ?_))))))))))
   have b := yq b
   subst b
   exact qt rfl (RV.tmp rfl (RV.tmp rfl (RV.tmp rfl RV.nil))) ⟨_, A51, c52, (hG7.trans hG47), rfl, H48, hs53⟩
  replace b := ifF b hb43
  refine qn (vb hb43) (wp_seq (qc ?_))
  iterate 2 refine qb (qa (.bool (a1 == 3)) rfl) ?_
  refine qd (qe ?_)
  rcases qm (a1 == 3) with hb54 | hb54
  ·replace b := ifT b hb54
   refine qs (vb hb54) (wp_seq (qc (qb (qa (.int .i64 a0) rfl) ?_)))
   obtain ⟨r55, hr56, b⟩ := qu b
   refine qo (vs := [(.int .i64 a0)]) en225 rfl (pr11_closed_ok k H8 hr56) ?_
   rintro v61 w60 ⟨G57, A62, c63, hG58, rfl, H59, hs64⟩
   refine qb (qa (.slice A62 r55.1.length c63) rfl) (qb (qa (.int .i64 r55.2.1) rfl) (qb (qa (.bool r55.2.2) rfl) (qb (qa (.slice A62 r55.1.length c63) rfl) (qb (qa (.int .i64 r55.2.1) rfl) (qb (qa (.bool r55.2.2) rfl) (qd (qe (wp_ret (zg (qI ?_))))))))))
   have b := yq b
   subst b
   exact qt rfl (RV.tmp rfl (RV.tmp rfl (RV.tmp rfl RV.nil))) ⟨_, A62, c63, (hG7.trans hG58), rfl, H59, hs64⟩
  replace b := ifF b hb54
  refine qn (vb hb54) (wp_seq (qc ?_))
  iterate 2 refine qb (qa (.bool (a1 == 4)) rfl) ?_
  refine qd (qe ?_)
  rcases qm (a1 == 4) with hb65 | hb65
  ·replace b := ifT b hb65
   refine qs (vb hb65) (wp_seq (qc (qb (qa (.int .i64 a0) rfl) ?_)))
   obtain ⟨r66, hr67, b⟩ := qu b
   refine qo (vs := [(.int .i64 a0), (.bool true)]) en226 rfl (pr11_timeout_ok k H8 hr67) ?_
   rintro v72 w71 ⟨G68, A73, c74, hG69, rfl, H70, hs75⟩
   refine qb (qa (.slice A73 r66.1.length c74) rfl) (qb (qa (.int .i64 r66.2.1) rfl) (qb (qa (.bool r66.2.2) rfl) (qb (qa (.slice A73 r66.1.length c74) rfl) (qb (qa (.int .i64 r66.2.1) rfl) (qb (qa (.bool r66.2.2) rfl) (qd (qe (wp_ret (zg (qI ?_))))))))))
   have b := yq b
   subst b
   exact qt rfl (RV.tmp rfl (RV.tmp rfl (RV.tmp rfl RV.nil))) ⟨_, A73, c74, (hG7.trans hG69), rfl, H70, hs75⟩
  replace b := ifF b hb65
  refine qn (vb hb65) (wp_seq (qc ?_))
  iterate 2 refine qb (qa (.bool (a1 == 5)) rfl) ?_
  refine qd (qe ?_)
  rcases qm (a1 == 5) with hb76 | hb76
  ·replace b := ifT b hb76
   refine qs (vb hb76) (wp_seq (qc (qb (qa (.int .i64 a0) rfl) ?_)))
   obtain ⟨r77, hr78, b⟩ := qu b
   refine qo (vs := [(.int .i64 a0), (.bool false)]) en226 rfl (pr11_timeout_ok k H8 hr78) ?_
   rintro v83 w82 ⟨G79, A84, c85, hG80, rfl, H81, hs86⟩
   refine qb (qa (.slice A84 r77.1.length c85) rfl) (qb (qa (.int .i64 r77.2.1) rfl) (qb (qa (.bool r77.2.2) rfl) (qb (qa (.slice A84 r77.1.length c85) rfl) (qb (qa (.int .i64 r77.2.1) rfl) (qb (qa (.bool r77.2.2) rfl) (qd (qe (wp_ret (zg (qI ?_))))))))))
   have b := yq b
   subst b
   exact qt rfl (RV.tmp rfl (RV.tmp rfl (RV.tmp rfl RV.nil))) ⟨_, A84, c85, (hG7.trans hG80), rfl, H81, hs86⟩
  replace b := ifF b hb76
  refine qn (vb hb76) (wp_seq (qc ?_))
  iterate 2 refine qb (qa (.bool (a1 == 6)) rfl) ?_
  refine qd (qe ?_)
  rcases qm (a1 == 6) with hb87 | hb87
  ·replace b := ifT b hb87
   refine qs (vb hb87) (wp_seq (qc (qb (qa (.int .i64 a0) rfl) ?_)))
   obtain ⟨r88, hr89, b⟩ := qu b
   refine qo (vs := [(.int .i64 a0), (.bool true), (.int .i64 8)]) en227 rfl (pr11_request_ok k H8 hr89) ?_
   rintro v94 w93 ⟨G90, A95, c96, hG91, rfl, H92, hs97⟩
   refine qb (qa (.slice A95 r88.1.length c96) rfl) (qb (qa (.int .i64 r88.2.1) rfl) (qb (qa (.bool r88.2.2) rfl) (qb (qa (.slice A95 r88.1.length c96) rfl) (qb (qa (.int .i64 r88.2.1) rfl) (qb (qa (.bool r88.2.2) rfl) (qd (qe (wp_ret (zg (qI ?_))))))))))
   have b := yq b
   subst b
   exact qt rfl (RV.tmp rfl (RV.tmp rfl (RV.tmp rfl RV.nil))) ⟨_, A95, c96, (hG7.trans hG91), rfl, H92, hs97⟩
  replace b := ifF b hb87
  refine qn (vb hb87) (wp_seq (qc ?_))
  iterate 2 refine qb (qa (.bool (a1 == 7)) rfl) ?_
  refine qd (qe ?_)
  rcases qm (a1 == 7) with hb98 | hb98
  ·replace b := ifT b hb98
   refine qs (vb hb98) (wp_seq (qc (qb (qa (.int .i64 a0) rfl) ?_)))
   obtain ⟨r99, hr100, b⟩ := qu b
   refine qo (vs := [(.int .i64 a0), (.bool false), (.int .i64 9)]) en227 rfl (pr11_request_ok k H8 hr100) ?_
   rintro v105 w104 ⟨G101, A106, c107, hG102, rfl, H103, hs108⟩
   refine qb (qa (.slice A106 r99.1.length c107) rfl) (qb (qa (.int .i64 r99.2.1) rfl) (qb (qa (.bool r99.2.2) rfl) (qb (qa (.slice A106 r99.1.length c107) rfl) (qb (qa (.int .i64 r99.2.1) rfl) (qb (qa (.bool r99.2.2) rfl) (qd (qe (wp_ret (zg (qI ?_))))))))))
   have b := yq b
   subst b
   exact qt rfl (RV.tmp rfl (RV.tmp rfl (RV.tmp rfl RV.nil))) ⟨_, A106, c107, (hG7.trans hG102), rfl, H103, hs108⟩
  replace b := ifF b hb98
  refine qn (vb hb98) (wp_seq (qc ?_))
  iterate 2 refine qb (qa (.bool (a1 == 8)) rfl) ?_
  refine qd (qe ?_)
  rcases qm (a1 == 8) with hb109 | hb109
  ·replace b := ifT b hb109
   refine qs (vb hb109) (wp_seq (qc (qb (qa (.int .i64 a0) rfl) ?_)))
   obtain ⟨r110, hr111, b⟩ := qu b
   refine qo (vs := [(.int .i64 a0), (.bool true)]) en228 rfl (pr11_answer_ok k H8 hr111) ?_
   rintro v116 w115 ⟨G112, A117, c118, hG113, rfl, H114, hs119⟩
   refine qb (qa (.slice A117 r110.1.length c118) rfl) (qb (qa (.int .i64 r110.2.1) rfl) (qb (qa (.bool r110.2.2) rfl) (qb (qa (.slice A117 r110.1.length c118) rfl) (qb (qa (.int .i64 r110.2.1) rfl) (qb (qa (.bool r110.2.2) rfl) (qd (qe (wp_ret (zg (qI ?_))))))))))
   have b := yq b
   subst b
   exact qt rfl (RV.tmp rfl (RV.tmp rfl (RV.tmp rfl RV.nil))) ⟨_, A117, c118, (hG7.trans hG113), rfl, H114, hs119⟩
  replace b := ifF b hb109
  refine qn (vb hb109) (wp_seq (qc ?_))
  iterate 2 refine qb (qa (.bool (a1 == 9)) rfl) ?_
  refine qd (qe ?_)
  rcases qm (a1 == 9) with hb120 | hb120
  ·replace b := ifT b hb120
   refine qs (vb hb120) (wp_seq (qc (qb (qa (.int .i64 a0) rfl) ?_)))
   obtain ⟨r121, hr122, b⟩ := qu b
   refine qo (vs := [(.int .i64 a0), (.bool false)]) en228 rfl (pr11_answer_ok k H8 hr122) ?_
   rintro v127 w126 ⟨G123, A128, c129, hG124, rfl, H125, hs130⟩
   refine qb (qa (.slice A128 r121.1.length c129) rfl) (qb (qa (.int .i64 r121.2.1) rfl) (qb (qa (.bool r121.2.2) rfl) (qb (qa (.slice A128 r121.1.length c129) rfl) (qb (qa (.int .i64 r121.2.1) rfl) (qb (qa (.bool r121.2.2) rfl) (qd (qe (wp_ret (zg (qI ?_))))))))))
   have b := yq b
   subst b
   exact qt rfl (RV.tmp rfl (RV.tmp rfl (RV.tmp rfl RV.nil))) ⟨_, A128, c129, (hG7.trans hG124), rfl, H125, hs130⟩
  replace b := ifF b hb120
  refine qn (vb hb120) (wp_seq (qc ?_))
  iterate 2 refine qb (qa (.bool (a1 == 10)) rfl) ?_
  refine qd (qe ?_)
  rcases qm (a1 == 10) with hb131 | hb131
  ·replace b := ifT b hb131
   refine qs (vb hb131) (wp_seq (qc (qb (qa (.int .i64 a0) rfl) ?_)))
   obtain ⟨r132, hr133, b⟩ := qu b
   refine qo (vs := [(.int .i64 a0)]) en229 rfl (pr11_end_ok k H8 hr133) ?_
   rintro v138 w137 ⟨G134, A139, c140, hG135, rfl, H136, hs141⟩
   refine qb (qa (.slice A139 r132.1.length c140) rfl) (qb (qa (.int .i64 r132.2.1) rfl) (qb (qa (.bool r132.2.2) rfl) (qb (qa (.slice A139 r132.1.length c140) rfl) (qb (qa (.int .i64 r132.2.1) rfl) (qb (qa (.bool r132.2.2) rfl) (qd (qe (wp_ret (zg (qI ?_))))))))))
   have b := yq b
   subst b
   exact qt rfl (RV.tmp rfl (RV.tmp rfl (RV.tmp rfl RV.nil))) ⟨_, A139, c140, (hG7.trans hG135), rfl, H136, hs141⟩
  replace b := ifF b hb131
  refine qn (vb hb131) (wp_seq (qc ?_))
  iterate 2 refine qb (qa (.bool (a1 == 11)) rfl) ?_
  refine qd (qe ?_)
  rcases qm (a1 == 11) with hb142 | hb142
  ·replace b := ifT b hb142
   refine qs (vb hb142) (wp_seq (qc (qb (qa (.int .i64 a0) rfl) ?_)))
   obtain ⟨r143, hr144, b⟩ := qu b
   refine qo (vs := [(.int .i64 a0)]) en230 rfl (pr11_ended_ok k H8 hr144) ?_
   rintro v149 w148 ⟨G145, A150, c151, hG146, rfl, H147, hs152⟩
   refine qb (qa (.slice A150 r143.1.length c151) rfl) (qb (qa (.int .i64 r143.2.1) rfl) (qb (qa (.bool r143.2.2) rfl) (qb (qa (.slice A150 r143.1.length c151) rfl) (qb (qa (.int .i64 r143.2.1) rfl) (qb (qa (.bool r143.2.2) rfl) (qd (qe (wp_ret (zg (qI ?_))))))))))
   have b := yq b
   subst b
   exact qt rfl (RV.tmp rfl (RV.tmp rfl (RV.tmp rfl RV.nil))) ⟨_, A150, c151, (hG7.trans hG146), rfl, H147, hs152⟩
  replace b := ifF b hb142
  refine qn (vb hb142) (wp_seq (qc ?_))
  iterate 2 refine qb (qa (.bool (a1 == 12)) rfl) ?_
  refine qd (qe ?_)
  rcases qm (a1 == 12) with hb153 | hb153
  ·replace b := ifT b hb153
   refine qs (vb hb153) (wp_seq (qc (qb (qa (.int .i64 a0) rfl) ?_)))
   refine zh (K := kI) (vs := [(.int .i64 12)]) (xs := ([12] : (List Int))) H8 xX el3 rfl ⟨((qz .i64).toV _ _), yp⟩ rfl (by decide) ?_
   intro g154 w156 H155
   obtain ⟨G158, hG159, H160, hs161⟩ := H155.stay (i := 0) rfl (H155.capA (i := 0) rfl)
   obtain ⟨r162, hr163, b⟩ := qu b
   refine qo (vs := [(.int .i64 a0), (.slice (some ⟨g154, 0, none⟩) ([12] : (List Int)).length 1)]) en231 rfl (qK k hs161 H160 hr163) ?_
   rintro v168 w167 ⟨G164, A169, c170, hG165, rfl, H166, hs171⟩
   refine qb (qa (.slice A169 r162.1.length c170) rfl) (qb (qa (.int .i64 r162.2.1) rfl) (qb (qa (.bool r162.2.2) rfl) (qb (qa (.slice A169 r162.1.length c170) rfl) (qb (qa (.int .i64 r162.2.1) rfl) (qb (qa (.bool r162.2.2) rfl) (qd (qe (wp_ret (zg (qI ?_))))))))))
   have b := yq b
   subst b
   exact qt rfl (RV.tmp rfl (RV.tmp rfl (RV.tmp rfl RV.nil))) ⟨_, A169, c170, ((hG7.trans hG159).trans hG165), rfl, H166, hs171⟩
  replace b := ifF b hb153
  refine qn (vb hb153) (wp_seq (qc ?_))
  iterate 2 refine qb (qa (.bool (a1 == 13)) rfl) ?_
  refine qd (qe ?_)
  rcases qm (a1 == 13) with hb172 | hb172
  ·replace b := ifT b hb172
   refine qs (vb hb172) (wp_seq (qc (qb (qa (.int .i64 a0) rfl) ?_)))
   obtain ⟨r173, hr174, b⟩ := qu b
   refine qo (vs := [(.int .i64 a0), (.bool true)]) en232 rfl (pr11_reject_ok k H8 hr174) ?_
   rintro v179 w178 ⟨G175, A180, c181, hG176, rfl, H177, hs182⟩
   refine qb (qa (.slice A180 r173.1.length c181) rfl) (qb (qa (.int .i64 r173.2.1) rfl) (qb (qa (.bool r173.2.2) rfl) (qb (qa (.slice A180 r173.1.length c181) rfl) (qb (qa (.int .i64 r173.2.1) rfl) (qb (qa (.bool r173.2.2) rfl) (qd (qe (wp_ret (zg (qI ?_))))))))))
   have b := yq b
   subst b
   exact qt rfl (RV.tmp rfl (RV.tmp rfl (RV.tmp rfl RV.nil))) ⟨_, A180, c181, (hG7.trans hG176), rfl, H177, hs182⟩
  replace b := ifF b hb172
  refine qn (vb hb172) (wp_seq (qc ?_))
  iterate 2 refine qb (qa (.bool (a1 == 14)) rfl) ?_
  refine qd (qe ?_)
  rcases qm (a1 == 14) with hb183 | hb183
  ·replace b := ifT b hb183
   refine qs (vb hb183) (wp_seq (qc (qb (qa (.int .i64 a0) rfl) ?_)))
   obtain ⟨r184, hr185, b⟩ := qu b
   refine qo (vs := [(.int .i64 a0), (.bool false)]) en232 rfl (pr11_reject_ok k H8 hr185) ?_
   rintro v190 w189 ⟨G186, A191, c192, hG187, rfl, H188, hs193⟩
   refine qb (qa (.slice A191 r184.1.length c192) rfl) (qb (qa (.int .i64 r184.2.1) rfl) (qb (qa (.bool r184.2.2) rfl) (qb (qa (.slice A191 r184.1.length c192) rfl) (qb (qa (.int .i64 r184.2.1) rfl) (qb (qa (.bool r184.2.2) rfl) (qd (qe (wp_ret (zg (qI ?_))))))))))
   have b := yq b
   subst b
   exact qt rfl (RV.tmp rfl (RV.tmp rfl (RV.tmp rfl RV.nil))) ⟨_, A191, c192, (hG7.trans hG187), rfl, H188, hs193⟩
  replace b := ifF b hb183
  refine qn (vb hb183) (wp_skip (zn (qe (wp_seq (wp_seq (qc (qb (qa (.int .i64 a0) rfl) (qb (qa (.bool (a0 == 9)) rfl) (qd (qe ?_))))))))))
  rcases qm (a0 == 9) with hb194 | hb194
  ·replace b := ifT b hb194
   refine qs (vb hb194) (wp_seq (qc ?_))
   refine zh (K := kI) (vs := [(.int .i64 13)]) (xs := ([13] : (List Int))) H8 xX el3 rfl ⟨((qz .i64).toV _ _), yp⟩ rfl (by decide) ?_
   intro g195 w197 H196
   obtain ⟨G199, hG200, H201, hs202⟩ := H196.stay (i := 0) rfl (H196.capA (i := 0) rfl)
   obtain ⟨r203, hr204, b⟩ := qu b
   refine qo (vs := [(.int .i64 9), (.slice (some ⟨g195, 0, none⟩) ([13] : (List Int)).length 1)]) en231 rfl (qK k hs202 H201 hr204) ?_
   rintro v209 w208 ⟨G205, A210, c211, hG206, rfl, H207, hs212⟩
   refine qb (qa (.slice A210 r203.1.length c211) rfl) (qb (qa (.int .i64 r203.2.1) rfl) (qb (qa (.bool r203.2.2) rfl) (qb (qa (.slice A210 r203.1.length c211) rfl) (qb (qa (.int .i64 r203.2.1) rfl) (qb (qa (.bool r203.2.2) rfl) (qd (qe (wp_ret (qI ?_)))))))))
   have b := yq b
   subst b
   exact qt rfl (RV.tmp rfl (RV.tmp rfl (RV.tmp rfl RV.nil))) ⟨_, A210, c211, ((hG7.trans hG200).trans hG206), rfl, H207, hs212⟩
  replace b := ifF b hb194
  refine qn (vb hb194) (wp_skip (qe (wp_seq (qc (qb (qa (.int .i64 a0) rfl) ?_)))))
  obtain ⟨r213, hr214, b⟩ := qu b
  refine qo (vs := [(.int .i64 a0)]) en233 rfl (zl k H8 hr214) ?_
  rintro v219 w218 ⟨G215, A220, c221, hG216, rfl, H217, hs222⟩
  refine qb (qa (.slice A220 r213.1.length c221) rfl) (qb (qa (.int .i64 r213.2.1) rfl) (qb (qa (.bool r213.2.2) rfl) (qb (qa (.slice A220 r213.1.length c221) rfl) (qb (qa (.int .i64 r213.2.1) rfl) (qb (qa (.bool r213.2.2) rfl) (qd (qe (wp_ret ?_))))))))
  have b := yq b
  subst b
  exact qt rfl (RV.tmp rfl (RV.tmp rfl (RV.tmp rfl RV.nil))) ⟨_, A220, c221, (hG7.trans hG216), rfl, H217, hs222⟩
 refine qc (qb (qa (.int .i64 a0) rfl) ?_)
 iterate 2 refine qb (qa (.bool (decide (a0 < 0))) rfl) ?_
 rcases qm (decide (a0 < 0)) with hb223 | hb223
 ·replace b := ifT b hb223
  iterate 2 refine qJ rfl rfl rfl (vb hb223) ?_
  refine qb (qB (.bool true) (vb hb223) rfl) (qb (qa (.bool true) rfl) ?_)
  iterate 2 refine qJ rfl rfl rfl rfl ?_
  refine qb (qB (.bool true) rfl rfl) (qb (qa (.bool true) rfl) ?_)
  iterate 2 refine qJ rfl rfl rfl rfl ?_
  refine qb (qB (.bool true) rfl rfl) (qb (qa (.bool true) rfl) ?_)
  iterate 3 refine qJ rfl rfl rfl rfl ?_
  iterate 2 refine wl_nou rfl rfl rfl rfl ?_
  refine qJ rfl rfl rfl rfl (qb (qB (.bool true) rfl rfl) (qd (qe ?_)))
  exact ⟨_, _, true, qf _ ⟨rfl, rfl, rfl, yp⟩, GLe.refl _, H, b⟩
 replace b := ifF b hb223
 refine qj rfl rfl rfl (vb hb223) (qb (qa (.int .i64 a0) rfl) (qj rfl rfl rfl (vb hb223) (qb (qa (.bool (decide (a0 > 9))) rfl) (qb (qr (.bool (decide (a0 > 9))) (vb hb223) rfl) (qb (qa (.bool (decide (a0 > 9))) rfl) ?_)))))
 rcases qm (decide (a0 > 9)) with hb224 | hb224
 ·replace b := ifT b hb224
  iterate 2 refine qJ rfl rfl rfl (vb hb224) ?_
  refine qb (qB (.bool true) (vb hb224) rfl) (qb (qa (.bool true) rfl) ?_)
  iterate 2 refine qJ rfl rfl rfl rfl ?_
  refine qb (qB (.bool true) rfl rfl) (qb (qa (.bool true) rfl) ?_)
  iterate 3 refine qJ rfl rfl rfl rfl ?_
  iterate 2 refine wl_nou rfl rfl rfl rfl ?_
  refine qJ rfl rfl rfl rfl (qb (qB (.bool true) rfl rfl) (qd (qe ?_)))
  exact ⟨_, _, true, qf _ ⟨rfl, rfl, rfl, yp⟩, GLe.refl _, H, b⟩
 replace b := ifF b hb224
 refine qj rfl rfl rfl (vb hb224) (qb (qa (.int .i64 a1) rfl) (qj rfl rfl rfl (vb hb224) (qb (qa (.bool (decide (a1 < 0))) rfl) (qb (qr (.bool (decide (a1 < 0))) (vb hb224) rfl) (qb (qa (.bool (decide (a1 < 0))) rfl) ?_)))))
 rcases qm (decide (a1 < 0)) with hb225 | hb225
 ·replace b := ifT b hb225
  iterate 2 refine qJ rfl rfl rfl (vb hb225) ?_
  refine qb (qB (.bool true) (vb hb225) rfl) (qb (qa (.bool true) rfl) ?_)
  iterate 3 refine qJ rfl rfl rfl rfl ?_
  iterate 2 refine wl_nou rfl rfl rfl rfl ?_
  refine qJ rfl rfl rfl rfl (qb (qB (.bool true) rfl rfl) (qd (qe ?_)))
  exact ⟨_, _, true, qf _ ⟨rfl, rfl, rfl, yp⟩, GLe.refl _, H, b⟩
 replace b := ifF b hb225
 refine qj rfl rfl rfl (vb hb225) (qb (qa (.int .i64 a1) rfl) (qj rfl rfl rfl (vb hb225) (qb (qa (.bool (decide (a1 > 15))) rfl) (qb (qr (.bool (decide (a1 > 15))) (vb hb225) rfl) (qb (qa (.bool (decide (a1 > 15))) rfl) ?_)))))
 rcases qm (decide (a1 > 15)) with hb226 | hb226
 ·replace b := ifT b hb226
  iterate 3 refine qJ rfl rfl rfl (vb hb226) ?_
  iterate 2 refine wl_nou rfl rfl rfl rfl ?_
  refine qJ rfl rfl rfl (vb hb226) (qb (qB (.bool true) (vb hb226) rfl) (qd (qe ?_)))
  exact ⟨_, _, true, qf _ ⟨rfl, rfl, rfl, yp⟩, GLe.refl _, H, b⟩
 replace b := ifF b hb226
 refine qj rfl rfl rfl (vb hb226) (qb (qa (.int .i64 a1) rfl) (qj rfl rfl rfl (vb hb226) (qb (qa (.bool (decide (a1 > 5))) rfl) (qj rfl rfl rfl (vb hb226) (qb (qa (.bool (decide (a1 > 5))) rfl) ?_)))))
 rcases qm (decide (a1 > 5)) with hb227 | hb227
 ·replace b := ifT b hb227
  refine qj rfl rfl rfl (vb hb227) (qb (qa (.int .i64 a0) rfl) (qj rfl rfl rfl (vb hb227) (qb (qa (.bool (decide (a0 < 2))) rfl) (qj rfl rfl rfl (vb hb226) (qb (qB (.bool (decide (a0 < 2))) (vb hb227) rfl) (qb (qr (.bool (decide (a0 < 2))) (vb hb226) rfl) (qd (qe ?_))))))))
  exact ⟨_, _, (decide (a0 < 2)), qf _ ⟨rfl, rfl, rfl, yp⟩, GLe.refl _, H, b⟩
 replace b := ifF b hb227
 iterate 2 refine qJ rfl rfl rfl (vb hb227) ?_
 refine qj rfl rfl rfl (vb hb226) (qb (qr (.bool false) (vb hb227) rfl) (qb (qr (.bool false) (vb hb226) rfl) (qd (qe ?_))))
 exact ⟨_, _, false, qf _ ⟨rfl, rfl, rfl, yp⟩, GLe.refl _, H, b⟩

theorem pr11_Has_ok {c : World} (k : Hc c) {G : qk} {w : World} {σ : List Ent} {a0 : (List Int)} {A0_ : Option Addr} {c0_ : Nat} {a1 : Int} (h0_ : SlR kI G A0_ c0_ a0) (H : St c G w (σ)) {r : Bool} (b : jx a0 a1 = some r) :
  Calls Tryz.prog 150 ([(.slice A0_ a0.length c0_), (.int .i64 a1)] : List Value).toArray w (zu fun v w' => ∃ (G' : qk), GLe G G' ∧ tup [(.bool r)] = v ∧ St c G' w' (σ)) := by
 unfold jx at b
 refine qG Tryz.func150 rfl rfl rfl (wp_seq (qc (qb (qa (.bool false) rfl) (qd (qe (wp_seq (wp_seq (qc (qb (qa (.int .i64 0) rfl) (qd (qe (wp_block ?_))))))))))))
 refine ja (fun (s : Int) a w => ∃ (T0 : Fr) (G1 : qk), a = mk 18 (qQ T0 [(0, (.slice A0_ a0.length c0_)), (1, (.int .i64 a1)), (5, (.int .i64 s))]) ∧ GLe G G1 ∧ St c G1 w (σ)) b ?_ ?_
 ·exact ⟨_, _, qf _ ⟨rfl, rfl, rfl, yp⟩, GLe.refl _, H⟩
 rintro x9 a w y12 ⟨T0, G13, rfl, hG10, H11⟩ b hy1
 refine wp_seq (wp_seq (qc (qb (qa (.int .i64 x9) rfl) (qb (qa (.slice A0_ a0.length c0_) rfl) (qb (zb xX rfl) (qb (qa (.bool (decide (x9 < (a0.length : Int)))) rfl) (qd (qe ?_))))))))
 rcases qm (decide (x9 < (a0.length : Int))) with hb14 | hb14
 ·replace b := ifT b hb14
  refine qs (vb hb14) (wp_skip (qe (wp_seq (wp_block (wp_seq (qc (qb (qa (.slice A0_ a0.length c0_) rfl) (qb (qa (.int .i64 x9) rfl) ?_))))))))
  obtain ⟨x15, hx16, b⟩ := qu b
  refine qR (qY (h0_.mono hG10) xX ty3 rfl rfl hx16) ?_
  intro a17 hp18
  refine zd H11 hp18 (qz .i64) ty3 rfl ?_
  refine qb (qa (.int .i64 a1) rfl) (qb (qa (.bool (x15 == a1)) rfl) (qd (qe ?_)))
  rcases qm (x15 == a1) with hb19 | hb19
  ·replace b := ifT b hb19
   refine qs (vb hb19) (wp_seq (qc (qb (qa (.bool true) rfl) (qd (qe (wp_ret (zg ?_)))))))
   iterate 2 refine qI ?_
   replace b := jJ b hy1
   refine zg (qI ?_)
   have b := yq b
   subst b
   exact qt rfl (RV.tmp rfl RV.nil) ⟨_, hG10, rfl, H11⟩
  replace b := ifF b hb19
  refine qn (vb hb19) (wp_skip (zn (qe (qc (qb (qa (.int .i64 x9) rfl) ?_)))))
  iterate 2 refine qb (qa (.int .i64 (IntKind.i64.wrap (x9 + 1))) rfl) ?_
  refine qd (qe ?_)
  exact ⟨_, (yq b).symm, _, _, qf _ ⟨rfl, rfl, rfl, yp⟩, hG10, H11⟩
 replace b := ifF b hb14
 refine qn (vb hb14) ?_
 refine wp_exit ?_
 iterate 2 refine xB ?_
 replace b := jJ b hy1
 refine blk_e ?_
 refine qe (wp_seq (qc (qb (qa (.bool false) rfl) (qd (qe (wp_ret ?_))))))
 have b := yq b
 subst b
 exact qt rfl (RV.tmp rfl RV.nil) ⟨_, hG10, rfl, H11⟩

theorem pr12_Do_ok {c : World} (k : Hc c) {G : qk} {w : World} {σ : List Ent} {a0 : TAuto} {v0_ : Value} {a1 : Int} (h0_ : za.V G v0_ a0) (H : St c G w (σ)) {r : (TAuto × (List Int) × Int)} (b : jI a0 a1 = some r) :
  Calls Tryz.prog 149 ([v0_, (.int .i64 a1)] : List Value).toArray w (zu fun v w' => ∃ (G' : qk) (v1' : Value) (A2' : Option Addr) (c3' : Nat), GLe G G' ∧ tup [v1', (.slice A2' r.2.1.length c3'), (.int .i64 r.2.2)] = v ∧ St c G' w' (σ) ∧ za.V G' v1' r.1 ∧ SlR kI G' A2' c3' r.2.1) := by
 unfold jI at b
 refine qG Tryz.func149 rfl rfl rfl (wp_seq (qc ?_))
 refine zp (K := za) (x := a0) H rfl h0_ ?_
 intro b1 w4 H2
 refine qP H2 zr26 ?_
 intro b5 w8 H6
 refine qb (qa (.slice none 0 0) rfl) (qb (qa (.int .i64 0) rfl) (qd (qe (wp_seq (qc (qb (qh fo26_0 rfl) (qp H6 (i := 1) rfl zZ (qz .i64) ty3 rfl (qb (qa (.int .i64 a1) rfl) ?_))))))))
 obtain ⟨r9, hr10, b⟩ := qu b
 refine qo (vs := [(.int .i64 a0.State), (.int .i64 a1)]) en195 rfl (pr11_Next_ok k H6 hr10) ?_
 rintro v15 w14 ⟨G11, A16, c17, hG12, rfl, H13, hs18⟩
 refine qb (qa (.tuple #[(.slice A16 r9.1.length c17), (.int .i64 r9.2.1), (.bool r9.2.2)]) rfl) (qb (qa (.slice A16 r9.1.length c17) rfl) (qb (qa (.int .i64 r9.2.1) rfl) (qb (qa (.bool r9.2.2) rfl) (qb (qa (.slice A16 r9.1.length c17) rfl) (qb (qa (.int .i64 r9.2.1) rfl) (qb (qa (.bool r9.2.2) rfl) (qd (qe (wp_seq (wp_seq (qc ?_)))))))))))
 refine qb (qa (.bool r9.2.2) rfl) (qb (qa (.bool (!r9.2.2)) rfl) (qd (qe ?_)))
 rcases qm (!r9.2.2) with hb19 | hb19
 ·replace b := ifT b hb19
  refine qs (vb hb19) (wp_seq (qc ?_))
  refine ql H13 (i := 1) rfl (Lens.id za) xA rfl ?_
  intro v20 hv21
  refine qy (z := a0) H13 (i := 0) rfl (Lens.id za) xA rfl rfl hv21 ?_
  intro w23 H22
  refine qb (qa (.slice none 0 0) rfl) (qb (qa (.int .i64 1) rfl) (qd (qe (wp_ret (qI ?_)))))
  obtain ⟨v24, hv25, hl26⟩ := H22.loadv (i := 0) rfl xA
  have b := yq b
  subst b
  exact qt rfl (RV.cell rfl hl26 (RV.tmp rfl (RV.tmp rfl RV.nil))) ⟨_, v24, none, 0, hG12, rfl, (St.pk [] 2 H22 rfl (by decide)), hv25, (SlR.nil _ _)⟩
 replace b := ifF b hb19
 refine qn (vb hb19) (wp_skip (qe (wp_seq (qc (qb (qa (.slice A16 r9.1.length c17) rfl) ?_)))))
 obtain ⟨r27, hr28, b⟩ := qu b
 refine qo (vs := [(.slice A16 r9.1.length c17), (.int .i64 10)]) en150 rfl (pr11_Has_ok k hs18 H13 hr28) ?_
 rintro v33 w32 ⟨G29, hG30, rfl, H31⟩
 refine qb (qa (.bool r27) rfl) (qd (qe (wp_seq (wp_seq (qc (qb (qa (.int .i64 0) rfl) (qd (qe (wp_block ?_)))))))))
 refine ja (fun (s : (Int × TAuto)) a w => ∃ (T0 : Fr) (G1 : qk), a = mk 67 (qQ T0 [(2, (pt b1)), (4, (pt b5)), (7, (.slice A16 r9.1.length c17)), (8, (.int .i64 r9.2.1)), (10, (.bool r27)), (11, (.int .i64 s.1))]) ∧ GLe G29 G1 ∧ St c G1 w ((.box b5 26 (za.at_ zTAuto)) :: (.box b1 26 (za.at_ s.2)) :: σ)) b ?_ ?_
 ·exact ⟨_, _, qf _ ⟨rfl, rfl, rfl, rfl, rfl, rfl, yp⟩, GLe.refl _, H31⟩
 rintro ⟨x143, x144⟩ a w y147 ⟨T0, G148, rfl, hG145, H146⟩ b hy34
 refine wp_seq (wp_seq (qc (qb (qa (.int .i64 x143) rfl) (qb (qa (.slice A16 r9.1.length c17) rfl) (qb (zb xX rfl) (qb (qa (.bool (decide (x143 < (r9.1.length : Int)))) rfl) (qd (qe ?_))))))))
 rcases qm (decide (x143 < (r9.1.length : Int))) with hb149 | hb149
 ·replace b := ifT b hb149
  refine qs (vb hb149) (wp_skip (qe ?_))
  refine wp_seq (join (fun a w => ∃ (T0 G1 : _) (x174 : TAuto), a = mk 67 (qQ T0 [(2, (pt b1)), (4, (pt b5)), (7, (.slice A16 r9.1.length c17)), (8, (.int .i64 r9.2.1)), (10, (.bool r27)), (11, (.int .i64 x143))]) ∧ GLe G148 G1 ∧ St c G1 w ((.box b5 26 (za.at_ zTAuto)) :: (.box b1 26 (za.at_ x174)) :: σ) ∧ jl x143 x174 = some y147) ?_ ?_)
  ·rintro a w ⟨T0, G177, x174, rfl, hG175, H176, b⟩
   refine qc (qb (qa (.int .i64 x143) rfl) ?_)
   iterate 2 refine qb (qa (.int .i64 (IntKind.i64.wrap (x143 + 1))) rfl) ?_
   refine qd (qe ?_)
   exact ⟨_, (yq b).symm, _, _, qf _ ⟨rfl, rfl, rfl, rfl, rfl, rfl, yp⟩, (hG145.trans hG175), H176⟩
  refine wp_block (wp_seq (qc (qb (qa (.slice A16 r9.1.length c17) rfl) (qb (qa (.int .i64 x143) rfl) ?_))))
  obtain ⟨x178, hx179, b⟩ := qu b
  refine qR (qY (hs18.mono (hG30.trans hG145)) xX ty3 rfl rfl hx179) ?_
  intro a180 hp181
  refine zd H146 hp181 (qz .i64) ty3 rfl ?_
  refine qd (qe (wp_block (wp_seq (qc ?_))))
  iterate 2 refine qb (qa (.bool (x178 == 5)) rfl) ?_
  refine qd (qe ?_)
  rcases qm (x178 == 5) with hb182 | hb182
  ·replace b := ifT b hb182
   refine qs (vb hb182) (wp_seq (qc (qb (qh fo26_1 rfl) ?_)))
   refine qy (z := 5) H146 (i := 1) rfl jF ty3 rfl rfl ((qz .i64).toV _ _) ?_
   intro w184 H183
   refine qd (qe (wp_seq (qc (qb (qa (.bool r27) rfl) (qd (qe ?_))))))
   rcases qm r27 with hb185 | hb185
   ·replace b := ifT b hb185
    refine qs (vb hb185) (qc (qb (qh fo26_1 rfl) ?_))
    refine qy (z := 2) H183 (i := 1) rfl jF ty3 rfl rfl ((qz .i64).toV _ _) ?_
    intro w187 H186
    refine qd (zn (zn (qe ?_)))
    exact ⟨_, _, (TAuto.mk x144.State 2 x144.Left x144.Id), qf _ ⟨rfl, rfl, rfl, rfl, rfl, rfl, yp⟩, GLe.refl _, H186, b⟩
   replace b := ifF b hb185
   refine qn (vb hb185) (wp_skip ?_)
   iterate 2 refine zn ?_
   refine qe ?_
   exact ⟨_, _, (TAuto.mk x144.State 5 x144.Left x144.Id), qf _ ⟨rfl, rfl, rfl, rfl, rfl, rfl, yp⟩, GLe.refl _, H183, b⟩
  replace b := ifF b hb182
  refine qn (vb hb182) (wp_seq (qc ?_))
  iterate 2 refine qb (qa (.bool (x178 == 6)) rfl) ?_
  refine qd (qe ?_)
  rcases qm (x178 == 6) with hb188 | hb188
  ·replace b := ifT b hb188
   refine qs (vb hb188) (wp_seq (qc (qb (qh fo26_1 rfl) ?_)))
   refine qy (z := 0) H146 (i := 1) rfl jF ty3 rfl rfl ((qz .i64).toV _ _) ?_
   intro w190 H189
   refine qd (qe (qc (qb (qh fo26_2 rfl) ?_)))
   refine qy (z := 3) H189 (i := 1) rfl zM ty3 rfl rfl ((qz .i64).toV _ _) ?_
   intro w192 H191
   refine qd (zn (zn (qe ?_)))
   exact ⟨_, _, (TAuto.mk x144.State 0 3 x144.Id), qf _ ⟨rfl, rfl, rfl, rfl, rfl, rfl, yp⟩, GLe.refl _, H191, b⟩
  replace b := ifF b hb188
  refine qn (vb hb188) ?_
  refine wp_seq (join (fun a w => ∃ (T0 G1 : _) (x194 : Bool), a = mk 67 (qQ T0 [(2, (pt b1)), (4, (pt b5)), (7, (.slice A16 r9.1.length c17)), (8, (.int .i64 r9.2.1)), (10, (.bool r27)), (11, (.int .i64 x143)), (45, (.bool x194))]) ∧ GLe G148 G1 ∧ St c G1 w ((.box b5 26 (za.at_ zTAuto)) :: (.box b1 26 (za.at_ x144)) :: σ) ∧ xj x143 x144 x194 = some y147) ?_ ?_)
  ·rintro a w ⟨T0, G197, x194, rfl, hG195, H196, b⟩
   rcases qm x194 with hb198 | hb198
   ·replace b := ifT b hb198
    refine qs (vb hb198) (wp_seq (qc (qb (qh fo26_1 rfl) (qp H196 (i := 1) rfl jF (qz .i64) ty3 rfl (qb (qa (.int .i64 (IntKind.i64.wrap (x144.Count - 1))) rfl) (qb (rn_max rfl rfl) (qb (qh fo26_1 rfl) ?_)))))))
    refine qy (z := (if 0 < (IntKind.i64.wrap (x144.Count - 1)) then (IntKind.i64.wrap (x144.Count - 1)) else 0)) H196 (i := 1) rfl jF ty3 rfl rfl ((qz .i64).toV _ _) ?_
    intro w200 H199
    refine qd (qe (wp_seq (qc (qb (qh fo26_2 rfl) ?_))))
    refine qy (z := 3) H199 (i := 1) rfl zM ty3 rfl rfl ((qz .i64).toV _ _) ?_
    intro w202 H201
    refine qd (qe (qc (qb (qh fo26_3 rfl) (qp H201 (i := 1) rfl zT (qz .u8) ty5 rfl (qb (qa (.int .u8 (IntKind.u8.wrap (x144.Id + 1))) rfl) (qb (qh fo26_3 rfl) ?_))))))
    refine qy (z := (IntKind.u8.wrap (x144.Id + 1))) H201 (i := 1) rfl zT ty5 rfl rfl ((qz .u8).toV _ _) ?_
    intro w204 H203
    refine qd (zn (zn (qe ?_)))
    exact ⟨_, _, (TAuto.mk x144.State (if 0 < (IntKind.i64.wrap (x144.Count - 1)) then (IntKind.i64.wrap (x144.Count - 1)) else 0) 3 (IntKind.u8.wrap (x144.Id + 1))), qf _ ⟨rfl, rfl, rfl, rfl, rfl, rfl, yp⟩, hG195, H203, b⟩
   replace b := ifF b hb198
   refine qn (vb hb198) (wp_skip ?_)
   iterate 2 refine zn ?_
   refine qe ?_
   exact ⟨_, _, x144, qf _ ⟨rfl, rfl, rfl, rfl, rfl, rfl, yp⟩, hG195, H196, b⟩
  refine wp_seq (qc ?_)
  iterate 2 refine qb (qa (.bool (x178 == 7)) rfl) ?_
  refine qd (qe ?_)
  rcases qm (x178 == 7) with hb205 | hb205
  ·replace b := ifT b hb205
   refine qs (vb hb205) (wp_skip (qe ?_))
   exact ⟨_, _, (x178 == 7), qf _ ⟨rfl, rfl, rfl, rfl, rfl, rfl, rfl, yp⟩, GLe.refl _, H146, b⟩
  replace b := ifF b hb205
  refine qn (vb hb205) (qc ?_)
  iterate 2 refine qb (qa (.bool (x178 == 10)) rfl) ?_
  refine qd (qe ?_)
  exact ⟨_, _, (x178 == 10), qf _ ⟨rfl, rfl, rfl, rfl, rfl, rfl, rfl, yp⟩, GLe.refl _, H146, b⟩
 replace b := ifF b hb149
 refine qn (vb hb149) ?_
 refine wp_exit ?_
 iterate 2 refine xB ?_
 replace b := jJ b hy34
 refine blk_e ?_
 refine qe (wp_seq (qc (qb (qa (.int .i64 r9.2.1) rfl) (qb (qh fo26_0 rfl) ?_))))
 refine qy (z := r9.2.1) H146 (i := 1) rfl zZ ty3 rfl rfl ((qz .i64).toV _ _) ?_
 intro w207 H206
 refine qd (qe (wp_seq (qc (qb (qa (.int .i64 r9.2.1) rfl) ?_))))
 obtain ⟨r208, hr209, b⟩ := qu b
 refine qo (vs := [(.int .i64 r9.2.1)]) en134 rfl (pr11_Timed_ok k H206 hr209) ?_
 rintro v214 w213 ⟨G210, hG211, rfl, H212⟩
 refine qb (qa (.bool r208) rfl) (qd (qe (wp_seq (wp_seq (qc (qb (qa (.bool r208) rfl) (qb (qa (.bool (!r208)) rfl) (qd (qe ?_)))))))))
 rcases qm (!r208) with hb215 | hb215
 ·replace b := ifT b hb215
  refine qs (vb hb215) (qc (qb (qh fo26_2 rfl) ?_))
  refine qy (z := 0) H212 (i := 1) rfl zM ty3 rfl rfl ((qz .i64).toV _ _) ?_
  intro w217 H216
  refine qd (qe (wp_seq (qc ?_)))
  refine ql H216 (i := 1) rfl (Lens.id za) xA rfl ?_
  intro v218 hv219
  refine qb (qa (.slice A16 r9.1.length c17) rfl) ?_
  refine qy (z := (TAuto.mk r9.2.1 x144.Count 0 x144.Id)) H216 (i := 0) rfl (Lens.id za) xA rfl rfl hv219 ?_
  intro w221 H220
  refine qb (qa (.slice A16 r9.1.length c17) rfl) (qb (qa (.int .i64 0) rfl) (qd (qe (wp_ret ?_))))
  obtain ⟨v222, hv223, hl224⟩ := H220.loadv (i := 0) rfl xA
  have b := yq b
  subst b
  exact qt rfl (RV.cell rfl hl224 (RV.tmp rfl (RV.tmp rfl RV.nil))) ⟨_, v222, A16, c17, (((hG12.trans hG30).trans hG145).trans hG211), rfl, (St.pk [] 2 H220 rfl (by decide)), hv223, (hs18.mono ((hG30.trans hG145).trans hG211))⟩
 replace b := ifF b hb215
 refine qn (vb hb215) (wp_skip (qe (wp_seq (qc ?_))))
 refine ql H212 (i := 1) rfl (Lens.id za) xA rfl ?_
 intro v225 hv226
 refine qb (qa (.slice A16 r9.1.length c17) rfl) ?_
 refine qy (z := (TAuto.mk r9.2.1 x144.Count x144.Left x144.Id)) H212 (i := 0) rfl (Lens.id za) xA rfl rfl hv226 ?_
 intro w228 H227
 refine qb (qa (.slice A16 r9.1.length c17) rfl) (qb (qa (.int .i64 0) rfl) (qd (qe (wp_ret ?_))))
 obtain ⟨v229, hv230, hl231⟩ := H227.loadv (i := 0) rfl xA
 have b := yq b
 subst b
 exact qt rfl (RV.cell rfl hl231 (RV.tmp rfl (RV.tmp rfl RV.nil))) ⟨_, v229, A16, c17, (((hG12.trans hG30).trans hG145).trans hG211), rfl, (St.pk [] 2 H227 rfl (by decide)), hv230, (hs18.mono ((hG30.trans hG145).trans hG211))⟩

theorem zY {c : World} (k : Hc c) {G : qk} {w : World} {σ : List Ent} {a0 : Int}  (H : St c G w (σ)) {r : (List Int)} (b : zI a0 = some r) :
  Calls Tryz.prog 89 ([(.int .u32 a0)] : List Value).toArray w (zu fun v w' => ∃ (G' : qk) (g1' : Option Nat) (A2' : Option Addr) (c3' : Nat), GLe G G' ∧ tup [(.slice A2' r.length c3')] = v ∧ St c G' w' ((.row kB g1' A2' c3' 5 r) :: σ)) := by
 unfold zI at b
 refine qG Tryz.func89 rfl rfl rfl (wp_seq (qc (qb (qa (.slice none 0 0) rfl) (qd (qe (wp_seq (qc (qb (qa (.int .u32 a0) rfl) (qb (qa (.int .u32 (IntKind.u32.wrap (Int.tdiv a0 16777216))) rfl) (qb (zU un27 un5 rfl) (qb (qa (.int .u32 a0) rfl) (qb (qa (.int .u32 (IntKind.u32.wrap (Int.tdiv a0 65536))) rfl) (qb (qa (.int .u32 (Int.tmod (IntKind.u32.wrap (Int.tdiv a0 65536)) 256)) rfl) ?_)))))))))))))
 refine qb (zU un27 un5 rfl) (qb (qa (.int .u32 a0) rfl) (qb (qa (.int .u32 (IntKind.u32.wrap (Int.tdiv a0 256))) rfl) (qb (qa (.int .u32 (Int.tmod (IntKind.u32.wrap (Int.tdiv a0 256)) 256)) rfl) (qb (zU un27 un5 rfl) (qb (qa (.int .u32 a0) rfl) (qb (qa (.int .u32 (Int.tmod a0 256)) rfl) (qb (zU un27 un5 rfl) ?_)))))))
 refine zh (K := kB) (vs := [(.int .u8 (IntKind.u8.wrap ((IntKind.u32.wrap (Int.tdiv a0 16777216))))), (.int .u8 (IntKind.u8.wrap ((Int.tmod (IntKind.u32.wrap (Int.tdiv a0 65536)) 256)))), (.int .u8 (IntKind.u8.wrap ((Int.tmod (IntKind.u32.wrap (Int.tdiv a0 256)) 256)))), (.int .u8 (IntKind.u8.wrap ((Int.tmod a0 256))))]) (xs := ([(IntKind.u8.wrap ((IntKind.u32.wrap (Int.tdiv a0 16777216)))), (IntKind.u8.wrap ((Int.tmod (IntKind.u32.wrap (Int.tdiv a0 65536)) 256))), (IntKind.u8.wrap ((Int.tmod (IntKind.u32.wrap (Int.tdiv a0 256)) 256))), (IntKind.u8.wrap ((Int.tmod a0 256)))] : (List Int))) H zJ el5 rfl ⟨((qz .u8).toV _ _), ((qz .u8).toV _ _), ((qz .u8).toV _ _), ((qz .u8).toV _ _), yp⟩ rfl (by decide) ?_
 intro g1 w3 H2
 refine qb (qa (.slice (some ⟨g1, 0, none⟩) ([(IntKind.u8.wrap ((IntKind.u32.wrap (Int.tdiv a0 16777216)))), (IntKind.u8.wrap ((Int.tmod (IntKind.u32.wrap (Int.tdiv a0 65536)) 256))), (IntKind.u8.wrap ((Int.tmod (IntKind.u32.wrap (Int.tdiv a0 256)) 256))), (IntKind.u8.wrap ((Int.tmod a0 256)))] : (List Int)).length 4) rfl) (qd (qe (wp_ret ?_)))
 have b := yq b
 subst b
 exact qt rfl (RV.tmp rfl RV.nil) ⟨_, (some g1), (some ⟨g1, 0, none⟩), 4, GLe.refl _, rfl, H2⟩

theorem pr13_Ask_ok {c : World} (k : Hc c) {G : qk} {w : World} {σ : List Ent} {a0 : TRule} {v0_ : Value} (h0_ : qU.V G v0_ a0) (H : St c G w (σ)) {r : (List TOpt)} (b : pr13_Ask a0 = some r) :
  Calls Tryz.prog 151 ([v0_] : List Value).toArray w (zu fun v w' => ∃ (G' : qk) (A1' : Option Addr) (c2' : Nat), GLe G G' ∧ tup [(.slice A1' r.length c2')] = v ∧ St c G' w' (σ) ∧ SlR qx G' A1' c2' r) := by
 unfold pr13_Ask at b
 refine qG Tryz.func151 rfl rfl rfl (wp_seq (qc ?_))
 refine zp (K := qU) (x := a0) H rfl h0_ ?_
 intro b1 w4 H2
 refine qb (qa (.slice none 0 0) rfl) (qd (qe (wp_seq (wp_seq (qc (qb (qh fo29_0 rfl) (qp H2 (i := 0) rfl xO dBool ty4 rfl (qd (qe ?_)))))))))
 rcases qm a0.Ip with hb5 | hb5
 ·replace b := ifT b hb5
  refine qs (vb hb5) (wp_seq (qc (qb (qh fo29_4 rfl) (qp H2 (i := 0) rfl lTRule_Ours (qz .u32) ty27 rfl ?_))))
  obtain ⟨r6, hr7, b⟩ := qu b
  refine qo (vs := [(.int .u32 a0.Ours)]) en89 rfl (zY k H2 hr7) ?_
  rintro v12 w11 ⟨G8, g13, A14, c15, hG9, rfl, H10⟩
  obtain ⟨G17, hG18, H19, hs20⟩ := H10.stay (i := 0) rfl (H10.capA (i := 0) rfl)
  refine qR (qT (G := G17) xv rfl bs133 rfl (Parts.cons jc qX ((qz .u8).toV _ _) (Parts.cons jp qZ (zw hs20) (Parts.nil _)))) ?_
  intro v21 hv22
  refine zh (K := qx) (vs := [v21]) (xs := ([(TOpt.mk 3 r6)] : (List TOpt))) H19 zQ el133 rfl ⟨hv22, yp⟩ rfl (by decide) ?_
  intro g23 w25 H24
  refine qb (qa (.slice (some ⟨g23, 0, none⟩) ([(TOpt.mk 3 r6)] : (List TOpt)).length 1) rfl) (qd (qe (wp_ret (qI ?_))))
  obtain ⟨G27, hG28, H29, hs30⟩ := H24.stay (i := 0) rfl (H24.capA (i := 0) rfl)
  have b := yq b
  subst b
  exact qt rfl (RV.tmp rfl RV.nil) ⟨_, (some ⟨g23, 0, none⟩), 1, ((hG9.trans hG18).trans hG28), rfl, (St.pk [] 1 H29 rfl (by decide)), hs30⟩
 replace b := ifF b hb5
 refine qn (vb hb5) (wp_skip (qe (wp_seq (qc ?_))))
 refine zh (K := kB) (vs := [(.int .u8 194), (.int .u8 35), (.int .u8 5)]) (xs := ([194, 35, 5] : (List Int))) H2 zJ el5 rfl ⟨((qz .u8).toV _ _), ((qz .u8).toV _ _), ((qz .u8).toV _ _), yp⟩ rfl (by decide) ?_
 intro g31 w33 H32
 obtain ⟨G35, hG36, H37, hs38⟩ := H32.stay (i := 0) rfl (H32.capA (i := 0) rfl)
 refine qR (qT (G := G35) xv rfl bs133 rfl (Parts.cons jc qX ((qz .u8).toV _ _) (Parts.cons jp qZ (zw hs38) (Parts.nil _)))) ?_
 intro v39 hv40
 refine qb (qh fo29_1 rfl) (qp H37 (i := 0) rfl lTRule_Magic (qz .u32) ty27 rfl ?_)
 obtain ⟨r41, hr42, b⟩ := qu b
 refine qo (vs := [(.int .u32 a0.Magic)]) en89 rfl (zY k H37 hr42) ?_
 rintro v47 w46 ⟨G43, g48, A49, c50, hG44, rfl, H45⟩
 obtain ⟨G52, hG53, H54, hs55⟩ := H45.stay (i := 0) rfl (H45.capA (i := 0) rfl)
 refine qR (qT (G := G52) xv rfl bs133 rfl (Parts.cons jc qX ((qz .u8).toV _ _) (Parts.cons jp qZ (zw hs55) (Parts.nil _)))) ?_
 intro v56 hv57
 refine zh (K := qx) (vs := [v39, v56]) (xs := ([(TOpt.mk 3 ([194, 35, 5] : (List Int))), (TOpt.mk 5 r41)] : (List TOpt))) H54 zQ el133 rfl ⟨(hv40.mono (hG44.trans hG53)), hv57, yp⟩ rfl (by decide) ?_
 intro g58 w60 H59
 refine qb (qa (.slice (some ⟨g58, 0, none⟩) ([(TOpt.mk 3 ([194, 35, 5] : (List Int))), (TOpt.mk 5 r41)] : (List TOpt)).length 2) rfl) (qd (qe (wp_ret ?_)))
 obtain ⟨G62, hG63, H64, hs65⟩ := H59.stay (i := 0) rfl (H59.capA (i := 0) rfl)
 have b := yq b
 subst b
 exact qt rfl (RV.tmp rfl RV.nil) ⟨_, (some ⟨g58, 0, none⟩), 2, (((hG36.trans hG44).trans hG53).trans hG63), rfl, (St.pk [] 1 H64 rfl (by decide)), hs65⟩

theorem pr14_acted_ok {c : World} (k : Hc c) {G : qk} {w : World} {σ : List Ent} {a0 : TNego} {v0_ : Value} {a1 : Int} {a2 : (List Int)} {A2_ : Option Addr} {c2_ : Nat} {a3 : TPkt} {v3_ : Value} {a4 : TPkt} {v4_ : Value} (h0_ : qv.V G v0_ a0) (h2_ : SlR kI G A2_ c2_ a2) (h3_ : qC.V G v3_ a3) (h4_ : qC.V G v4_ a4) (H : St c G w (σ)) {r : Tref14_Out} (b : jM a0 a1 a2 a3 a4 = some r) :
  Calls Tryz.prog 85 ([v0_, (.int .i64 a1), (.slice A2_ a2.length c2_), v3_, v4_] : List Value).toArray w (zu fun v w' => ∃ (G' : qk) (v1' : Value), GLe G G' ∧ tup [v1'] = v ∧ St c G' w' (σ) ∧ qE.V G' v1' r) := by
 unfold jM at b
 refine qG Tryz.func85 rfl rfl rfl (wp_seq (qc ?_))
 refine zp (K := qv) (x := a0) H rfl h0_ ?_
 intro b1 w4 H2
 refine zp (K := qC) (x := a3) H2 rfl h3_ ?_
 intro b5 w8 H6
 refine zp (K := qC) (x := a4) H6 rfl h4_ ?_
 intro b9 w12 H10
 refine qP H10 zr78 ?_
 intro b13 w16 H14
 refine qd (qe (wp_seq (qc (qb (qa (.slice A2_ a2.length c2_) rfl) ?_))))
 obtain ⟨r17, hr18, b⟩ := qu b
 refine qo (vs := [(.slice A2_ a2.length c2_), (.int .i64 5)]) en150 rfl (pr11_Has_ok k h2_ H14 hr18) ?_
 rintro v23 w22 ⟨G19, hG20, rfl, H21⟩
 refine qb (qa (.bool r17) rfl) (qd (qe (wp_seq (qc (qb (qa (.slice A2_ a2.length c2_) rfl) ?_)))))
 obtain ⟨r24, hr25, b⟩ := qu b
 refine qo (vs := [(.slice A2_ a2.length c2_), (.int .i64 7)]) en150 rfl (pr11_Has_ok k (h2_.mono hG20) H21 hr25) ?_
 rintro v30 w29 ⟨G26, hG27, rfl, H28⟩
 refine qb (qa (.bool r24) rfl) (qd (qe ?_))
 refine wp_seq (join (fun a w => ∃ (T0 G1 : _) (x54 : TNego), a = mk 115 (qQ T0 [(2, (.slice A2_ a2.length c2_)), (5, (pt b1)), (8, (pt b5)), (9, (pt b9)), (10, (pt b13))]) ∧ GLe G26 G1 ∧ St c G1 w ((.box b13 78 (qE.at_ qD)) :: (.box b9 46 (qC.at_ a4)) :: (.box b5 46 (qC.at_ a3)) :: (.box b1 32 (qv.at_ x54)) :: σ) ∧ yd a2 a3 a4 x54 = some r) ?_ ?_)
 ·rintro a w ⟨T0, G57, x54, rfl, hG55, H56, b⟩
  refine wp_seq (qc ?_)
  refine ql H56 (i := 3) rfl (Lens.id qv) zG rfl ?_
  intro v58 hv59
  refine qb (qa (.slice A2_ a2.length c2_) rfl) ?_
  refine qR (qT (G := G57) zr78V rfl bs78 rfl (Parts.cons fo78_0 lTref14_OutV_N hv59 (Parts.cons fo78_3 lTref14_OutV_L (zw (h2_.mono ((hG20.trans hG27).trans hG55))) (Parts.nil _)))) ?_
  intro v60 hv61
  refine qP H56 zr78V ?_
  intro b62 w65 H63
  refine qy (z := (Tref14_OutV.mk x54 (.slice none 0 0) (.slice none 0 0) a2)) H63 (i := 0) rfl (Lens.id xc) yn rfl rfl hv61 ?_
  intro w67 H66
  refine qd (qe (wp_seq (wp_seq (qc (qb (qa (.int .i64 0) rfl) (qd (qe (wp_block ?_))))))))
  have H842 := H66.nilrow qC none 46
  have H844 := H842.nilrow kI none 3
  refine ja (fun (s : (Int × TNego × (List TPkt) × (List Int) × (List Int))) a w => ∃ (T0 : Fr) (G1 : qk) (g443 : Option Nat) (A444 : Option Addr) (c445 : Nat) (g448 : Option Nat) (A449 : Option Addr) (c450 : Nat), a = mk 115 (qQ T0 [(2, (.slice A2_ a2.length c2_)), (5, (pt b1)), (8, (pt b5)), (9, (pt b9)), (10, (pt b13)), (13, (pt b62)), (14, (.int .i64 s.1))]) ∧ GLe G57 G1 ∧ St c G1 w ((.box b62 78 (xc.at_ (Tref14_OutV.mk s.2.1 (.slice A444 s.2.2.1.length c445) (.slice A449 s.2.2.2.1.length c450) s.2.2.2.2))) :: (.row qC g443 A444 c445 46 s.2.2.1) :: (.row kI g448 A449 c450 3 s.2.2.2.1) :: (.box b13 78 (qE.at_ qD)) :: (.box b9 46 (qC.at_ a4)) :: (.box b5 46 (qC.at_ a3)) :: (.box b1 32 (qv.at_ x54)) :: σ)) b ?_ ?_
  ·exact ⟨_, _, none, none, 0, none, none, 0, qf _ ⟨rfl, rfl, rfl, rfl, rfl, rfl, rfl, yp⟩, GLe.refl _, (St.pk [2, 1, 0, 3, 4, 5, 6] 7 H844 rfl (by decide))⟩
  rintro ⟨x440, x441, x442, x447, x452⟩ a w y455 ⟨T0, G456, g443, A444, c445, g448, A449, c450, rfl, hG453, H454⟩ b hy68
  refine wp_seq (wp_seq (qc (qb (qa (.int .i64 x440) rfl) (qb (qa (.slice A2_ a2.length c2_) rfl) (qb (zb xX rfl) (qb (qa (.bool (decide (x440 < (a2.length : Int)))) rfl) (qd (qe ?_))))))))
  rcases qm (decide (x440 < (a2.length : Int))) with hb457 | hb457
  ·replace b := ifT b hb457
   refine qs (vb hb457) (wp_skip (qe ?_))
   refine wp_seq (join (fun a w => ∃ (T0 G1 : _) (x601 : TNego) (x602 : (List TPkt)) (x607 : (List Int)) (x612 : (List Int)) (g603 A604 c605 g608 A609 c610 : _), a = mk 115 (qQ T0 [(2, (.slice A2_ a2.length c2_)), (5, (pt b1)), (8, (pt b5)), (9, (pt b9)), (10, (pt b13)), (13, (pt b62)), (14, (.int .i64 x440))]) ∧ GLe G456 G1 ∧ St c G1 w ((.box b62 78 (xc.at_ (Tref14_OutV.mk x601 (.slice A604 x602.length c605) (.slice A609 x607.length c610) x612))) :: (.row qC g603 A604 c605 46 x602) :: (.row kI g608 A609 c610 3 x607) :: (.box b13 78 (qE.at_ qD)) :: (.box b9 46 (qC.at_ a4)) :: (.box b5 46 (qC.at_ a3)) :: (.box b1 32 (qv.at_ x54)) :: σ) ∧ zR x440 x601 x602 x607 x612 = some y455) ?_ ?_)
   ·rintro a w ⟨T0, G615, x601, x602, x607, x612, g603, A604, c605, g608, A609, c610, rfl, hG613, H614, b⟩
    refine qc (qb (qa (.int .i64 x440) rfl) ?_)
    iterate 2 refine qb (qa (.int .i64 (IntKind.i64.wrap (x440 + 1))) rfl) ?_
    refine qd (qe ?_)
    exact ⟨_, (yq b).symm, _, _, g603, A604, c605, g608, A609, c610, qf _ ⟨rfl, rfl, rfl, rfl, rfl, rfl, rfl, yp⟩, (hG453.trans hG613), H614⟩
   refine wp_block (wp_seq (qc (qb (qa (.slice A2_ a2.length c2_) rfl) (qb (qa (.int .i64 x440) rfl) ?_))))
   obtain ⟨x616, hx617, b⟩ := qu b
   refine qR (qY (h2_.mono (((hG20.trans hG27).trans hG55).trans hG453)) xX ty3 rfl rfl hx617) ?_
   intro a618 hp619
   refine zd H454 hp619 (qz .i64) ty3 rfl ?_
   refine qd (qe (wp_block ?_))
   refine wp_seq (join (fun a w => ∃ (T0 G1 : _) (x623 : Bool) (x624 : TNego) (x625 : (List TPkt)) (x630 : (List Int)) (x635 : (List Int)) (g626 A627 c628 g631 A632 c633 : _), a = mk 115 (qQ T0 [(2, (.slice A2_ a2.length c2_)), (5, (pt b1)), (8, (pt b5)), (9, (pt b9)), (10, (pt b13)), (13, (pt b62)), (14, (.int .i64 x440)), (51, (.int .i64 x616)), (52, (.bool x623))]) ∧ GLe G456 G1 ∧ St c G1 w ((.box b62 78 (xc.at_ (Tref14_OutV.mk x624 (.slice A627 x625.length c628) (.slice A632 x630.length c633) x635))) :: (.row qC g626 A627 c628 46 x625) :: (.row kI g631 A632 c633 3 x630) :: (.box b13 78 (qE.at_ qD)) :: (.box b9 46 (qC.at_ a4)) :: (.box b5 46 (qC.at_ a3)) :: (.box b1 32 (qv.at_ x54)) :: σ) ∧ ji a2 a3 a4 x54 x440 x616 x623 x624 x625 x630 x635 = some y455) ?_ ?_)
   ·rintro a w ⟨T0, G638, x623, x624, x625, x630, x635, g626, A627, c628, g631, A632, c633, rfl, hG636, H637, b⟩
    rcases qm x623 with hb639 | hb639
    ·replace b := ifT b hb639
     refine qs (vb hb639) ?_
     refine jP (f := 10) H637 mixed ?_
     intro w640 H641
     refine xW (by repeat (first | exact PF.base | apply PF.then_ | apply PF.blk)) ?_
     intro B E
     obtain ⟨x644, hx645, b⟩ := qu b
     obtain ⟨r652, hr653, b⟩ := qu b
     refine qF (fuel := 3) (m := 127) (fun a w => ∃ T0 G1 g681 A682 c683, a = mk 115 (qQ T0 [(2, (.slice A2_ a2.length c2_)), (5, (pt b1)), (8, (pt b5)), (9, (pt b9)), (10, (pt b13)), (13, (pt b62)), (14, (.int .i64 x440)), (58, (.slice A632 x630.length c633)), (63, (.slice A682 ([x644] : (List Int)).length c683))]) ∧ GLe G638 G1 ∧ St c G1 w ((.box b1 32 (qv.at_ x54)) :: (.box b5 46 (qC.at_ a3)) :: (.box b9 46 (qC.at_ a4)) :: (.box b13 78 (qE.at_ qD)) :: (.box b62 78 (xc.at_ (Tref14_OutV.mk x624 (.slice A627 x625.length c628) (.slice A632 x630.length c633) x635))) :: (.row qC g626 A627 c628 46 x625) :: (.row kI g631 A632 c633 3 x630) :: (.row kI g681 A682 c683 3 ([x644] : (List Int))) :: σ)) ?_ ?_
     ·rintro a w ⟨T0, G680, g681, A682, c683, rfl, hG678, H679⟩
      refine qi [7] ⟨qg (m' := 255) fun I j => ?_, yp⟩
      refine zB H679 xX el3 (i := 6) rfl rfl rfl ((H679.okAt (i := 7) rfl).src) hr653 ?_
      intro g691 A692 c693 w694 H695
      refine qd (j _ _ ?_)
      refine qq (i := 8) (m' := 511) rfl (qh fo78_2 rfl) B E ?_
      refine qi [9] ⟨qg (m' := 1023) fun I j => ?_, yp⟩
      refine qy (z := (.slice A692 r652.length c693)) H695 (i := 4) rfl lTref14_OutV_Told ty44 rfl rfl ⟨[_], rfl, rfl, rfl⟩ ?_
      intro w697 H696
      refine qd (j _ _ (zA ?_))
      iterate 2 refine zn ?_
      refine qe ?_
      exact ⟨_, _, x624, x625, r652, x635, g626, A627, c628, g691, A692, c693, qf _ ⟨rfl, rfl, rfl, rfl, rfl, rfl, rfl, yp⟩, (hG636.trans hG678), (St.pk [4, 5, 6, 3, 2, 1, 0] 8 H696 rfl (by decide)), b⟩
     intro hM677
     refine qF (fuel := 4) (m := 63) (fun a w => ∃ T0 G1, a = mk 115 (qQ T0 [(2, (.slice A2_ a2.length c2_)), (5, (pt b1)), (8, (pt b5)), (9, (pt b9)), (10, (pt b13)), (13, (pt b62)), (14, (.int .i64 x440)), (58, (.slice A632 x630.length c633)), (62, (.int .i64 x644))]) ∧ GLe G638 G1 ∧ St c G1 w ((.box b1 32 (qv.at_ x54)) :: (.box b5 46 (qC.at_ a3)) :: (.box b9 46 (qC.at_ a4)) :: (.box b13 78 (qE.at_ qD)) :: (.box b62 78 (xc.at_ (Tref14_OutV.mk x624 (.slice A627 x625.length c628) (.slice A632 x630.length c633) x635))) :: (.row qC g626 A627 c628 46 x625) :: (.row kI g631 A632 c633 3 x630) :: σ)) ?_ ?_
     ·rintro a w ⟨T0, G672, rfl, hG670, H671⟩
      refine qi [6] ⟨qg (m' := 127) fun I j => ?_, yp⟩
      refine zh (K := kI) (vs := [(.int .i64 x644)]) (xs := ([x644] : (List Int))) H671 xX el3 rfl ⟨((qz .i64).toV _ _), yp⟩ rfl (by decide) ?_
      intro g698 w700 H699
      refine qd (j _ _ ?_)
      exact hM677 _ _ ⟨_, _, (some g698), (some ⟨g698, 0, none⟩), 1, qf _ ⟨rfl, rfl, rfl, rfl, rfl, rfl, rfl, rfl, rfl, yp⟩, hG670, (St.pk [1, 2, 3, 4, 5, 6, 7, 0] 8 H699 rfl (by decide))⟩
     intro hM669
     refine qq (i := 0) (m' := 1) rfl (qh fo78_2 rfl) B E ?_
     refine qq (i := 2) (m' := 5) rfl (qa (.slice A2_ a2.length c2_) rfl) B E ?_
     refine qq (i := 3) (m' := 13) rfl (qa (.int .i64 x440) rfl) B E ?_
     refine jD (i := 4) (m' := 29) rfl (qY (h2_.mono ((((hG20.trans hG27).trans hG55).trans hG453).trans hG636)) xX ty3 rfl rfl hx645) B E ?_
     intro a702 hp703
     refine qi [1, 5] ⟨?_, ?_, yp⟩
     ·refine qg (m' := 31) fun I j => ?_
      refine ql H641 (i := 0) rfl lTref14_OutV_Told ty44 rfl ?_
      intro v704 hv705
      obtain rfl := val_V hv705
      refine qd (j _ _ ?_)
      refine qi [5] ⟨qg (m' := 63) fun I j => ?_, yp⟩
      refine zd H641 hp703 (qz .i64) ty3 rfl ?_
      refine qd (j _ _ ?_)
      exact hM669 _ _ ⟨_, _, qf _ ⟨rfl, rfl, rfl, rfl, rfl, rfl, rfl, rfl, rfl, yp⟩, GLe.refl _, (St.pk [6, 5, 4, 3, 0, 1, 2] 7 H641 rfl (by decide))⟩
     refine qg (m' := 61) fun I j => ?_
     refine zd H641 hp703 (qz .i64) ty3 rfl ?_
     refine qd (j _ _ ?_)
     refine qi [1, 6] ⟨?_, ?_, yp⟩
     ·refine qg (m' := 63) fun I j => ?_
      refine ql H641 (i := 0) rfl lTref14_OutV_Told ty44 rfl ?_
      intro v706 hv707
      obtain rfl := val_V hv707
      refine qd (j _ _ ?_)
      exact hM669 _ _ ⟨_, _, qf _ ⟨rfl, rfl, rfl, rfl, rfl, rfl, rfl, rfl, rfl, yp⟩, GLe.refl _, (St.pk [6, 5, 4, 3, 0, 1, 2] 7 H641 rfl (by decide))⟩
     refine qg (m' := 125) fun I j => ?_
     refine zh (K := kI) (vs := [(.int .i64 x644)]) (xs := ([x644] : (List Int))) H641 xX el3 rfl ⟨((qz .i64).toV _ _), yp⟩ rfl (by decide) ?_
     intro g708 w710 H709
     refine qd (j _ _ ?_)
     refine qi [1] ⟨qg (m' := 127) fun I j => ?_, yp⟩
     refine ql H709 (i := 1) rfl lTref14_OutV_Told ty44 rfl ?_
     intro v712 hv713
     obtain rfl := val_V hv713
     refine qd (j _ _ ?_)
     exact hM677 _ _ ⟨_, _, (some g708), (some ⟨g708, 0, none⟩), 1, qf _ ⟨rfl, rfl, rfl, rfl, rfl, rfl, rfl, rfl, rfl, yp⟩, GLe.refl _, (St.pk [7, 6, 5, 4, 1, 2, 3, 0] 8 H709 rfl (by decide))⟩
    replace b := ifF b hb639
    refine qn (vb hb639) (wp_seq (qc ?_))
    iterate 2 refine qb (qa (.bool (x616 == 7)) rfl) ?_
    refine qd (qe ?_)
    rcases qm (x616 == 7) with hb714 | hb714
    ·replace b := ifT b hb714
     refine qs (vb hb714) (wp_seq (qc (qb (qh fo32_2 rfl) ?_)))
     refine ql H637 (i := 6) rfl zD ty30 rfl ?_
     intro v715 hv716
     obtain ⟨A717, c718, rfl, hs719⟩ := qN hv716
     obtain ⟨r720, hr721, b⟩ := qu b
     refine qo (vs := [(.slice A717 x54.Ours.length c718)]) en73 rfl (pr10_Bytes_ok k hs719 H637 hr721) ?_
     rintro v726 w725 ⟨G722, A727, c728, hG723, rfl, H724, hs729⟩
     refine qb (qa (.tuple #[(.slice A727 r720.1.length c728), (.int .i64 r720.2)]) rfl) (qb (qa (.slice A727 r720.1.length c728) rfl) (qb (qa (.int .i64 r720.2) rfl) (qb (qa (.slice A727 r720.1.length c728) rfl) (qb (qa (.int .i64 r720.2) rfl) (qd (qe (qc (qb (qh fo78_1 rfl) ?_))))))))
     refine ql H724 (i := 0) rfl xI ty71 rfl ?_
     intro v730 hv731
     obtain rfl := val_V hv731
     refine qb (qh xe rfl) (qb (qh fo26_3 rfl) (qp H724 (i := 6) rfl (Lens.then zq zT) (qz .u8) ty5 rfl (qb (qa (.slice A727 r720.1.length c728) rfl) ?_)))
     refine qR (qT (G := G722) zr46 rfl bs46 rfl (Parts.cons jO qW ((qz .u8).toV _ _) (Parts.cons jw zf ((qz .u8).toV _ _) (Parts.cons xG zm (zw hs729) (Parts.nil _))))) ?_
     intro v732 hv733
     refine zh (K := qC) (vs := [v732]) (xs := ([(TPkt.mk 1 x54.A.Id r720.1)] : (List TPkt))) H724 sl71 el46 rfl ⟨hv733, yp⟩ rfl (by decide) ?_
     intro g734 w736 H735
     obtain ⟨r738, hr739, b⟩ := qu b
     refine zB H735 sl71 el46 (i := 2) rfl rfl rfl ((H735.okAt (i := 0) rfl).src) hr739 ?_
     intro g740 A741 c742 w743 H744
     refine qb (qh fo78_1 rfl) ?_
     refine qy (z := (.slice A741 r738.length c742)) H744 (i := 1) rfl xI ty71 rfl rfl ⟨[_], rfl, rfl, rfl⟩ ?_
     intro w746 H745
     refine qd (zn (zn (qe ?_)))
     exact ⟨_, _, x624, r738, x630, x635, g740, A741, c742, g631, A632, c633, qf _ ⟨rfl, rfl, rfl, rfl, rfl, rfl, rfl, yp⟩, (hG636.trans hG723), (St.pk [1, 2, 3, 4, 5, 6, 7] 8 H745 rfl (by decide)), b⟩
    replace b := ifF b hb714
    refine qn (vb hb714) (wp_seq (qc ?_))
    iterate 2 refine qb (qa (.bool (x616 == 10)) rfl) ?_
    refine qd (qe ?_)
    rcases qm (x616 == 10) with hb747 | hb747
    ·replace b := ifT b hb747
     refine qs (vb hb747) (qc (qb (qh fo78_1 rfl) ?_))
     refine ql H637 (i := 0) rfl xI ty71 rfl ?_
     intro v748 hv749
     obtain rfl := val_V hv749
     refine qb (qh xe rfl) (qb (qh fo26_3 rfl) (qp H637 (i := 6) rfl (Lens.then zq zT) (qz .u8) ty5 rfl ?_))
     refine qR (qT (G := G638) zr46 rfl bs46 rfl (Parts.cons jO qW ((qz .u8).toV _ _) (Parts.cons jw zf ((qz .u8).toV _ _) (Parts.nil _)))) ?_
     intro v750 hv751
     refine zh (K := qC) (vs := [v750]) (xs := ([(TPkt.mk 5 x54.A.Id zj.Data)] : (List TPkt))) H637 sl71 el46 rfl ⟨hv751, yp⟩ rfl (by decide) ?_
     intro g752 w754 H753
     obtain ⟨r756, hr757, b⟩ := qu b
     refine zB H753 sl71 el46 (i := 2) rfl rfl rfl ((H753.okAt (i := 0) rfl).src) hr757 ?_
     intro g758 A759 c760 w761 H762
     refine qb (qh fo78_1 rfl) ?_
     refine qy (z := (.slice A759 r756.length c760)) H762 (i := 1) rfl xI ty71 rfl rfl ⟨[_], rfl, rfl, rfl⟩ ?_
     intro w764 H763
     refine qd (zn (zn (qe ?_)))
     exact ⟨_, _, x624, r756, x630, x635, g758, A759, c760, g631, A632, c633, qf _ ⟨rfl, rfl, rfl, rfl, rfl, rfl, rfl, yp⟩, hG636, (St.pk [1, 2, 3, 4, 5, 6, 7] 8 H763 rfl (by decide)), b⟩
    replace b := ifF b hb747
    refine qn (vb hb747) (wp_seq (qc ?_))
    iterate 2 refine qb (qa (.bool (x616 == 11)) rfl) ?_
    refine qd (qe ?_)
    rcases qm (x616 == 11) with hb765 | hb765
    ·replace b := ifT b hb765
     refine qs (vb hb765) (qc (qb (qh fo78_1 rfl) ?_))
     refine ql H637 (i := 0) rfl xI ty71 rfl ?_
     intro v766 hv767
     obtain rfl := val_V hv767
     refine ql H637 (i := 4) rfl (Lens.id qC) ty46 rfl ?_
     intro v768 hv769
     refine zh (K := qC) (vs := [v768]) (xs := ([a4] : (List TPkt))) H637 sl71 el46 rfl ⟨hv769, yp⟩ rfl (by decide) ?_
     intro g770 w772 H771
     obtain ⟨r774, hr775, b⟩ := qu b
     refine zB H771 sl71 el46 (i := 2) rfl rfl rfl ((H771.okAt (i := 0) rfl).src) hr775 ?_
     intro g776 A777 c778 w779 H780
     refine qb (qh fo78_1 rfl) ?_
     refine qy (z := (.slice A777 r774.length c778)) H780 (i := 1) rfl xI ty71 rfl rfl ⟨[_], rfl, rfl, rfl⟩ ?_
     intro w782 H781
     refine qd (zn (zn (qe ?_)))
     exact ⟨_, _, x624, r774, x630, x635, g776, A777, c778, g631, A632, c633, qf _ ⟨rfl, rfl, rfl, rfl, rfl, rfl, rfl, yp⟩, hG636, (St.pk [1, 2, 3, 4, 5, 6, 7] 8 H781 rfl (by decide)), b⟩
    replace b := ifF b hb765
    refine qn (vb hb765) ?_
    refine wp_seq (join (fun a w => ∃ (T0 G1 : _) (x786 : Bool) (x787 : TNego) (x788 : (List TPkt)) (x793 : (List Int)) (x798 : (List Int)) (g789 A790 c791 g794 A795 c796 : _), a = mk 115 (qQ T0 [(2, (.slice A2_ a2.length c2_)), (5, (pt b1)), (8, (pt b5)), (9, (pt b9)), (10, (pt b13)), (13, (pt b62)), (14, (.int .i64 x440)), (103, (.bool x786))]) ∧ GLe G638 G1 ∧ St c G1 w ((.box b62 78 (xc.at_ (Tref14_OutV.mk x787 (.slice A790 x788.length c791) (.slice A795 x793.length c796) x798))) :: (.row qC g789 A790 c791 46 x788) :: (.row kI g794 A795 c796 3 x793) :: (.box b13 78 (qE.at_ qD)) :: (.box b9 46 (qC.at_ a4)) :: (.box b5 46 (qC.at_ a3)) :: (.box b1 32 (qv.at_ x54)) :: σ) ∧ jh a3 x440 x786 x787 x788 x793 x798 = some y455) ?_ ?_)
    ·rintro a w ⟨T0, G801, x786, x787, x788, x793, x798, g789, A790, c791, g794, A795, c796, rfl, hG799, H800, b⟩
     rcases qm x786 with hb802 | hb802
     ·replace b := ifT b hb802
      refine qs (vb hb802) (qc (qb (qh fo78_1 rfl) ?_))
      refine ql H800 (i := 0) rfl xI ty71 rfl ?_
      intro v803 hv804
      obtain rfl := val_V hv804
      refine ql H800 (i := 5) rfl (Lens.id qC) ty46 rfl ?_
      intro v805 hv806
      refine zh (K := qC) (vs := [v805]) (xs := ([a3] : (List TPkt))) H800 sl71 el46 rfl ⟨hv806, yp⟩ rfl (by decide) ?_
      intro g807 w809 H808
      obtain ⟨r811, hr812, b⟩ := qu b
      refine zB H808 sl71 el46 (i := 2) rfl rfl rfl ((H808.okAt (i := 0) rfl).src) hr812 ?_
      intro g813 A814 c815 w816 H817
      refine qb (qh fo78_1 rfl) ?_
      refine qy (z := (.slice A814 r811.length c815)) H817 (i := 1) rfl xI ty71 rfl rfl ⟨[_], rfl, rfl, rfl⟩ ?_
      intro w819 H818
      refine qd (zn (zn (qe ?_)))
      exact ⟨_, _, x787, r811, x793, x798, g813, A814, c815, g794, A795, c796, qf _ ⟨rfl, rfl, rfl, rfl, rfl, rfl, rfl, yp⟩, (hG636.trans hG799), (St.pk [1, 2, 3, 4, 5, 6, 7] 8 H818 rfl (by decide)), b⟩
     replace b := ifF b hb802
     refine qn (vb hb802) (wp_skip ?_)
     iterate 2 refine zn ?_
     refine qe ?_
     exact ⟨_, _, x787, x788, x793, x798, g789, A790, c791, g794, A795, c796, qf _ ⟨rfl, rfl, rfl, rfl, rfl, rfl, rfl, yp⟩, (hG636.trans hG799), H800, b⟩
    refine wp_seq (qc ?_)
    iterate 2 refine qb (qa (.bool (x616 == 8)) rfl) ?_
    refine qd (qe ?_)
    rcases qm (x616 == 8) with hb820 | hb820
    ·replace b := ifT b hb820
     refine qs (vb hb820) (wp_skip (qe ?_))
     exact ⟨_, _, (x616 == 8), x624, x625, x630, x635, g626, A627, c628, g631, A632, c633, qf _ ⟨rfl, rfl, rfl, rfl, rfl, rfl, rfl, rfl, yp⟩, GLe.refl _, H637, b⟩
    replace b := ifF b hb820
    refine qn (vb hb820) (wp_seq (qc ?_))
    iterate 2 refine qb (qa (.bool (x616 == 9)) rfl) ?_
    refine qd (qe ?_)
    rcases qm (x616 == 9) with hb821 | hb821
    ·replace b := ifT b hb821
     refine qs (vb hb821) (wp_skip (qe ?_))
     exact ⟨_, _, (x616 == 9), x624, x625, x630, x635, g626, A627, c628, g631, A632, c633, qf _ ⟨rfl, rfl, rfl, rfl, rfl, rfl, rfl, rfl, yp⟩, GLe.refl _, H637, b⟩
    replace b := ifF b hb821
    refine qn (vb hb821) (wp_seq (qc ?_))
    iterate 2 refine qb (qa (.bool (x616 == 12)) rfl) ?_
    refine qd (qe ?_)
    rcases qm (x616 == 12) with hb822 | hb822
    ·replace b := ifT b hb822
     refine qs (vb hb822) (wp_skip (qe ?_))
     exact ⟨_, _, (x616 == 12), x624, x625, x630, x635, g626, A627, c628, g631, A632, c633, qf _ ⟨rfl, rfl, rfl, rfl, rfl, rfl, rfl, rfl, yp⟩, GLe.refl _, H637, b⟩
    replace b := ifF b hb822
    refine qn (vb hb822) (qc ?_)
    iterate 2 refine qb (qa (.bool (x616 == 13)) rfl) ?_
    refine qd (qe ?_)
    exact ⟨_, _, (x616 == 13), x624, x625, x630, x635, g626, A627, c628, g631, A632, c633, qf _ ⟨rfl, rfl, rfl, rfl, rfl, rfl, rfl, rfl, yp⟩, GLe.refl _, H637, b⟩
   refine wp_seq (qc ?_)
   iterate 2 refine qb (qa (.bool (x616 == 1)) rfl) ?_
   refine qd (qe ?_)
   rcases qm (x616 == 1) with hb823 | hb823
   ·replace b := ifT b hb823
    refine qs (vb hb823) (wp_skip (qe ?_))
    exact ⟨_, _, (x616 == 1), x441, x442, x447, x452, g443, A444, c445, g448, A449, c450, qf _ ⟨rfl, rfl, rfl, rfl, rfl, rfl, rfl, rfl, rfl, yp⟩, GLe.refl _, H454, b⟩
   replace b := ifF b hb823
   refine qn (vb hb823) (wp_seq (qc ?_))
   iterate 2 refine qb (qa (.bool (x616 == 2)) rfl) ?_
   refine qd (qe ?_)
   rcases qm (x616 == 2) with hb824 | hb824
   ·replace b := ifT b hb824
    refine qs (vb hb824) (wp_skip (qe ?_))
    exact ⟨_, _, (x616 == 2), x441, x442, x447, x452, g443, A444, c445, g448, A449, c450, qf _ ⟨rfl, rfl, rfl, rfl, rfl, rfl, rfl, rfl, rfl, yp⟩, GLe.refl _, H454, b⟩
   replace b := ifF b hb824
   refine qn (vb hb824) (wp_seq (qc ?_))
   iterate 2 refine qb (qa (.bool (x616 == 3)) rfl) ?_
   refine qd (qe ?_)
   rcases qm (x616 == 3) with hb825 | hb825
   ·replace b := ifT b hb825
    refine qs (vb hb825) (wp_skip (qe ?_))
    exact ⟨_, _, (x616 == 3), x441, x442, x447, x452, g443, A444, c445, g448, A449, c450, qf _ ⟨rfl, rfl, rfl, rfl, rfl, rfl, rfl, rfl, rfl, yp⟩, GLe.refl _, H454, b⟩
   replace b := ifF b hb825
   refine qn (vb hb825) (qc ?_)
   iterate 2 refine qb (qa (.bool (x616 == 4)) rfl) ?_
   refine qd (qe ?_)
   exact ⟨_, _, (x616 == 4), x441, x442, x447, x452, g443, A444, c445, g448, A449, c450, qf _ ⟨rfl, rfl, rfl, rfl, rfl, rfl, rfl, rfl, rfl, yp⟩, GLe.refl _, H454, b⟩
  replace b := ifF b hb457
  refine qn (vb hb457) ?_
  refine wp_exit ?_
  iterate 2 refine xB ?_
  replace b := jJ b hy68
  refine blk_e ?_
  refine qe (wp_seq (qc ?_))
  obtain ⟨G826, hG827, H828, hs829⟩ := H454.stay (i := 1) rfl (H454.capA (i := 1) rfl)
  obtain ⟨G830, hG831, H832, hs833⟩ := H828.stay (i := 1) rfl (H828.capA (i := 1) rfl)
  have H834 := St.recast (p' := qE.at_ (Tref14_Out.mk x441 x442 x447 x452)) H832 (i := 0) rfl (fun cs h => rcTref14_OutV h (hs829.mono hG831) hs833)
  refine ql H834 (i := 0) rfl (Lens.id qE) yn rfl ?_
  intro v835 hv836
  refine qy (z := (Tref14_Out.mk x441 x442 x447 x452)) H834 (i := 1) rfl (Lens.id qE) yn rfl rfl hv836 ?_
  intro w838 H837
  refine qd (qe (wp_ret ?_))
  obtain ⟨v839, hv840, hl841⟩ := H837.loadv (i := 1) rfl yn
  have b := yq b
  subst b
  exact qt rfl (RV.cell rfl hl841 RV.nil) ⟨_, v839, (((((hG20.trans hG27).trans hG55).trans hG453).trans hG827).trans hG831), rfl, (St.pk [] 5 H837 rfl (by decide)), hv840⟩
 refine wp_seq (join (fun a w => ∃ (T0 G1 : _) (x849 : Bool), a = mk 115 (qQ T0 [(2, (.slice A2_ a2.length c2_)), (5, (pt b1)), (8, (pt b5)), (9, (pt b9)), (10, (pt b13)), (32, (.bool x849))]) ∧ GLe G26 G1 ∧ St c G1 w ((.box b13 78 (qE.at_ qD)) :: (.box b9 46 (qC.at_ a4)) :: (.box b5 46 (qC.at_ a3)) :: (.box b1 32 (qv.at_ a0)) :: σ) ∧ zO a0 a2 a3 a4 x849 = some r) ?_ ?_)
 ·rintro a w ⟨T0, G852, x849, rfl, hG850, H851, b⟩
  rcases qm x849 with hb853 | hb853
  ·replace b := ifT b hb853
   refine qs (vb hb853) (wp_seq (qc (qb (qh fo32_1 rfl) ?_)))
   refine ql H851 (i := 3) rfl ym ty29 rfl ?_
   intro v854 hv855
   obtain ⟨r856, hr857, b⟩ := qu b
   refine qo (vs := [v854]) en151 rfl (pr13_Ask_ok k hv855 H851 hr857) ?_
   rintro v862 w861 ⟨G858, A863, c864, hG859, rfl, H860, hs865⟩
   refine qb (qh fo32_2 rfl) ?_
   refine qy (z := r856) H860 (i := 3) rfl zD ty30 rfl rfl (zw hs865) ?_
   intro w867 H866
   refine qd (qe (wp_seq (qc (qb (qh fo32_3 rfl) ?_))))
   refine qy (z := 0) H866 (i := 3) rfl jb ty3 rfl rfl ((qz .i64).toV _ _) ?_
   intro w869 H868
   refine qd (qe (qc (qb (qh fo32_4 rfl) ?_)))
   refine qy (z := []) H868 (i := 3) rfl lTNego_Peer ty30 rfl rfl (zw (SlR.nil _ _)) ?_
   intro w871 H870
   refine qd (qe ?_)
   exact ⟨_, _, (TNego.mk a0.A a0.R r856 0 []), qf _ ⟨rfl, rfl, rfl, rfl, rfl, yp⟩, (hG850.trans hG859), H870, b⟩
  replace b := ifF b hb853
  refine qn (vb hb853) (wp_skip (qe ?_))
  exact ⟨_, _, a0, qf _ ⟨rfl, rfl, rfl, rfl, rfl, yp⟩, hG850, H851, b⟩
 refine qc ?_
 iterate 2 refine qb (qa (.bool r17) rfl) ?_
 rcases qm r17 with hb872 | hb872
 ·replace b := ifT b hb872
  refine qj rfl rfl rfl (vb hb872) (qb (qa (.bool r24) rfl) (qb (qB (.bool r24) (vb hb872) rfl) (qb (qa (.bool r24) rfl) ?_)))
  rcases qm r24 with hb873 | hb873
  ·replace b := ifT b hb873
   refine qj rfl rfl rfl (vb hb873) (qb (qa (.int .i64 a1) rfl) (qj rfl rfl rfl (vb hb873) (qb (qa (.bool (decide (a1 ≥ 1))) rfl) (qb (qB (.bool (decide (a1 ≥ 1))) (vb hb873) rfl) (qb (qa (.bool (decide (a1 ≥ 1))) rfl) ?_)))))
   rcases qm (decide (a1 ≥ 1)) with hb874 | hb874
   ·replace b := ifT b hb874
    refine qj rfl rfl rfl (vb hb874) (qb (qa (.int .i64 a1) rfl) (qj rfl rfl rfl (vb hb874) (qb (qa (.bool (decide (a1 ≤ 3))) rfl) (qb (qB (.bool (decide (a1 ≤ 3))) (vb hb874) rfl) (qd (qe ?_))))))
    exact ⟨_, _, (decide (a1 ≤ 3)), qf _ ⟨rfl, rfl, rfl, rfl, rfl, rfl, yp⟩, GLe.refl _, H28, b⟩
   replace b := ifF b hb874
   iterate 2 refine qJ rfl rfl rfl (vb hb874) ?_
   refine qb (qr (.bool false) (vb hb874) rfl) (qd (qe ?_))
   exact ⟨_, _, false, qf _ ⟨rfl, rfl, rfl, rfl, rfl, rfl, yp⟩, GLe.refl _, H28, b⟩
  replace b := ifF b hb873
  iterate 2 refine qJ rfl rfl rfl (vb hb873) ?_
  refine qb (qr (.bool false) (vb hb873) rfl) (qb (qa (.bool false) rfl) ?_)
  iterate 2 refine qJ rfl rfl rfl rfl ?_
  refine qb (qr (.bool false) rfl rfl) (qd (qe ?_))
  exact ⟨_, _, false, qf _ ⟨rfl, rfl, rfl, rfl, rfl, rfl, yp⟩, GLe.refl _, H28, b⟩
 replace b := ifF b hb872
 refine qJ rfl rfl rfl (vb hb872) (qb (qr (.bool false) (vb hb872) rfl) (qb (qa (.bool false) rfl) ?_))
 iterate 2 refine qJ rfl rfl rfl rfl ?_
 refine qb (qr (.bool false) rfl rfl) (qb (qa (.bool false) rfl) ?_)
 iterate 2 refine qJ rfl rfl rfl rfl ?_
 refine qb (qr (.bool false) rfl rfl) (qd (qe ?_))
 exact ⟨_, _, false, qf _ ⟨rfl, rfl, rfl, rfl, rfl, rfl, yp⟩, GLe.refl _, H28, b⟩

theorem zt {c : World} (k : Hc c) {G : qk} {w : World} {σ : List Ent} {a0 : TNego} {v0_ : Value} {a1 : Int} {a2 : TPkt} {v2_ : Value} {a3 : Int} (h0_ : qv.V G v0_ a0) (h2_ : qC.V G v2_ a2) (H : St c G w (σ)) {r : Tref14_Out} (b : qV a0 a1 a2 a3 = some r) :
  Calls Tryz.prog 83 ([v0_, (.int .i64 a1), v2_, (.int .u8 a3)] : List Value).toArray w (zu fun v w' => ∃ (G' : qk) (v1' : Value), GLe G G' ∧ tup [v1'] = v ∧ St c G' w' (σ) ∧ qE.V G' v1' r) := by
 unfold qV at b
 refine qG Tryz.func83 rfl rfl rfl (wp_seq (qc ?_))
 refine zp (K := qv) (x := a0) H rfl h0_ ?_
 intro b1 w4 H2
 refine zp (K := qC) (x := a2) H2 rfl h2_ ?_
 intro b5 w8 H6
 refine qP H6 zr78 ?_
 intro b9 w12 H10
 refine qd (qe (wp_seq (qc (qb (qh xe rfl) ?_))))
 refine ql H10 (i := 2) rfl zq xA rfl ?_
 intro v13 hv14
 refine qb (qa (.int .i64 a1) rfl) ?_
 obtain ⟨r15, hr16, b⟩ := qu b
 refine qo (vs := [v13, (.int .i64 a1)]) en149 rfl (pr12_Do_ok k hv14 H10 hr16) ?_
 rintro v21 w20 ⟨G17, v22, A24, c25, hG18, rfl, H19, hv23, hs26⟩
 refine qb (qa (.tuple #[v22, (.slice A24 r15.2.1.length c25), (.int .i64 r15.2.2)]) rfl) (qb (qa v22 rfl) (qb (qa (.slice A24 r15.2.1.length c25) rfl) (qb (qa (.int .i64 r15.2.2) rfl) ?_)))
 refine qP H19 zr26 ?_
 intro b27 w30 H28
 refine qy (z := r15.1) H28 (i := 0) rfl (Lens.id za) xA rfl rfl hv23 ?_
 intro w32 H31
 refine qb (qa (.slice A24 r15.2.1.length c25) rfl) (qb (qa (.int .i64 r15.2.2) rfl) (qd (qe (wp_seq (wp_seq (qc (qb (qa (.int .i64 r15.2.2) rfl) (qb (qa (.bool (r15.2.2 != 0)) rfl) (qd (qe ?_))))))))))
 rcases qm (r15.2.2 != 0) with hb33 | hb33
 ·replace b := ifT b hb33
  refine qs (vb hb33) (wp_seq (qc ?_))
  refine ql H31 (i := 3) rfl (Lens.id qv) zG rfl ?_
  intro v34 hv35
  refine qR (qT (G := G17) zr78 rfl bs78 rfl (Parts.cons fo78_0 jU hv35 (Parts.nil _))) ?_
  intro v36 hv37
  refine qy (z := (Tref14_Out.mk a0 qD.Sent qD.Told qD.L)) H31 (i := 1) rfl (Lens.id qE) yn rfl rfl hv37 ?_
  intro w39 H38
  refine qd (qe (wp_ret (qI ?_)))
  obtain ⟨v40, hv41, hl42⟩ := H38.loadv (i := 1) rfl yn
  have b := yq b
  subst b
  exact qt rfl (RV.cell rfl hl42 RV.nil) ⟨_, v40, hG18, rfl, (St.pk [] 4 H38 rfl (by decide)), hv41⟩
 replace b := ifF b hb33
 refine qn (vb hb33) (wp_skip (qe (wp_seq (qc (qb (qh xe rfl) (qb (qh fo26_0 rfl) (qp H31 (i := 3) rfl (Lens.then zq zZ) (qz .i64) ty3 rfl (qb (qa (.int .i64 a0.A.State) rfl) (qd (qe (wp_seq (qc ?_))))))))))))
 refine ql H31 (i := 0) rfl (Lens.id za) xA rfl ?_
 intro v43 hv44
 refine qb (qh xe rfl) ?_
 refine qy (z := r15.1) H31 (i := 3) rfl zq xA rfl rfl hv44 ?_
 intro w46 H45
 refine qd (qe (wp_seq (qc ?_)))
 refine ql H45 (i := 3) rfl (Lens.id qv) zG rfl ?_
 intro v47 hv48
 refine qb (qa (.int .i64 a0.A.State) rfl) (qb (qa (.slice A24 r15.2.1.length c25) rfl) ?_)
 refine ql H45 (i := 2) rfl (Lens.id qC) ty46 rfl ?_
 intro v49 hv50
 refine qb (qa (.int .u8 a3) rfl) ?_
 refine qR (qT (G := G17) zr46 rfl bs46 rfl (Parts.cons jO qW ((qz .u8).toV _ _) (Parts.cons jw zf ((qz .u8).toV _ _) (Parts.nil _)))) ?_
 intro v51 hv52
 obtain ⟨r53, hr54, b⟩ := qu b
 refine qo (vs := [v47, (.int .i64 a0.A.State), (.slice A24 r15.2.1.length c25), v49, v51]) en85 rfl (pr14_acted_ok k hv48 hs26 hv50 hv52 H45 hr54) ?_
 rintro v59 w58 ⟨G55, v60, hG56, rfl, H57, hv61⟩
 refine qy (z := r53) H57 (i := 1) rfl (Lens.id qE) yn rfl rfl hv61 ?_
 intro w63 H62
 refine qd (qe (wp_ret ?_))
 obtain ⟨v64, hv65, hl66⟩ := H62.loadv (i := 1) rfl yn
 have b := yq b
 subst b
 exact qt rfl (RV.cell rfl hl66 RV.nil) ⟨_, v64, (hG18.trans hG56), rfl, (St.pk [] 4 H62 rfl (by decide)), hv65⟩

theorem ye {c : World} (k : Hc c) {G : qk} {w : World} {σ : List Ent} {a0 : TNego} {v0_ : Value} {a1 : Int} (h0_ : qv.V G v0_ a0) (H : St c G w (σ)) {r : Tref14_Out} (b : pr14_Do a0 a1 = some r) :
  Calls Tryz.prog 31 ([v0_, (.int .i64 a1)] : List Value).toArray w (zu fun v w' => ∃ (G' : qk) (v1' : Value), GLe G G' ∧ tup [v1'] = v ∧ St c G' w' (σ) ∧ qE.V G' v1' r) := by
 unfold pr14_Do at b
 refine qG Tryz.func31 rfl rfl rfl (wp_seq (qc ?_))
 refine zp (K := qv) (x := a0) H rfl h0_ ?_
 intro b1 w4 H2
 refine qP H2 zr78 ?_
 intro b5 w8 H6
 refine qd (qe (wp_seq ?_))
 refine wp_seq (join (fun a w => ∃ (T0 G1 : _) (x10 : Bool), a = mk 17 (qQ T0 [(1, (.int .i64 a1)), (2, (pt b1)), (4, (pt b5)), (10, (.bool x10))]) ∧ GLe G G1 ∧ St c G1 w ((.box b5 78 (qE.at_ qD)) :: (.box b1 32 (qv.at_ a0)) :: σ) ∧ pr14_Do_j1 a0 a1 x10 = some r) ?_ ?_)
 ·rintro a w ⟨T0, G13, x10, rfl, hG11, H12, b⟩
  rcases qm x10 with hb14 | hb14
  ·replace b := ifT b hb14
   refine qs (vb hb14) (wp_seq (qc ?_))
   refine ql H12 (i := 1) rfl (Lens.id qv) zG rfl ?_
   intro v15 hv16
   refine qR (qT (G := G13) zr78 rfl bs78 rfl (Parts.cons fo78_0 jU hv16 (Parts.nil _))) ?_
   intro v17 hv18
   refine qy (z := (Tref14_Out.mk a0 qD.Sent qD.Told qD.L)) H12 (i := 0) rfl (Lens.id qE) yn rfl rfl hv18 ?_
   intro w20 H19
   refine qd (qe (wp_ret (qI ?_)))
   obtain ⟨v21, hv22, hl23⟩ := H19.loadv (i := 0) rfl yn
   have b := yq b
   subst b
   exact qt rfl (RV.cell rfl hl23 RV.nil) ⟨_, v21, hG11, rfl, (St.pk [] 2 H19 rfl (by decide)), hv22⟩
  replace b := ifF b hb14
  refine qn (vb hb14) (wp_skip (qe (wp_seq (qc ?_))))
  refine ql H12 (i := 1) rfl (Lens.id qv) zG rfl ?_
  intro v24 hv25
  refine qb (qa (.int .i64 a1) rfl) ?_
  refine qR (qT (G := G13) zr46 rfl bs46 rfl (Parts.nil _)) ?_
  intro v26 hv27
  obtain ⟨r28, hr29, b⟩ := qu b
  refine qo (vs := [v24, (.int .i64 a1), v26, (.int .u8 0)]) en83 rfl (zt k hv25 hv27 H12 hr29) ?_
  rintro v34 w33 ⟨G30, v35, hG31, rfl, H32, hv36⟩
  refine qy (z := r28) H32 (i := 0) rfl (Lens.id qE) yn rfl rfl hv36 ?_
  intro w38 H37
  refine qd (qe (wp_ret ?_))
  obtain ⟨v39, hv40, hl41⟩ := H37.loadv (i := 0) rfl yn
  have b := yq b
  subst b
  exact qt rfl (RV.cell rfl hl41 RV.nil) ⟨_, v39, (hG11.trans hG31), rfl, (St.pk [] 2 H37 rfl (by decide)), hv40⟩
 refine qc (qb (qa (.int .i64 a1) rfl) ?_)
 iterate 2 refine qb (qa (.bool (decide (a1 < 0))) rfl) ?_
 rcases qm (decide (a1 < 0)) with hb42 | hb42
 ·replace b := ifT b hb42
  iterate 2 refine qJ rfl rfl rfl (vb hb42) ?_
  refine qb (qB (.bool true) (vb hb42) rfl) (qd (qe ?_))
  exact ⟨_, _, true, qf _ ⟨rfl, rfl, rfl, rfl, yp⟩, GLe.refl _, H6, b⟩
 replace b := ifF b hb42
 refine qj rfl rfl rfl (vb hb42) (qb (qa (.int .i64 a1) rfl) (qj rfl rfl rfl (vb hb42) (qb (qa (.bool (decide (a1 > 3))) rfl) (qb (qr (.bool (decide (a1 > 3))) (vb hb42) rfl) (qd (qe ?_))))))
 exact ⟨_, _, (decide (a1 > 3)), qf _ ⟨rfl, rfl, rfl, rfl, yp⟩, GLe.refl _, H6, b⟩

theorem pr01_Row_ok {c : World} (k : Hc c) {G : qk} {w : World} {σ : List Ent} {a0 : (List Int)} {A0_ : Option Addr} {c0_ : Nat} {a1 : (List Int)} {A1_ : Option Addr} {c1_ : Nat} (h0_ : SlR kB G A0_ c0_ a0) (h1_ : SlR kB G A1_ c1_ a1) (H : St c G w (σ)) {r : Bool} (b : jz a0 a1 = some r) :
  Calls Tryz.prog 20 ([(.slice A0_ a0.length c0_), (.slice A1_ a1.length c1_)] : List Value).toArray w (zu fun v w' => ∃ (G' : qk), GLe G G' ∧ tup [(.bool r)] = v ∧ St c G' w' (σ)) := by
 unfold jz at b
 refine qG Tryz.func20 rfl rfl rfl (wp_seq (qc (qb (qa (.bool false) rfl) (qd (qe (wp_seq (wp_seq (qc (qb (qa (.slice A0_ a0.length c0_) rfl) (qb (zb zJ rfl) (qb (qa (.slice A1_ a1.length c1_) rfl) (qb (zb zJ rfl) ?_))))))))))))
 refine qb (qa (.bool ((a0.length : Int) != (a1.length : Int))) rfl) (qd (qe ?_))
 rcases qm ((a0.length : Int) != (a1.length : Int)) with hb1 | hb1
 ·replace b := ifT b hb1
  refine qs (vb hb1) (wp_seq (qc (qb (qa (.bool false) rfl) (qd (qe (wp_ret (qI ?_)))))))
  have b := yq b
  subst b
  exact qt rfl (RV.tmp rfl RV.nil) ⟨_, GLe.refl _, rfl, H⟩
 replace b := ifF b hb1
 refine qn (vb hb1) (wp_skip (qe (wp_seq (wp_seq (qc (qb (qa (.int .i64 0) rfl) (qd (qe (wp_block ?_)))))))))
 refine ja (fun (s : Int) a w => ∃ (T0 : Fr) (G1 : qk), a = mk 26 (qQ T0 [(0, (.slice A0_ a0.length c0_)), (1, (.slice A1_ a1.length c1_)), (5, (.int .i64 s))]) ∧ GLe G G1 ∧ St c G1 w (σ)) b ?_ ?_
 ·exact ⟨_, _, qf _ ⟨rfl, rfl, rfl, yp⟩, GLe.refl _, H⟩
 rintro x22 a w y25 ⟨T0, G26, rfl, hG23, H24⟩ b hy2
 refine wp_seq (wp_seq (qc (qb (qa (.int .i64 x22) rfl) (qb (qa (.slice A0_ a0.length c0_) rfl) (qb (zb zJ rfl) (qb (qa (.bool (decide (x22 < (a0.length : Int)))) rfl) (qd (qe ?_))))))))
 rcases qm (decide (x22 < (a0.length : Int))) with hb27 | hb27
 ·replace b := ifT b hb27
  refine qs (vb hb27) (wp_skip (qe (wp_seq (wp_block (wp_seq ?_)))))
  refine jP (f := 9) H24 mixed ?_
  intro w36 H37
  refine xW (by repeat (first | exact PF.base | apply PF.then_ | apply PF.blk)) ?_
  intro B E
  obtain ⟨x38, hx39, b⟩ := qu b
  obtain ⟨x42, hx43, b⟩ := qu b
  refine qF (fuel := 1) (m := 255) (fun a w => ∃ T0 G1, a = mk 26 (qQ T0 [(0, (.slice A0_ a0.length c0_)), (1, (.slice A1_ a1.length c1_)), (5, (.int .i64 x22)), (20, (.int .u8 x38)), (24, (.int .u8 x42))]) ∧ GLe G26 G1 ∧ St c G1 w (σ)) ?_ ?_
  ·rintro a w ⟨T0, G53, rfl, hG51, H52⟩
   refine qq (i := 8) (m' := 511) rfl (qa (.bool (x38 != x42)) rfl) B E ?_
   refine zA (qe ?_)
   rcases qm (x38 != x42) with hb54 | hb54
   ·replace b := ifT b hb54
    refine qs (vb hb54) (wp_seq (qc (qb (qa (.bool false) rfl) (qd (qe (wp_ret (zg ?_)))))))
    iterate 2 refine qI ?_
    replace b := jJ b hy2
    refine zg (qI ?_)
    have b := yq b
    subst b
    exact qt rfl (RV.tmp rfl RV.nil) ⟨_, (hG23.trans hG51), rfl, H52⟩
   replace b := ifF b hb54
   refine qn (vb hb54) (wp_skip (zn (qe (qc (qb (qa (.int .i64 x22) rfl) ?_)))))
   iterate 2 refine qb (qa (.int .i64 (IntKind.i64.wrap (x22 + 1))) rfl) ?_
   refine qd (qe ?_)
   exact ⟨_, (yq b).symm, _, _, qf _ ⟨rfl, rfl, rfl, yp⟩, (hG23.trans hG51), H52⟩
  intro hM50
  refine qq (i := 0) (m' := 1) rfl (qa (.slice A0_ a0.length c0_) rfl) B E ?_
  refine qq (i := 1) (m' := 3) rfl (qa (.int .i64 x22) rfl) B E ?_
  refine jD (i := 2) (m' := 7) rfl (qY (h0_.mono hG23) zJ ty5 rfl rfl hx39) B E ?_
  intro a55 hp56
  refine qq (i := 4) (m' := 23) rfl (qa (.slice A1_ a1.length c1_) rfl) B E ?_
  refine qq (i := 5) (m' := 55) rfl (qa (.int .i64 x22) rfl) B E ?_
  refine jD (i := 6) (m' := 119) rfl (qY (h1_.mono hG23) zJ ty5 rfl rfl hx43) B E ?_
  intro a57 hp58
  refine qi [3, 7] ⟨?_, ?_, yp⟩
  ·refine qg (m' := 127) fun I j => ?_
   refine zd H37 hp56 (qz .u8) ty5 rfl ?_
   refine qd (j _ _ ?_)
   refine qi [7] ⟨qg (m' := 255) fun I j => ?_, yp⟩
   refine zd H37 hp58 (qz .u8) ty5 rfl ?_
   refine qd (j _ _ ?_)
   exact hM50 _ _ ⟨_, _, qf _ ⟨rfl, rfl, rfl, rfl, rfl, yp⟩, GLe.refl _, H37⟩
  refine qg (m' := 247) fun I j => ?_
  refine zd H37 hp58 (qz .u8) ty5 rfl ?_
  refine qd (j _ _ ?_)
  refine qi [3] ⟨qg (m' := 255) fun I j => ?_, yp⟩
  refine zd H37 hp56 (qz .u8) ty5 rfl ?_
  refine qd (j _ _ ?_)
  exact hM50 _ _ ⟨_, _, qf _ ⟨rfl, rfl, rfl, rfl, rfl, yp⟩, GLe.refl _, H37⟩
 replace b := ifF b hb27
 refine qn (vb hb27) ?_
 refine wp_exit ?_
 iterate 2 refine xB ?_
 replace b := jJ b hy2
 refine blk_e ?_
 refine qe (wp_seq (qc (qb (qa (.bool true) rfl) (qd (qe (wp_ret ?_))))))
 have b := yq b
 subst b
 exact qt rfl (RV.tmp rfl RV.nil) ⟨_, hG23, rfl, H24⟩

theorem pr10_One_ok {c : World} (k : Hc c) {G : qk} {w : World} {σ : List Ent} {a0 : TOpt} {v0_ : Value} {a1 : TOpt} {v1_ : Value} (h0_ : qx.V G v0_ a0) (h1_ : qx.V G v1_ a1) (H : St c G w (σ)) {r : Bool} (b : pr10_One a0 a1 = some r) :
  Calls Tryz.prog 167 ([v0_, v1_] : List Value).toArray w (zu fun v w' => ∃ (G' : qk), GLe G G' ∧ tup [(.bool r)] = v ∧ St c G' w' (σ)) := by
 unfold pr10_One at b
 refine qG Tryz.func167 rfl rfl rfl (wp_seq (qc ?_))
 refine zp (K := qx) (x := a0) H rfl h0_ ?_
 intro b1 w4 H2
 refine zp (K := qx) (x := a1) H2 rfl h1_ ?_
 intro b5 w8 H6
 refine qb (qa (.bool false) rfl) (qd (qe (wp_seq (qc (qb (qh jp rfl) ?_)))))
 refine ql H6 (i := 1) rfl qZ jy rfl ?_
 intro v9 hv10
 obtain ⟨A11, c12, rfl, hs13⟩ := qN hv10
 refine qb (qh jp rfl) ?_
 refine ql H6 (i := 0) rfl qZ jy rfl ?_
 intro v14 hv15
 obtain ⟨A16, c17, rfl, hs18⟩ := qN hv15
 obtain ⟨r19, hr20, b⟩ := qu b
 refine qo (vs := [(.slice A11 a0.Data.length c12), (.slice A16 a1.Data.length c17)]) en20 rfl (pr01_Row_ok k hs13 hs18 H6 hr20) ?_
 rintro v25 w24 ⟨G21, hG22, rfl, H23⟩
 refine qb (qa (.bool r19) rfl) (qd (qe (wp_seq (qc ?_))))
 iterate 2 refine qb (qa (.bool r19) rfl) ?_
 rcases qm r19 with hb26 | hb26
 ·replace b := ifT b hb26
  refine qj rfl rfl rfl (vb hb26) (qb (qh jc rfl) (qj rfl rfl rfl (vb hb26) (qp H23 (i := 1) rfl qX (qz .u8) ty5 rfl (qj rfl rfl rfl (vb hb26) (qb (qh jc rfl) (qj rfl rfl rfl (vb hb26) (qp H23 (i := 0) rfl qX (qz .u8) ty5 rfl (qj rfl rfl rfl (vb hb26) (qb (qa (.bool (a0.Typ == a1.Typ)) rfl) ?_)))))))))
  refine qb (qB (.bool (a0.Typ == a1.Typ)) (vb hb26) rfl) (qb (qa (.bool (a0.Typ == a1.Typ)) rfl) (qd (qe (wp_ret ?_))))
  have b := yq b
  subst b
  exact qt rfl (RV.tmp rfl RV.nil) ⟨_, hG22, rfl, (St.pk [] 2 H23 rfl (by decide))⟩
 replace b := ifF b hb26
 iterate 5 refine qJ rfl rfl rfl (vb hb26) ?_
 refine qb (qr (.bool false) (vb hb26) rfl) (qb (qa (.bool false) rfl) (qd (qe (wp_ret ?_))))
 have b := yq b
 subst b
 exact qt rfl (RV.tmp rfl RV.nil) ⟨_, hG22, rfl, (St.pk [] 2 H23 rfl (by decide))⟩

theorem pr10_Same_ok {c : World} (k : Hc c) {G : qk} {w : World} {σ : List Ent} {a0 : (List TOpt)} {A0_ : Option Addr} {c0_ : Nat} {a1 : (List TOpt)} {A1_ : Option Addr} {c1_ : Nat} (h0_ : SlR qx G A0_ c0_ a0) (h1_ : SlR qx G A1_ c1_ a1) (H : St c G w (σ)) {r : Bool} (b : jY a0 a1 = some r) :
  Calls Tryz.prog 118 ([(.slice A0_ a0.length c0_), (.slice A1_ a1.length c1_)] : List Value).toArray w (zu fun v w' => ∃ (G' : qk), GLe G G' ∧ tup [(.bool r)] = v ∧ St c G' w' (σ)) := by
 unfold jY at b
 refine qG Tryz.func118 rfl rfl rfl (wp_seq (qc (qb (qa (.bool false) rfl) (qd (qe (wp_seq (wp_seq (qc (qb (qa (.slice A0_ a0.length c0_) rfl) (qb (zb zQ rfl) (qb (qa (.slice A1_ a1.length c1_) rfl) (qb (zb zQ rfl) ?_))))))))))))
 refine qb (qa (.bool ((a0.length : Int) != (a1.length : Int))) rfl) (qd (qe ?_))
 rcases qm ((a0.length : Int) != (a1.length : Int)) with hb1 | hb1
 ·replace b := ifT b hb1
  refine qs (vb hb1) (wp_seq (qc (qb (qa (.bool false) rfl) (qd (qe (wp_ret (qI ?_)))))))
  have b := yq b
  subst b
  exact qt rfl (RV.tmp rfl RV.nil) ⟨_, GLe.refl _, rfl, H⟩
 replace b := ifF b hb1
 refine qn (vb hb1) (wp_skip (qe (wp_seq (wp_seq (qc (qb (qa (.int .i64 0) rfl) (qd (qe (wp_block ?_)))))))))
 refine ja (fun (s : Int) a w => ∃ (T0 : Fr) (G1 : qk), a = mk 29 (qQ T0 [(0, (.slice A0_ a0.length c0_)), (1, (.slice A1_ a1.length c1_)), (5, (.int .i64 s))]) ∧ GLe G G1 ∧ St c G1 w (σ)) b ?_ ?_
 ·exact ⟨_, _, qf _ ⟨rfl, rfl, rfl, yp⟩, GLe.refl _, H⟩
 rintro x44 a w y47 ⟨T0, G48, rfl, hG45, H46⟩ b hy2
 refine wp_seq (wp_seq (qc (qb (qa (.int .i64 x44) rfl) (qb (qa (.slice A0_ a0.length c0_) rfl) (qb (zb zQ rfl) (qb (qa (.bool (decide (x44 < (a0.length : Int)))) rfl) (qd (qe ?_))))))))
 rcases qm (decide (x44 < (a0.length : Int))) with hb49 | hb49
 ·replace b := ifT b hb49
  refine qs (vb hb49) (wp_skip (qe (wp_seq (wp_block (wp_seq ?_)))))
  refine jP (f := 10) H46 mixed ?_
  intro w69 H70
  refine xW (by repeat (first | exact PF.base | apply PF.then_ | apply PF.blk)) ?_
  intro B E
  obtain ⟨x71, hx72, b⟩ := qu b
  obtain ⟨x77, hx78, b⟩ := qu b
  obtain ⟨r83, hr84, b⟩ := qu b
  refine qF (fuel := 2) (m := 255) (fun a w => ∃ T0 G1 v104 v106, a = mk 29 (qQ T0 [(0, (.slice A0_ a0.length c0_)), (1, (.slice A1_ a1.length c1_)), (5, (.int .i64 x44)), (21, v104), (25, v106)]) ∧ GLe G48 G1 ∧ St c G1 w (σ) ∧ qx.V G1 v104 x71 ∧ qx.V G1 v106 x77) ?_ ?_
  ·rintro a w ⟨T0, G103, v104, v106, rfl, hG101, H102, hv105, hv107⟩
   refine qi [8] ⟨qg (m' := 511) fun I j => ?_, yp⟩
   refine qo (vs := [v104, v106]) en167 rfl (pr10_One_ok k hv105 hv107 H102 hr84) ?_
   rintro v117 w116 ⟨G113, hG114, rfl, H115⟩
   refine qd (j _ _ ?_)
   refine qq (i := 9) (m' := 1023) rfl (qa (.bool r83) rfl) B E ?_
   refine zA (qe (wp_seq (qc (qb (qa (.bool r83) rfl) (qb (qa (.bool (!r83)) rfl) (qd (qe ?_)))))))
   rcases qm (!r83) with hb118 | hb118
   ·replace b := ifT b hb118
    refine qs (vb hb118) (wp_seq (qc (qb (qa (.bool false) rfl) (qd (qe (wp_ret (zg ?_)))))))
    iterate 2 refine qI ?_
    replace b := jJ b hy2
    refine zg (qI ?_)
    have b := yq b
    subst b
    exact qt rfl (RV.tmp rfl RV.nil) ⟨_, ((hG45.trans hG101).trans hG114), rfl, H115⟩
   replace b := ifF b hb118
   refine qn (vb hb118) (wp_skip (zn (qe (qc (qb (qa (.int .i64 x44) rfl) ?_)))))
   iterate 2 refine qb (qa (.int .i64 (IntKind.i64.wrap (x44 + 1))) rfl) ?_
   refine qd (qe ?_)
   exact ⟨_, (yq b).symm, _, _, qf _ ⟨rfl, rfl, rfl, yp⟩, ((hG45.trans hG101).trans hG114), H115⟩
  intro hM100
  refine qq (i := 0) (m' := 1) rfl (qa (.slice A0_ a0.length c0_) rfl) B E ?_
  refine qq (i := 1) (m' := 3) rfl (qa (.int .i64 x44) rfl) B E ?_
  refine jD (i := 2) (m' := 7) rfl (qY (h0_.mono hG45) zQ zc rfl rfl hx72) B E ?_
  intro a119 hp120
  refine qq (i := 4) (m' := 23) rfl (qa (.slice A1_ a1.length c1_) rfl) B E ?_
  refine qq (i := 5) (m' := 55) rfl (qa (.int .i64 x44) rfl) B E ?_
  refine jD (i := 6) (m' := 119) rfl (qY (h1_.mono hG45) zQ zc rfl rfl hx78) B E ?_
  intro a121 hp122
  refine qi [3, 7] ⟨?_, ?_, yp⟩
  ·refine qg (m' := 127) fun I j => ?_
   refine zH H70 hp120 zc rfl ?_
   intro v123 hv124
   refine qd (j _ _ ?_)
   refine qi [7] ⟨qg (m' := 255) fun I j => ?_, yp⟩
   refine zH H70 hp122 zc rfl ?_
   intro v125 hv126
   refine qd (j _ _ ?_)
   exact hM100 _ _ ⟨_, _, v123, v125, qf _ ⟨rfl, rfl, rfl, rfl, rfl, yp⟩, GLe.refl _, H70, hv124, hv126⟩
  refine qg (m' := 247) fun I j => ?_
  refine zH H70 hp122 zc rfl ?_
  intro v127 hv128
  refine qd (j _ _ ?_)
  refine qi [3] ⟨qg (m' := 255) fun I j => ?_, yp⟩
  refine zH H70 hp120 zc rfl ?_
  intro v129 hv130
  refine qd (j _ _ ?_)
  exact hM100 _ _ ⟨_, _, v129, v127, qf _ ⟨rfl, rfl, rfl, rfl, rfl, yp⟩, GLe.refl _, H70, hv130, hv128⟩
 replace b := ifF b hb49
 refine qn (vb hb49) ?_
 refine wp_exit ?_
 iterate 2 refine xB ?_
 replace b := jJ b hy2
 refine blk_e ?_
 refine qe (wp_seq (qc (qb (qa (.bool true) rfl) (qd (qe (wp_ret ?_))))))
 have b := yq b
 subst b
 exact qt rfl (RV.tmp rfl RV.nil) ⟨_, hG45, rfl, H46⟩

theorem pr14_Same_ok {c : World} (k : Hc c) {G : qk} {w : World} {σ : List Ent} {a0 : TNego} {v0_ : Value} {a1 : TNego} {v1_ : Value} (h0_ : qv.V G v0_ a0) (h1_ : qv.V G v1_ a1) (H : St c G w (σ)) {r : Bool} (b : xF a0 a1 = some r) :
  Calls Tryz.prog 58 ([v0_, v1_] : List Value).toArray w (zu fun v w' => ∃ (G' : qk), GLe G G' ∧ tup [(.bool r)] = v ∧ St c G' w' (σ)) := by
 unfold xF at b
 refine qG Tryz.func58 rfl rfl rfl (wp_seq (qc ?_))
 refine zp (K := qv) (x := a0) H rfl h0_ ?_
 intro b1 w4 H2
 refine zp (K := qv) (x := a1) H2 rfl h1_ ?_
 intro b5 w8 H6
 refine qb (qa (.bool false) rfl) (qd (qe (wp_seq (qc (qb (qh fo32_2 rfl) ?_)))))
 refine ql H6 (i := 1) rfl zD ty30 rfl ?_
 intro v9 hv10
 obtain ⟨A11, c12, rfl, hs13⟩ := qN hv10
 refine qb (qh fo32_2 rfl) ?_
 refine ql H6 (i := 0) rfl zD ty30 rfl ?_
 intro v14 hv15
 obtain ⟨A16, c17, rfl, hs18⟩ := qN hv15
 obtain ⟨r19, hr20, b⟩ := qu b
 refine qo (vs := [(.slice A11 a0.Ours.length c12), (.slice A16 a1.Ours.length c17)]) en118 rfl (pr10_Same_ok k hs13 hs18 H6 hr20) ?_
 rintro v25 w24 ⟨G21, hG22, rfl, H23⟩
 refine qb (qa (.bool r19) rfl) (qd (qe (wp_seq (qc (qb (qh fo32_4 rfl) ?_)))))
 refine ql H23 (i := 1) rfl lTNego_Peer ty30 rfl ?_
 intro v26 hv27
 obtain ⟨A28, c29, rfl, hs30⟩ := qN hv27
 refine qb (qh fo32_4 rfl) ?_
 refine ql H23 (i := 0) rfl lTNego_Peer ty30 rfl ?_
 intro v31 hv32
 obtain ⟨A33, c34, rfl, hs35⟩ := qN hv32
 obtain ⟨r36, hr37, b⟩ := qu b
 refine qo (vs := [(.slice A28 a0.Peer.length c29), (.slice A33 a1.Peer.length c34)]) en118 rfl (pr10_Same_ok k hs30 hs35 H23 hr37) ?_
 rintro v42 w41 ⟨G38, hG39, rfl, H40⟩
 refine qb (qa (.bool r36) rfl) (qd (qe (wp_seq (qc ?_))))
 iterate 2 refine qb (qa (.bool r19) rfl) ?_
 rcases qm r19 with hb43 | hb43
 ·replace b := ifT b hb43
  refine qj rfl rfl rfl (vb hb43) (qb (qa (.bool r36) rfl) (qb (qB (.bool r36) (vb hb43) rfl) (qb (qa (.bool r36) rfl) ?_)))
  rcases qm r36 with hb44 | hb44
  ·replace b := ifT b hb44
   refine qj rfl rfl rfl (vb hb44) (qb (qh xe rfl) (qj rfl rfl rfl (vb hb44) ?_))
   refine ql H40 (i := 1) rfl zq xA rfl ?_
   intro v45 hv46
   refine qj rfl rfl rfl (vb hb44) (qb (qh xe rfl) (qj rfl rfl rfl (vb hb44) ?_))
   refine ql H40 (i := 0) rfl zq xA rfl ?_
   intro v47 hv48
   refine qj rfl rfl rfl (vb hb44) (qb (rn_eql eqTAuto rfl eg26 rfl rfl rfl hv46 hv48) (qb (qB (.bool (eTAuto a0.A a1.A)) (vb hb44) rfl) (qb (qa (.bool (eTAuto a0.A a1.A)) rfl) ?_)))
   rcases qm (eTAuto a0.A a1.A) with hb49 | hb49
   ·replace b := ifT b hb49
    refine qj rfl rfl rfl (vb hb49) (qb (qh fo32_1 rfl) (qj rfl rfl rfl (vb hb49) ?_))
    refine ql H40 (i := 1) rfl ym ty29 rfl ?_
    intro v50 hv51
    refine qj rfl rfl rfl (vb hb49) (qb (qh fo32_1 rfl) (qj rfl rfl rfl (vb hb49) ?_))
    refine ql H40 (i := 0) rfl ym ty29 rfl ?_
    intro v52 hv53
    refine qj rfl rfl rfl (vb hb49) (qb (rn_eql eqTRule rfl eg29 rfl rfl rfl hv51 hv53) (qb (qB (.bool (eTRule a0.R a1.R)) (vb hb49) rfl) (qb (qa (.bool (eTRule a0.R a1.R)) rfl) ?_)))
    rcases qm (eTRule a0.R a1.R) with hb54 | hb54
    ·replace b := ifT b hb54
     refine qj rfl rfl rfl (vb hb54) (qb (qh fo32_3 rfl) (qj rfl rfl rfl (vb hb54) (qp H40 (i := 1) rfl jb (qz .i64) ty3 rfl (qj rfl rfl rfl (vb hb54) (qb (qh fo32_3 rfl) (qj rfl rfl rfl (vb hb54) (qp H40 (i := 0) rfl jb (qz .i64) ty3 rfl (qj rfl rfl rfl (vb hb54) (qb (qa (.bool (a0.Naks == a1.Naks)) rfl) ?_)))))))))
     refine qb (qB (.bool (a0.Naks == a1.Naks)) (vb hb54) rfl) (qb (qa (.bool (a0.Naks == a1.Naks)) rfl) (qd (qe (wp_ret ?_))))
     have b := yq b
     subst b
     exact qt rfl (RV.tmp rfl RV.nil) ⟨_, (hG22.trans hG39), rfl, (St.pk [] 2 H40 rfl (by decide))⟩
    replace b := ifF b hb54
    iterate 5 refine qJ rfl rfl rfl (vb hb54) ?_
    refine qb (qr (.bool false) (vb hb54) rfl) (qb (qa (.bool false) rfl) (qd (qe (wp_ret ?_))))
    have b := yq b
    subst b
    exact qt rfl (RV.tmp rfl RV.nil) ⟨_, (hG22.trans hG39), rfl, (St.pk [] 2 H40 rfl (by decide))⟩
   replace b := ifF b hb49
   iterate 5 refine qJ rfl rfl rfl (vb hb49) ?_
   refine qb (qr (.bool false) (vb hb49) rfl) (qb (qa (.bool false) rfl) ?_)
   iterate 5 refine qJ rfl rfl rfl rfl ?_
   refine qb (qr (.bool false) rfl rfl) (qb (qa (.bool false) rfl) (qd (qe (wp_ret ?_))))
   have b := yq b
   subst b
   exact qt rfl (RV.tmp rfl RV.nil) ⟨_, (hG22.trans hG39), rfl, (St.pk [] 2 H40 rfl (by decide))⟩
  replace b := ifF b hb44
  iterate 5 refine qJ rfl rfl rfl (vb hb44) ?_
  refine qb (qr (.bool false) (vb hb44) rfl) (qb (qa (.bool false) rfl) ?_)
  iterate 5 refine qJ rfl rfl rfl rfl ?_
  refine qb (qr (.bool false) rfl rfl) (qb (qa (.bool false) rfl) ?_)
  iterate 5 refine qJ rfl rfl rfl rfl ?_
  refine qb (qr (.bool false) rfl rfl) (qb (qa (.bool false) rfl) (qd (qe (wp_ret ?_))))
  have b := yq b
  subst b
  exact qt rfl (RV.tmp rfl RV.nil) ⟨_, (hG22.trans hG39), rfl, (St.pk [] 2 H40 rfl (by decide))⟩
 replace b := ifF b hb43
 refine qJ rfl rfl rfl (vb hb43) (qb (qr (.bool false) (vb hb43) rfl) (qb (qa (.bool false) rfl) ?_))
 iterate 5 refine qJ rfl rfl rfl rfl ?_
 refine qb (qr (.bool false) rfl rfl) (qb (qa (.bool false) rfl) ?_)
 iterate 5 refine qJ rfl rfl rfl rfl ?_
 refine qb (qr (.bool false) rfl rfl) (qb (qa (.bool false) rfl) ?_)
 iterate 5 refine qJ rfl rfl rfl rfl ?_
 refine qb (qr (.bool false) rfl rfl) (qb (qa (.bool false) rfl) (qd (qe (wp_ret ?_))))
 have b := yq b
 subst b
 exact qt rfl (RV.tmp rfl RV.nil) ⟨_, (hG22.trans hG39), rfl, (St.pk [] 2 H40 rfl (by decide))⟩

theorem pr09_Same_ok {c : World} (k : Hc c) {G : qk} {w : World} {σ : List Ent} {a0 : TPkt} {v0_ : Value} {a1 : TPkt} {v1_ : Value} (h0_ : qC.V G v0_ a0) (h1_ : qC.V G v1_ a1) (H : St c G w (σ)) {r : Bool} (b : pr09_Same a0 a1 = some r) :
  Calls Tryz.prog 148 ([v0_, v1_] : List Value).toArray w (zu fun v w' => ∃ (G' : qk), GLe G G' ∧ tup [(.bool r)] = v ∧ St c G' w' (σ)) := by
 unfold pr09_Same at b
 refine qG Tryz.func148 rfl rfl rfl (wp_seq (qc ?_))
 refine zp (K := qC) (x := a0) H rfl h0_ ?_
 intro b1 w4 H2
 refine zp (K := qC) (x := a1) H2 rfl h1_ ?_
 intro b5 w8 H6
 refine qb (qa (.bool false) rfl) (qd (qe (wp_seq (qc (qb (qh xG rfl) ?_)))))
 refine ql H6 (i := 1) rfl zm jy rfl ?_
 intro v9 hv10
 obtain ⟨A11, c12, rfl, hs13⟩ := qN hv10
 refine qb (qh xG rfl) ?_
 refine ql H6 (i := 0) rfl zm jy rfl ?_
 intro v14 hv15
 obtain ⟨A16, c17, rfl, hs18⟩ := qN hv15
 obtain ⟨r19, hr20, b⟩ := qu b
 refine qo (vs := [(.slice A11 a0.Data.length c12), (.slice A16 a1.Data.length c17)]) en20 rfl (pr01_Row_ok k hs13 hs18 H6 hr20) ?_
 rintro v25 w24 ⟨G21, hG22, rfl, H23⟩
 refine qb (qa (.bool r19) rfl) (qd (qe (wp_seq (qc ?_))))
 iterate 2 refine qb (qa (.bool r19) rfl) ?_
 rcases qm r19 with hb26 | hb26
 ·replace b := ifT b hb26
  refine qj rfl rfl rfl (vb hb26) (qb (qh jO rfl) (qj rfl rfl rfl (vb hb26) (qp H23 (i := 1) rfl qW (qz .u8) ty5 rfl (qj rfl rfl rfl (vb hb26) (qb (qh jO rfl) (qj rfl rfl rfl (vb hb26) (qp H23 (i := 0) rfl qW (qz .u8) ty5 rfl (qj rfl rfl rfl (vb hb26) (qb (qa (.bool (a0.Code == a1.Code)) rfl) ?_)))))))))
  refine qb (qB (.bool (a0.Code == a1.Code)) (vb hb26) rfl) (qb (qa (.bool (a0.Code == a1.Code)) rfl) ?_)
  rcases qm (a0.Code == a1.Code) with hb27 | hb27
  ·replace b := ifT b hb27
   refine qj rfl rfl rfl (vb hb27) (qb (qh jw rfl) (qj rfl rfl rfl (vb hb27) (qp H23 (i := 1) rfl zf (qz .u8) ty5 rfl (qj rfl rfl rfl (vb hb27) (qb (qh jw rfl) (qj rfl rfl rfl (vb hb27) (qp H23 (i := 0) rfl zf (qz .u8) ty5 rfl (qj rfl rfl rfl (vb hb27) (qb (qa (.bool (a0.Id == a1.Id)) rfl) ?_)))))))))
   refine qb (qB (.bool (a0.Id == a1.Id)) (vb hb27) rfl) (qb (qa (.bool (a0.Id == a1.Id)) rfl) (qd (qe (wp_ret ?_))))
   have b := yq b
   subst b
   exact qt rfl (RV.tmp rfl RV.nil) ⟨_, hG22, rfl, (St.pk [] 2 H23 rfl (by decide))⟩
  replace b := ifF b hb27
  iterate 5 refine qJ rfl rfl rfl (vb hb27) ?_
  refine qb (qr (.bool false) (vb hb27) rfl) (qb (qa (.bool false) rfl) (qd (qe (wp_ret ?_))))
  have b := yq b
  subst b
  exact qt rfl (RV.tmp rfl RV.nil) ⟨_, hG22, rfl, (St.pk [] 2 H23 rfl (by decide))⟩
 replace b := ifF b hb26
 iterate 5 refine qJ rfl rfl rfl (vb hb26) ?_
 refine qb (qr (.bool false) (vb hb26) rfl) (qb (qa (.bool false) rfl) ?_)
 iterate 5 refine qJ rfl rfl rfl rfl ?_
 refine qb (qr (.bool false) rfl rfl) (qb (qa (.bool false) rfl) (qd (qe (wp_ret ?_))))
 have b := yq b
 subst b
 exact qt rfl (RV.tmp rfl RV.nil) ⟨_, hG22, rfl, (St.pk [] 2 H23 rfl (by decide))⟩

theorem pr14_Pkts_ok {c : World} (k : Hc c) {G : qk} {w : World} {σ : List Ent} {a0 : (List TPkt)} {A0_ : Option Addr} {c0_ : Nat} {a1 : (List TPkt)} {A1_ : Option Addr} {c1_ : Nat} (h0_ : SlR qC G A0_ c0_ a0) (h1_ : SlR qC G A1_ c1_ a1) (H : St c G w (σ)) {r : Bool} (b : pr14_Pkts a0 a1 = some r) :
  Calls Tryz.prog 81 ([(.slice A0_ a0.length c0_), (.slice A1_ a1.length c1_)] : List Value).toArray w (zu fun v w' => ∃ (G' : qk), GLe G G' ∧ tup [(.bool r)] = v ∧ St c G' w' (σ)) := by
 unfold pr14_Pkts at b
 refine qG Tryz.func81 rfl rfl rfl (wp_seq (qc (qb (qa (.bool false) rfl) (qd (qe (wp_seq (wp_seq (qc (qb (qa (.slice A0_ a0.length c0_) rfl) (qb (zb sl71 rfl) (qb (qa (.slice A1_ a1.length c1_) rfl) (qb (zb sl71 rfl) ?_))))))))))))
 refine qb (qa (.bool ((a0.length : Int) != (a1.length : Int))) rfl) (qd (qe ?_))
 rcases qm ((a0.length : Int) != (a1.length : Int)) with hb1 | hb1
 ·replace b := ifT b hb1
  refine qs (vb hb1) (wp_seq (qc (qb (qa (.bool false) rfl) (qd (qe (wp_ret (qI ?_)))))))
  have b := yq b
  subst b
  exact qt rfl (RV.tmp rfl RV.nil) ⟨_, GLe.refl _, rfl, H⟩
 replace b := ifF b hb1
 refine qn (vb hb1) (wp_skip (qe (wp_seq (wp_seq (qc (qb (qa (.int .i64 0) rfl) (qd (qe (wp_block ?_)))))))))
 refine ja (fun (s : Int) a w => ∃ (T0 : Fr) (G1 : qk), a = mk 29 (qQ T0 [(0, (.slice A0_ a0.length c0_)), (1, (.slice A1_ a1.length c1_)), (5, (.int .i64 s))]) ∧ GLe G G1 ∧ St c G1 w (σ)) b ?_ ?_
 ·exact ⟨_, _, qf _ ⟨rfl, rfl, rfl, yp⟩, GLe.refl _, H⟩
 rintro x44 a w y47 ⟨T0, G48, rfl, hG45, H46⟩ b hy2
 refine wp_seq (wp_seq (qc (qb (qa (.int .i64 x44) rfl) (qb (qa (.slice A0_ a0.length c0_) rfl) (qb (zb sl71 rfl) (qb (qa (.bool (decide (x44 < (a0.length : Int)))) rfl) (qd (qe ?_))))))))
 rcases qm (decide (x44 < (a0.length : Int))) with hb49 | hb49
 ·replace b := ifT b hb49
  refine qs (vb hb49) (wp_skip (qe (wp_seq (wp_block (wp_seq ?_)))))
  refine jP (f := 10) H46 mixed ?_
  intro w69 H70
  refine xW (by repeat (first | exact PF.base | apply PF.then_ | apply PF.blk)) ?_
  intro B E
  obtain ⟨x71, hx72, b⟩ := qu b
  obtain ⟨x77, hx78, b⟩ := qu b
  obtain ⟨r83, hr84, b⟩ := qu b
  refine qF (fuel := 2) (m := 255) (fun a w => ∃ T0 G1 v104 v106, a = mk 29 (qQ T0 [(0, (.slice A0_ a0.length c0_)), (1, (.slice A1_ a1.length c1_)), (5, (.int .i64 x44)), (21, v104), (25, v106)]) ∧ GLe G48 G1 ∧ St c G1 w (σ) ∧ qC.V G1 v104 x71 ∧ qC.V G1 v106 x77) ?_ ?_
  ·rintro a w ⟨T0, G103, v104, v106, rfl, hG101, H102, hv105, hv107⟩
   refine qi [8] ⟨qg (m' := 511) fun I j => ?_, yp⟩
   refine qo (vs := [v104, v106]) en148 rfl (pr09_Same_ok k hv105 hv107 H102 hr84) ?_
   rintro v117 w116 ⟨G113, hG114, rfl, H115⟩
   refine qd (j _ _ ?_)
   refine qq (i := 9) (m' := 1023) rfl (qa (.bool r83) rfl) B E ?_
   refine zA (qe (wp_seq (qc (qb (qa (.bool r83) rfl) (qb (qa (.bool (!r83)) rfl) (qd (qe ?_)))))))
   rcases qm (!r83) with hb118 | hb118
   ·replace b := ifT b hb118
    refine qs (vb hb118) (wp_seq (qc (qb (qa (.bool false) rfl) (qd (qe (wp_ret (zg ?_)))))))
    iterate 2 refine qI ?_
    replace b := jJ b hy2
    refine zg (qI ?_)
    have b := yq b
    subst b
    exact qt rfl (RV.tmp rfl RV.nil) ⟨_, ((hG45.trans hG101).trans hG114), rfl, H115⟩
   replace b := ifF b hb118
   refine qn (vb hb118) (wp_skip (zn (qe (qc (qb (qa (.int .i64 x44) rfl) ?_)))))
   iterate 2 refine qb (qa (.int .i64 (IntKind.i64.wrap (x44 + 1))) rfl) ?_
   refine qd (qe ?_)
   exact ⟨_, (yq b).symm, _, _, qf _ ⟨rfl, rfl, rfl, yp⟩, ((hG45.trans hG101).trans hG114), H115⟩
  intro hM100
  refine qq (i := 0) (m' := 1) rfl (qa (.slice A0_ a0.length c0_) rfl) B E ?_
  refine qq (i := 1) (m' := 3) rfl (qa (.int .i64 x44) rfl) B E ?_
  refine jD (i := 2) (m' := 7) rfl (qY (h0_.mono hG45) sl71 ty46 rfl rfl hx72) B E ?_
  intro a119 hp120
  refine qq (i := 4) (m' := 23) rfl (qa (.slice A1_ a1.length c1_) rfl) B E ?_
  refine qq (i := 5) (m' := 55) rfl (qa (.int .i64 x44) rfl) B E ?_
  refine jD (i := 6) (m' := 119) rfl (qY (h1_.mono hG45) sl71 ty46 rfl rfl hx78) B E ?_
  intro a121 hp122
  refine qi [3, 7] ⟨?_, ?_, yp⟩
  ·refine qg (m' := 127) fun I j => ?_
   refine zH H70 hp120 ty46 rfl ?_
   intro v123 hv124
   refine qd (j _ _ ?_)
   refine qi [7] ⟨qg (m' := 255) fun I j => ?_, yp⟩
   refine zH H70 hp122 ty46 rfl ?_
   intro v125 hv126
   refine qd (j _ _ ?_)
   exact hM100 _ _ ⟨_, _, v123, v125, qf _ ⟨rfl, rfl, rfl, rfl, rfl, yp⟩, GLe.refl _, H70, hv124, hv126⟩
  refine qg (m' := 247) fun I j => ?_
  refine zH H70 hp122 ty46 rfl ?_
  intro v127 hv128
  refine qd (j _ _ ?_)
  refine qi [3] ⟨qg (m' := 255) fun I j => ?_, yp⟩
  refine zH H70 hp120 ty46 rfl ?_
  intro v129 hv130
  refine qd (j _ _ ?_)
  exact hM100 _ _ ⟨_, _, v129, v127, qf _ ⟨rfl, rfl, rfl, rfl, rfl, yp⟩, GLe.refl _, H70, hv130, hv128⟩
 replace b := ifF b hb49
 refine qn (vb hb49) ?_
 refine wp_exit ?_
 iterate 2 refine xB ?_
 replace b := jJ b hy2
 refine blk_e ?_
 refine qe (wp_seq (qc (qb (qa (.bool true) rfl) (qd (qe (wp_ret ?_))))))
 have b := yq b
 subst b
 exact qt rfl (RV.tmp rfl RV.nil) ⟨_, hG45, rfl, H46⟩

theorem pr11_Ints_ok {c : World} (k : Hc c) {G : qk} {w : World} {σ : List Ent} {a0 : (List Int)} {A0_ : Option Addr} {c0_ : Nat} {a1 : (List Int)} {A1_ : Option Addr} {c1_ : Nat} (h0_ : SlR kI G A0_ c0_ a0) (h1_ : SlR kI G A1_ c1_ a1) (H : St c G w (σ)) {r : Bool} (b : pr11_Ints a0 a1 = some r) :
  Calls Tryz.prog 82 ([(.slice A0_ a0.length c0_), (.slice A1_ a1.length c1_)] : List Value).toArray w (zu fun v w' => ∃ (G' : qk), GLe G G' ∧ tup [(.bool r)] = v ∧ St c G' w' (σ)) := by
 unfold pr11_Ints at b
 refine qG Tryz.func82 rfl rfl rfl (wp_seq (qc (qb (qa (.bool false) rfl) (qd (qe (wp_seq (wp_seq (qc (qb (qa (.slice A0_ a0.length c0_) rfl) (qb (zb xX rfl) (qb (qa (.slice A1_ a1.length c1_) rfl) (qb (zb xX rfl) ?_))))))))))))
 refine qb (qa (.bool ((a0.length : Int) != (a1.length : Int))) rfl) (qd (qe ?_))
 rcases qm ((a0.length : Int) != (a1.length : Int)) with hb1 | hb1
 ·replace b := ifT b hb1
  refine qs (vb hb1) (wp_seq (qc (qb (qa (.bool false) rfl) (qd (qe (wp_ret (qI ?_)))))))
  have b := yq b
  subst b
  exact qt rfl (RV.tmp rfl RV.nil) ⟨_, GLe.refl _, rfl, H⟩
 replace b := ifF b hb1
 refine qn (vb hb1) (wp_skip (qe (wp_seq (wp_seq (qc (qb (qa (.int .i64 0) rfl) (qd (qe (wp_block ?_)))))))))
 refine ja (fun (s : Int) a w => ∃ (T0 : Fr) (G1 : qk), a = mk 26 (qQ T0 [(0, (.slice A0_ a0.length c0_)), (1, (.slice A1_ a1.length c1_)), (5, (.int .i64 s))]) ∧ GLe G G1 ∧ St c G1 w (σ)) b ?_ ?_
 ·exact ⟨_, _, qf _ ⟨rfl, rfl, rfl, yp⟩, GLe.refl _, H⟩
 rintro x22 a w y25 ⟨T0, G26, rfl, hG23, H24⟩ b hy2
 refine wp_seq (wp_seq (qc (qb (qa (.int .i64 x22) rfl) (qb (qa (.slice A0_ a0.length c0_) rfl) (qb (zb xX rfl) (qb (qa (.bool (decide (x22 < (a0.length : Int)))) rfl) (qd (qe ?_))))))))
 rcases qm (decide (x22 < (a0.length : Int))) with hb27 | hb27
 ·replace b := ifT b hb27
  refine qs (vb hb27) (wp_skip (qe (wp_seq (wp_block (wp_seq ?_)))))
  refine jP (f := 9) H24 mixed ?_
  intro w36 H37
  refine xW (by repeat (first | exact PF.base | apply PF.then_ | apply PF.blk)) ?_
  intro B E
  obtain ⟨x38, hx39, b⟩ := qu b
  obtain ⟨x42, hx43, b⟩ := qu b
  refine qF (fuel := 1) (m := 255) (fun a w => ∃ T0 G1, a = mk 26 (qQ T0 [(0, (.slice A0_ a0.length c0_)), (1, (.slice A1_ a1.length c1_)), (5, (.int .i64 x22)), (20, (.int .i64 x38)), (24, (.int .i64 x42))]) ∧ GLe G26 G1 ∧ St c G1 w (σ)) ?_ ?_
  ·rintro a w ⟨T0, G53, rfl, hG51, H52⟩
   refine qq (i := 8) (m' := 511) rfl (qa (.bool (x38 != x42)) rfl) B E ?_
   refine zA (qe ?_)
   rcases qm (x38 != x42) with hb54 | hb54
   ·replace b := ifT b hb54
    refine qs (vb hb54) (wp_seq (qc (qb (qa (.bool false) rfl) (qd (qe (wp_ret (zg ?_)))))))
    iterate 2 refine qI ?_
    replace b := jJ b hy2
    refine zg (qI ?_)
    have b := yq b
    subst b
    exact qt rfl (RV.tmp rfl RV.nil) ⟨_, (hG23.trans hG51), rfl, H52⟩
   replace b := ifF b hb54
   refine qn (vb hb54) (wp_skip (zn (qe (qc (qb (qa (.int .i64 x22) rfl) ?_)))))
   iterate 2 refine qb (qa (.int .i64 (IntKind.i64.wrap (x22 + 1))) rfl) ?_
   refine qd (qe ?_)
   exact ⟨_, (yq b).symm, _, _, qf _ ⟨rfl, rfl, rfl, yp⟩, (hG23.trans hG51), H52⟩
  intro hM50
  refine qq (i := 0) (m' := 1) rfl (qa (.slice A0_ a0.length c0_) rfl) B E ?_
  refine qq (i := 1) (m' := 3) rfl (qa (.int .i64 x22) rfl) B E ?_
  refine jD (i := 2) (m' := 7) rfl (qY (h0_.mono hG23) xX ty3 rfl rfl hx39) B E ?_
  intro a55 hp56
  refine qq (i := 4) (m' := 23) rfl (qa (.slice A1_ a1.length c1_) rfl) B E ?_
  refine qq (i := 5) (m' := 55) rfl (qa (.int .i64 x22) rfl) B E ?_
  refine jD (i := 6) (m' := 119) rfl (qY (h1_.mono hG23) xX ty3 rfl rfl hx43) B E ?_
  intro a57 hp58
  refine qi [3, 7] ⟨?_, ?_, yp⟩
  ·refine qg (m' := 127) fun I j => ?_
   refine zd H37 hp56 (qz .i64) ty3 rfl ?_
   refine qd (j _ _ ?_)
   refine qi [7] ⟨qg (m' := 255) fun I j => ?_, yp⟩
   refine zd H37 hp58 (qz .i64) ty3 rfl ?_
   refine qd (j _ _ ?_)
   exact hM50 _ _ ⟨_, _, qf _ ⟨rfl, rfl, rfl, rfl, rfl, yp⟩, GLe.refl _, H37⟩
  refine qg (m' := 247) fun I j => ?_
  refine zd H37 hp58 (qz .i64) ty3 rfl ?_
  refine qd (j _ _ ?_)
  refine qi [3] ⟨qg (m' := 255) fun I j => ?_, yp⟩
  refine zd H37 hp56 (qz .i64) ty3 rfl ?_
  refine qd (j _ _ ?_)
  exact hM50 _ _ ⟨_, _, qf _ ⟨rfl, rfl, rfl, rfl, rfl, yp⟩, GLe.refl _, H37⟩
 replace b := ifF b hb27
 refine qn (vb hb27) ?_
 refine wp_exit ?_
 iterate 2 refine xB ?_
 replace b := jJ b hy2
 refine blk_e ?_
 refine qe (wp_seq (qc (qb (qa (.bool true) rfl) (qd (qe (wp_ret ?_))))))
 have b := yq b
 subst b
 exact qt rfl (RV.tmp rfl RV.nil) ⟨_, hG23, rfl, H24⟩

theorem xY {c : World} (k : Hc c) {G : qk} {w : World} {σ : List Ent} {a0 : Tref14_Out} {v0_ : Value} {a1 : TNego} {v1_ : Value} {a2 : (List TPkt)} {A2_ : Option Addr} {c2_ : Nat} {a3 : (List Int)} {A3_ : Option Addr} {c3_ : Nat} (h0_ : qE.V G v0_ a0) (h1_ : qv.V G v1_ a1) (h2_ : SlR qC G A2_ c2_ a2) (h3_ : SlR kI G A3_ c3_ a3) (H : St c G w (σ)) {r : Bool} (b : yo a0 a1 a2 a3 = some r) :
  Calls Tryz.prog 30 ([v0_, v1_, (.slice A2_ a2.length c2_), (.slice A3_ a3.length c3_)] : List Value).toArray w (zu fun v w' => ∃ (G' : qk), GLe G G' ∧ tup [(.bool r)] = v ∧ St c G' w' (σ)) := by
 unfold yo at b
 refine qG Tryz.func30 rfl rfl rfl (wp_seq (qc ?_))
 refine zp (K := qE) (x := a0) H rfl h0_ ?_
 intro b1 w4 H2
 refine zp (K := qv) (x := a1) H2 rfl h1_ ?_
 intro b5 w8 H6
 refine qb (qa (.bool false) rfl) (qd (qe (wp_seq (qc (qb (qh fo78_0 rfl) ?_)))))
 refine ql H6 (i := 1) rfl jU zG rfl ?_
 intro v9 hv10
 refine ql H6 (i := 0) rfl (Lens.id qv) zG rfl ?_
 intro v11 hv12
 obtain ⟨r13, hr14, b⟩ := qu b
 refine qo (vs := [v9, v11]) en58 rfl (pr14_Same_ok k hv10 hv12 H6 hr14) ?_
 rintro v19 w18 ⟨G15, hG16, rfl, H17⟩
 refine qb (qa (.bool r13) rfl) (qd (qe (wp_seq (qc (qb (qh fo78_1 rfl) ?_)))))
 refine ql H17 (i := 1) rfl lTref14_Out_Sent ty71 rfl ?_
 intro v20 hv21
 obtain ⟨A22, c23, rfl, hs24⟩ := qN hv21
 refine qb (qa (.slice A2_ a2.length c2_) rfl) ?_
 obtain ⟨r25, hr26, b⟩ := qu b
 refine qo (vs := [(.slice A22 a0.Sent.length c23), (.slice A2_ a2.length c2_)]) en81 rfl (pr14_Pkts_ok k hs24 (h2_.mono hG16) H17 hr26) ?_
 rintro v31 w30 ⟨G27, hG28, rfl, H29⟩
 refine qb (qa (.bool r25) rfl) (qd (qe (wp_seq (qc (qb (qh fo78_2 rfl) ?_)))))
 refine ql H29 (i := 1) rfl lTref14_Out_Told ty44 rfl ?_
 intro v32 hv33
 obtain ⟨A34, c35, rfl, hs36⟩ := qN hv33
 refine qb (qa (.slice A3_ a3.length c3_) rfl) ?_
 obtain ⟨r37, hr38, b⟩ := qu b
 refine qo (vs := [(.slice A34 a0.Told.length c35), (.slice A3_ a3.length c3_)]) en82 rfl (pr11_Ints_ok k hs36 (h3_.mono (hG16.trans hG28)) H29 hr38) ?_
 rintro v43 w42 ⟨G39, hG40, rfl, H41⟩
 refine qb (qa (.bool r37) rfl) (qd (qe (wp_seq (qc ?_))))
 iterate 2 refine qb (qa (.bool r13) rfl) ?_
 rcases qm r13 with hb44 | hb44
 ·replace b := ifT b hb44
  refine qj rfl rfl rfl (vb hb44) (qb (qa (.bool r25) rfl) (qb (qB (.bool r25) (vb hb44) rfl) (qb (qa (.bool r25) rfl) ?_)))
  rcases qm r25 with hb45 | hb45
  ·replace b := ifT b hb45
   refine qj rfl rfl rfl (vb hb45) (qb (qa (.bool r37) rfl) (qb (qB (.bool r37) (vb hb45) rfl) (qb (qa (.bool r37) rfl) (qd (qe (wp_ret ?_))))))
   have b := yq b
   subst b
   exact qt rfl (RV.tmp rfl RV.nil) ⟨_, ((hG16.trans hG28).trans hG40), rfl, (St.pk [] 2 H41 rfl (by decide))⟩
  replace b := ifF b hb45
  refine qJ rfl rfl rfl (vb hb45) (qb (qr (.bool false) (vb hb45) rfl) (qb (qa (.bool false) rfl) (qd (qe (wp_ret ?_)))))
  have b := yq b
  subst b
  exact qt rfl (RV.tmp rfl RV.nil) ⟨_, ((hG16.trans hG28).trans hG40), rfl, (St.pk [] 2 H41 rfl (by decide))⟩
 replace b := ifF b hb44
 refine qJ rfl rfl rfl (vb hb44) (qb (qr (.bool false) (vb hb44) rfl) (qb (qa (.bool false) rfl) (qJ rfl rfl rfl rfl (qb (qr (.bool false) rfl rfl) (qb (qa (.bool false) rfl) (qd (qe (wp_ret ?_))))))))
 have b := yq b
 subst b
 exact qt rfl (RV.tmp rfl RV.nil) ⟨_, ((hG16.trans hG28).trans hG40), rfl, (St.pk [] 2 H41 rfl (by decide))⟩

theorem pr12_Tick_ok {c : World} (k : Hc c) {G : qk} {w : World} {σ : List Ent} {a0 : TAuto} {v0_ : Value} (h0_ : za.V G v0_ a0) (H : St c G w (σ)) {r : (TAuto × (List Int))} (b : pr12_Tick a0 = some r) :
  Calls Tryz.prog 84 ([v0_] : List Value).toArray w (zu fun v w' => ∃ (G' : qk) (v1' : Value) (A2' : Option Addr) (c3' : Nat), GLe G G' ∧ tup [v1', (.slice A2' r.2.length c3')] = v ∧ St c G' w' (σ) ∧ za.V G' v1' r.1 ∧ SlR kI G' A2' c3' r.2) := by
 unfold pr12_Tick at b
 refine qG Tryz.func84 rfl rfl rfl (wp_seq (qc ?_))
 refine zp (K := za) (x := a0) H rfl h0_ ?_
 intro b1 w4 H2
 refine qP H2 zr26 ?_
 intro b5 w8 H6
 refine qb (qa (.slice none 0 0) rfl) (qd (qe (wp_seq (wp_seq (qc (qb (qh fo26_2 rfl) (qp H6 (i := 1) rfl zM (qz .i64) ty3 rfl (qb (qa (.bool (a0.Left == 0)) rfl) (qd (qe ?_))))))))))
 rcases qm (a0.Left == 0) with hb9 | hb9
 ·replace b := ifT b hb9
  refine qs (vb hb9) (wp_seq (qc ?_))
  refine ql H6 (i := 1) rfl (Lens.id za) xA rfl ?_
  intro v10 hv11
  refine qy (z := a0) H6 (i := 0) rfl (Lens.id za) xA rfl rfl hv11 ?_
  intro w13 H12
  refine qb (qa (.slice none 0 0) rfl) (qd (qe (wp_ret (qI ?_))))
  obtain ⟨v14, hv15, hl16⟩ := H12.loadv (i := 0) rfl xA
  have b := yq b
  subst b
  exact qt rfl (RV.cell rfl hl16 (RV.tmp rfl RV.nil)) ⟨_, v14, none, 0, GLe.refl _, rfl, (St.pk [] 2 H12 rfl (by decide)), hv15, (SlR.nil _ _)⟩
 replace b := ifF b hb9
 refine qn (vb hb9) (wp_skip (qe (wp_seq (qc (qb (qh fo26_2 rfl) (qp H6 (i := 1) rfl zM (qz .i64) ty3 rfl (qb (qa (.int .i64 (IntKind.i64.wrap (a0.Left - 1))) rfl) (qb (qh fo26_2 rfl) ?_))))))))
 refine qy (z := (IntKind.i64.wrap (a0.Left - 1))) H6 (i := 1) rfl zM ty3 rfl rfl ((qz .i64).toV _ _) ?_
 intro w18 H17
 refine qd (qe (wp_seq (wp_seq (qc (qb (qh fo26_2 rfl) (qp H17 (i := 1) rfl zM (qz .i64) ty3 rfl (qb (qa (.bool (decide ((IntKind.i64.wrap (a0.Left - 1)) > 0))) rfl) (qd (qe ?_)))))))))
 rcases qm (decide ((IntKind.i64.wrap (a0.Left - 1)) > 0)) with hb19 | hb19
 ·replace b := ifT b hb19
  refine qs (vb hb19) (wp_seq (qc ?_))
  refine ql H17 (i := 1) rfl (Lens.id za) xA rfl ?_
  intro v20 hv21
  refine qy (z := (TAuto.mk a0.State a0.Count (IntKind.i64.wrap (a0.Left - 1)) a0.Id)) H17 (i := 0) rfl (Lens.id za) xA rfl rfl hv21 ?_
  intro w23 H22
  refine qb (qa (.slice none 0 0) rfl) (qd (qe (wp_ret (qI ?_))))
  obtain ⟨v24, hv25, hl26⟩ := H22.loadv (i := 0) rfl xA
  have b := yq b
  subst b
  exact qt rfl (RV.cell rfl hl26 (RV.tmp rfl RV.nil)) ⟨_, v24, none, 0, GLe.refl _, rfl, (St.pk [] 2 H22 rfl (by decide)), hv25, (SlR.nil _ _)⟩
 replace b := ifF b hb19
 refine qn (vb hb19) (wp_skip (qe (wp_seq (wp_seq (qc (qb (qh fo26_1 rfl) (qp H17 (i := 1) rfl jF (qz .i64) ty3 rfl (qb (qa (.bool (decide (a0.Count > 0))) rfl) (qd (qe ?_))))))))))
 rcases qm (decide (a0.Count > 0)) with hb27 | hb27
 ·replace b := ifT b hb27
  refine qs (vb hb27) (wp_seq (qc ?_))
  refine ql H17 (i := 1) rfl (Lens.id za) xA rfl ?_
  intro v28 hv29
  obtain ⟨r30, hr31, b⟩ := qu b
  refine qo (vs := [v28, (.int .i64 4)]) en149 rfl (pr12_Do_ok k hv29 H17 hr31) ?_
  rintro v36 w35 ⟨G32, v37, A39, c40, hG33, rfl, H34, hv38, hs41⟩
  refine qb (qa (.tuple #[v37, (.slice A39 r30.2.1.length c40), (.int .i64 r30.2.2)]) rfl) (qb (qa v37 rfl) (qb (qa (.slice A39 r30.2.1.length c40) rfl) (qb (qa (.int .i64 r30.2.2) rfl) ?_)))
  refine qP H34 zr26 ?_
  intro b42 w45 H43
  refine qy (z := r30.1) H43 (i := 0) rfl (Lens.id za) xA rfl rfl hv38 ?_
  intro w47 H46
  refine qb (qa (.slice A39 r30.2.1.length c40) rfl) (qb (qa (.int .i64 r30.2.2) rfl) (qd (qe (wp_seq (qc ?_)))))
  refine ql H46 (i := 0) rfl (Lens.id za) xA rfl ?_
  intro v48 hv49
  refine qb (qa (.slice A39 r30.2.1.length c40) rfl) ?_
  refine qy (z := r30.1) H46 (i := 1) rfl (Lens.id za) xA rfl rfl hv49 ?_
  intro w51 H50
  refine qb (qa (.slice A39 r30.2.1.length c40) rfl) (qd (qe (wp_ret (qI ?_))))
  obtain ⟨v52, hv53, hl54⟩ := H50.loadv (i := 1) rfl xA
  have b := yq b
  subst b
  exact qt rfl (RV.cell rfl hl54 (RV.tmp rfl RV.nil)) ⟨_, v52, A39, c40, hG33, rfl, (St.pk [] 3 H50 rfl (by decide)), hv53, hs41⟩
 replace b := ifF b hb27
 refine qn (vb hb27) (wp_skip (qe (wp_seq (qc ?_))))
 refine ql H17 (i := 1) rfl (Lens.id za) xA rfl ?_
 intro v55 hv56
 obtain ⟨r57, hr58, b⟩ := qu b
 refine qo (vs := [v55, (.int .i64 5)]) en149 rfl (pr12_Do_ok k hv56 H17 hr58) ?_
 rintro v63 w62 ⟨G59, v64, A66, c67, hG60, rfl, H61, hv65, hs68⟩
 refine qb (qa (.tuple #[v64, (.slice A66 r57.2.1.length c67), (.int .i64 r57.2.2)]) rfl) (qb (qa v64 rfl) (qb (qa (.slice A66 r57.2.1.length c67) rfl) (qb (qa (.int .i64 r57.2.2) rfl) ?_)))
 refine qP H61 zr26 ?_
 intro b69 w72 H70
 refine qy (z := r57.1) H70 (i := 0) rfl (Lens.id za) xA rfl rfl hv65 ?_
 intro w74 H73
 refine qb (qa (.slice A66 r57.2.1.length c67) rfl) (qb (qa (.int .i64 r57.2.2) rfl) (qd (qe (wp_seq (qc ?_)))))
 refine ql H73 (i := 0) rfl (Lens.id za) xA rfl ?_
 intro v75 hv76
 refine qb (qa (.slice A66 r57.2.1.length c67) rfl) ?_
 refine qy (z := r57.1) H73 (i := 1) rfl (Lens.id za) xA rfl rfl hv76 ?_
 intro w78 H77
 refine qb (qa (.slice A66 r57.2.1.length c67) rfl) (qd (qe (wp_ret ?_)))
 obtain ⟨v79, hv80, hl81⟩ := H77.loadv (i := 1) rfl xA
 have b := yq b
 subst b
 exact qt rfl (RV.cell rfl hl81 (RV.tmp rfl RV.nil)) ⟨_, v79, A66, c67, hG60, rfl, (St.pk [] 3 H77 rfl (by decide)), hv80, hs68⟩
end Go.Proofs.YtadlndnagfnlgaaGreatDoor.W
