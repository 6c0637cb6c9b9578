/- Calls come to what the plain functions say: written by a program (gen.py). -/
import Derived.Test.YtadlndnagfnlgaaDoorG
import Derived.Test.YtadlndnagfnlgaaDoorF0
import Derived.Test.YtadlndnagfnlgaaDoorF1
set_option linter.unusedVariables false
set_option maxRecDepth 20000
namespace Go.Proofs.YtadlndnagfnlgaaDoor.W
open Go
set_option maxHeartbeats 4000000
attribute [local irreducible] wpList wpAny Code.wp wpListIn wpAnyIn Code.wpIn
theorem wl_ap {c : World} (hc : Hc c) {ops : Array Oper} {Q : Exit → Act → World → Prop} {rest : List Oper} {n : Nat} {T : Fr} {w : World} {G : Ghost} {σ : List Ent} {d ty : Nat} {pos : String} {af : Array Edge} {x : Operand} {xs : List Operand} {tys : Array TypeId} {v : Value} {y : FV} {a0 : Int} {r : Bool}
  (H : St c G w σ) (hx : ev n T x = v) (hv : kFV.V G v y) (hxs : xs.map (ev n T) = [(.int .u32 a0)]) (hr : ap y a0 = some r)
  (h : ∀ G' w', GLe G G' → St c G' w' σ → wpList Tryd.prog ops Q rest (mk n (upd T d (.bool r))) w') : wpList Tryd.prog ops Q (⟨some d, .call { callee := .value x, args := xs.toArray, argTypes := tys }, ty, pos, af, none⟩ :: rest) (mk n T) w := by
 obtain ⟨cs, rfl, hv⟩ := hv
 cases y with
 | nil => cases hr
 | rules_kinds_1 r0 =>
  obtain ⟨a, rfl, hp⟩ := hv
  refine wl_callv (first := []) (captured := [.pointer (some a)]) (vs := [(.int .u32 a0), .pointer (some a)]) en99 hx (by rw [hxs]; rfl) (rules_kinds_1_ok hc hp H hr) ?_
  rintro v w' ⟨G', hG, rfl, H'⟩
  exact h _ _ hG H'
 | rules_kinds_2 =>
  have e : cs = _ := hv
  subst e
  refine wl_callv (first := []) (captured := []) (vs := [(.int .u32 a0)]) en100 hx (by rw [hxs]; rfl) (rules_kinds_2_ok hc H hr) ?_
  rintro v w' ⟨G', hG, rfl, H'⟩
  exact h _ _ hG H'
 | rules_never =>
  have e : cs = _ := hv
  subst e
  refine wl_callv (first := []) (captured := []) (vs := [(.int .u32 a0)]) en101 hx (by rw [hxs]; rfl) (rules_never_ok hc H hr) ?_
  rintro v w' ⟨G', hG, rfl, H'⟩
  exact h _ _ hG H'
 | rules_kinds_3 r0 =>
  obtain ⟨a, rfl, hp⟩ := hv
  refine wl_callv (first := []) (captured := [.pointer (some a)]) (vs := [(.int .u32 a0), .pointer (some a)]) en102 hx (by rw [hxs]; rfl) (rules_kinds_3_ok hc hp H hr) ?_
  rintro v w' ⟨G', hG, rfl, H'⟩
  exact h _ _ hG H'

theorem rules_Address_1_ok {c : World} (hc : Hc c) {G : Ghost} {w : World} {σ : List Ent} {a0 : TOpt} {v0_ : Value} (h0_ : kTOpt.V G v0_ a0) (H : St c G w (σ)) {r : Bool} (hF : rules_Address_1 a0 = some r) :
  Calls Tryd.prog 97 ([v0_] : List Value).toArray w (Ends fun v w' => ∃ (G' : Ghost), GLe G G' ∧ tup [(.bool r)] = v ∧ St c G' w' (σ)) := by
 unfold rules_Address_1 at hF
 refine calls_mk Tryd.func97 rfl rfl rfl ?_
 refine wp_seq (wc_region ?_)
 refine wl_box (K := kTOpt) (x := a0) H rfl h0_ ?_
 intro b1 w4 H2
 refine wl_rn (rn_pure (.bool false) rfl) ?_
 refine wl_nil (then_n (wp_seq (wc_region ?_)))
 refine wl_rnE (rn_build (G := G) zr26 rfl bs26 rfl (Parts.cons fo26_0 lTRule_Ip (dBool.toV _ _) (Parts.nil _))) ?_
 intro v5 hv6
 refine wl_load H2 (i := 0) rfl (Lens.id kTOpt) ty60 rfl ?_
 intro v7 hv8
 obtain ⟨r9, hr10, hF⟩ := bindS hF
 refine wl_call (vs := [v5, v7]) en87 rfl (rules_of_ok hc hv6 hv8 H2 hr10) ?_
 rintro v15 w14 ⟨G11, v16, hG12, rfl, H13, hv17⟩
 refine wl_rn (rn_pure (.tuple #[v16, (.bool r9.2)]) rfl) ?_
 refine wl_rn (rn_pure v16 rfl) ?_
 refine wl_rn (rn_pure (.bool r9.2) rfl) ?_
 refine wl_alloc H13 zr130 ?_
 intro b18 w21 H19
 refine wl_store (z := r9.1) H19 (i := 0) rfl (Lens.id kTrules_kind) ty130 rfl rfl hv17 ?_
 intro w23 H22
 refine wl_rn (rn_pure (.bool r9.2) rfl) ?_
 refine wl_nil (then_n (wp_seq (wc_region ?_)))
 iterate 2 refine wl_rn (rn_pure (.bool r9.2) rfl) ?_
 refine wl_nil (then_n ?_)
 refine wp_ret ?_
 have hF := Option.some.inj hF
 subst hF
 exact ret_mk rfl (RV.tmp rfl RV.nil) ⟨_, hG12, rfl, (St.pk [] 2 H22 rfl (by decide))⟩

theorem slices_IndexFunc_Opt_rules_Address_1_ok {c : World} (hc : Hc c) {G : Ghost} {w : World} {σ : List Ent} {a0 : (List TOpt)} {A0_ : Option Addr} {c0_ : Nat} (h0_ : SlR kTOpt G A0_ c0_ a0) (H : St c G w (σ)) {r : Int} (hF : slices_IndexFunc_Opt_rules_Address_1 a0 = some r) :
  Calls Tryd.prog 65 ([(.slice A0_ a0.length c0_), (.func (.func 97) #[] #[])] : List Value).toArray w (Ends fun v w' => ∃ (G' : Ghost), GLe G G' ∧ tup [(.int .i64 r)] = v ∧ St c G' w' (σ)) := by
 unfold slices_IndexFunc_Opt_rules_Address_1 at hF
 refine calls_mk Tryd.func65 rfl rfl rfl ?_
 refine wp_seq (wc_region ?_)
 refine wl_rn (rn_pure (.int .i64 0) rfl) ?_
 refine wl_nil (then_n ?_)
 refine wp_seq ?_
 refine wp_seq (wc_region ?_)
 refine wl_rn (rn_pure (.slice A0_ a0.length c0_) rfl) ?_
 refine wl_rn (rn_len sl27 rfl) ?_
 refine wl_rn (rn_pure (.int .i64 0) rfl) ?_
 refine wl_nil (then_n ?_)
 refine wp_block ?_
 refine wp_loopX (fun (s : Int) a w => ∃ (T0 : Fr) (G1 : Ghost), a = mk 19 (upds T0 [(0, (.slice A0_ a0.length c0_)), (1, (.func (.func 97) #[] #[])), (7, (.int .i64 (a0.length : Int))), (8, (.int .i64 s))]) ∧ GLe G G1 ∧ St c G1 w (σ)) hF ?_ ?_
 ·exact ⟨_, _, frame_eq _ ⟨rfl, rfl, rfl, rfl, trivial⟩, GLe.refl _, H⟩
 ·rintro x18 a w y21 ⟨T0, G22, rfl, hG19, H20⟩ hF hy1
  refine wp_seq (wc_region ?_)
  refine wl_rn (rn_pure (.bool (decide (x18 < (a0.length : Int)))) rfl) ?_
  refine wl_nil (then_n ?_)
  refine wp_seq ?_
  rcases bcases (decide (x18 < (a0.length : Int))) with hb23 | hb23
  ·replace hF := ifT hF hb23
   refine wc_true (vb hb23) ?_
   refine wp_skip ?_
   refine then_n ?_
   refine wp_seq ?_
   refine wp_block ?_
   refine wp_seq (wc_region ?_)
   iterate 2 refine wl_rn (rn_pure (.int .i64 x18) rfl) ?_
   refine wl_nil (then_n (wp_seq (wc_region ?_)))
   refine wl_rn (rn_pure (.func (.func 97) #[] #[]) rfl) ?_
   refine wl_rn (rn_pure (.slice A0_ a0.length c0_) rfl) ?_
   refine wl_rn (rn_pure (.int .i64 x18) rfl) ?_
   obtain ⟨x24, hx25, hF⟩ := bindS hF
   refine wl_rnE (rn_index (h0_.mono hG19) sl27 ty60 rfl rfl hx25) ?_
   intro a26 hp27
   refine wl_loadp H20 hp27 ty60 rfl ?_
   intro v28 hv29
   obtain ⟨r30, hr31, hF⟩ := bindS hF
   refine wl_callv (first := []) (captured := []) (vs := [v28]) en97 rfl rfl (rules_Address_1_ok hc hv29 H20 hr31) ?_
   rintro v36 w35 ⟨G32, hG33, rfl, H34⟩
   refine wl_nil (then_n ?_)
   rcases bcases r30 with hb37 | hb37
   ·replace hF := ifT hF hb37
    refine wc_true (vb hb37) ?_
    refine wp_seq (wc_region ?_)
    iterate 2 refine wl_rn (rn_pure (.int .i64 x18) rfl) ?_
    refine wl_nil (then_n ?_)
    refine wp_ret ?_
    refine blk_r ?_
    iterate 2 refine then_r ?_
    replace hF := exitS hF hy1
    refine blk_r ?_
    refine then_r ?_
    have hF := Option.some.inj hF
    subst hF
    exact ret_mk rfl (RV.tmp rfl RV.nil) ⟨_, (hG19.trans hG33), rfl, H34⟩
   ·replace hF := ifF hF hb37
    refine wc_false (vb hb37) ?_
    refine wp_skip ?_
    refine blk_n ?_
    refine then_n ?_
    refine wc_region ?_
    iterate 2 refine wl_rn (rn_pure (.int .i64 (IntKind.i64.wrap (x18 + 1))) rfl) ?_
    refine wl_nil (then_n ?_)
    exact ⟨_, (Option.some.inj hF).symm, _, _, frame_eq _ ⟨rfl, rfl, rfl, rfl, trivial⟩, (hG19.trans hG33), H34⟩
  ·replace hF := ifF hF hb23
   refine wc_false (vb hb23) ?_
   refine wp_exit ?_
   iterate 2 refine then_e ?_
   replace hF := exitS hF hy1
   refine blk_e ?_
   refine then_n ?_
   refine wp_seq (wc_region ?_)
   refine wl_rn (rn_pure (.int .i64 (-1)) rfl) ?_
   refine wl_nil (then_n ?_)
   refine wp_ret ?_
   have hF := Option.some.inj hF
   subst hF
   exact ret_mk rfl (RV.tmp rfl RV.nil) ⟨_, hG19, rfl, H20⟩

theorem rules_Address_ok {c : World} (hc : Hc c) {G : Ghost} {w : World} {σ : List Ent} {a0 : (List TOpt)} {A0_ : Option Addr} {c0_ : Nat} (h0_ : SlR kTOpt G A0_ c0_ a0) (H : St c G w (σ)) {r : (Int × Bool)} (hF : rules_Address a0 = some r) :
  Calls Tryd.prog 88 ([(.slice A0_ a0.length c0_)] : List Value).toArray w (Ends fun v w' => ∃ (G' : Ghost), GLe G G' ∧ tup [(.int .u32 r.1), (.bool r.2)] = v ∧ St c G' w' (σ)) := by
 unfold rules_Address at hF
 refine calls_mk Tryd.func88 rfl rfl rfl ?_
 refine wp_seq (wc_region ?_)
 refine wl_rn (rn_pure (.int .u32 0) rfl) ?_
 refine wl_rn (rn_pure (.bool false) rfl) ?_
 refine wl_nil (then_n (wp_seq (wc_region ?_)))
 refine wl_rn (rn_pure (.slice A0_ a0.length c0_) rfl) ?_
 obtain ⟨r1, hr2, hF⟩ := bindS hF
 refine wl_call (vs := [(.slice A0_ a0.length c0_), (.func (.func 97) #[] #[])]) en65 rfl (slices_IndexFunc_Opt_rules_Address_1_ok hc h0_ H hr2) ?_
 rintro v7 w6 ⟨G3, hG4, rfl, H5⟩
 refine wl_rn (rn_pure (.int .i64 r1) rfl) ?_
 refine wl_nil (then_n ?_)
 refine wp_seq ?_
 refine wp_seq (wc_region ?_)
 refine wl_rn (rn_pure (.int .i64 r1) rfl) ?_
 refine wl_rn (rn_pure (.bool (decide (r1 < 0))) rfl) ?_
 refine wl_nil (then_n ?_)
 rcases bcases (decide (r1 < 0)) with hb8 | hb8
 ·replace hF := ifT hF hb8
  refine wc_true (vb hb8) ?_
  refine wp_seq (wc_region ?_)
  refine wl_rn (rn_pure (.int .u32 0) rfl) ?_
  refine wl_rn (rn_pure (.bool false) rfl) ?_
  refine wl_nil (then_n ?_)
  refine wp_ret ?_
  refine then_r ?_
  have hF := Option.some.inj hF
  subst hF
  exact ret_mk rfl (RV.tmp rfl (RV.tmp rfl RV.nil)) ⟨_, hG4, rfl, H5⟩
 ·replace hF := ifF hF hb8
  refine wc_false (vb hb8) ?_
  refine wp_skip ?_
  refine then_n ?_
  refine wp_seq (wc_region ?_)
  refine wl_rn (rn_pure (.slice A0_ a0.length c0_) rfl) ?_
  refine wl_rn (rn_pure (.int .i64 r1) rfl) ?_
  obtain ⟨x9, hx10, hF⟩ := bindS hF
  refine wl_rnE (rn_index (h0_.mono hG4) sl27 ty60 rfl rfl hx10) ?_
  intro a11 hp12
  refine wl_rn (rn_fieldp fo60_1 rfl) ?_
  refine wl_loadp H5 (hp12.lens lTOpt_Data) ty30 rfl ?_
  intro v13 hv14
  obtain ⟨A15, c16, rfl, hs17⟩ := slice_V hv14
  obtain ⟨r18, hr19, hF⟩ := bindS hF
  refine wl_call (vs := [(.slice A15 x9.Data.length c16)]) en40 rfl (opts_Number_ok hc hs17 H5 hr19) ?_
  rintro v24 w23 ⟨G20, hG21, rfl, H22⟩
  refine wl_rn (rn_pure (.int .u32 r18) rfl) ?_
  refine wl_rn (rn_pure (.bool true) rfl) ?_
  refine wl_nil (then_n ?_)
  refine wp_ret ?_
  have hF := Option.some.inj hF
  subst hF
  exact ret_mk rfl (RV.tmp rfl (RV.tmp rfl RV.nil)) ⟨_, (hG4.trans hG21), rfl, H22⟩

theorem rules_Answer_ok {c : World} (hc : Hc c) {G : Ghost} {w : World} {σ : List Ent} {a0 : TRule} {v0_ : Value} {a1 : (List TOpt)} {A1_ : Option Addr} {c1_ : Nat} {a2 : Int} (h0_ : kTRule.V G v0_ a0) (h1_ : SlR kTOpt G A1_ c1_ a1) (H : St c G w (σ)) {r : (Int × (List TOpt))} (hF : rules_Answer a0 a1 a2 = some r) :
  Calls Tryd.prog 75 ([v0_, (.slice A1_ a1.length c1_), (.int .i64 a2)] : List Value).toArray w (Ends fun v w' => ∃ (G' : Ghost) (A1' : Option Addr) (c2' : Nat), GLe G G' ∧ tup [(.int .u8 r.1), (.slice A1' r.2.length c2')] = v ∧ St c G' w' (σ) ∧ SlR kTOpt G' A1' c2' r.2) := by
 unfold rules_Answer at hF
 refine calls_mk Tryd.func75 rfl rfl rfl ?_
 refine wp_seq (wc_region ?_)
 refine wl_box (K := kTRule) (x := a0) H rfl h0_ ?_
 intro b1 w4 H2
 refine wl_rn (rn_pure (.int .u8 0) rfl) ?_
 refine wl_rn (rn_pure (.slice none 0 0) rfl) ?_
 refine wl_nil (then_n (wp_seq (wc_region ?_)))
 iterate 3 refine wl_rn (rn_pure (.slice none 0 0) rfl) ?_
 refine wl_nil (then_n ?_)
 refine wp_seq ?_
 refine wp_seq (wc_region ?_)
 refine wl_rn (rn_pure (.slice A1_ a1.length c1_) rfl) ?_
 refine wl_rn (rn_len sl27 rfl) ?_
 refine wl_rn (rn_pure (.int .i64 0) rfl) ?_
 refine wl_nil (then_n ?_)
 refine wp_block ?_
 have H720 := H2.nilrow kTOpt none 60
 have H722 := H720.nilrow kTOpt none 60
 have H724 := H722.nilrow kTOpt none 60
 refine wp_loopX (fun (s : ((List TOpt) × (List TOpt) × (List TOpt) × Int)) a w => ∃ (T0 : Fr) (G1 : Ghost) (g225 : Option Nat) (A226 : Option Addr) (c227 : Nat) (g230 : Option Nat) (A231 : Option Addr) (c232 : Nat) (g235 : Option Nat) (A236 : Option Addr) (c237 : Nat), a = mk 92 (upds T0 [(1, (.slice A1_ a1.length c1_)), (2, (.int .i64 a2)), (3, (pt b1)), (8, (.slice A226 s.1.length c227)), (9, (.slice A231 s.2.1.length c232)), (10, (.slice A236 s.2.2.1.length c237)), (17, (.slice A1_ a1.length c1_)), (18, (.int .i64 (a1.length : Int))), (19, (.int .i64 s.2.2.2))]) ∧ GLe G G1 ∧ St c G1 w ((.row kTOpt g225 A226 c227 60 s.1) :: (.row kTOpt g230 A231 c232 60 s.2.1) :: (.row kTOpt g235 A236 c237 60 s.2.2.1) :: (.box b1 26 (kTRule.at_ a0)) :: σ)) hF ?_ ?_
 ·exact ⟨_, _, none, none, 0, none, none, 0, none, none, 0, frame_eq _ ⟨rfl, rfl, rfl, rfl, rfl, rfl, rfl, rfl, rfl, trivial⟩, GLe.refl _, (St.pk [2, 1, 0, 3] 4 H724 rfl (by decide))⟩
 ·rintro ⟨x224, x229, x234, x239⟩ a w y242 ⟨T0, G243, g225, A226, c227, g230, A231, c232, g235, A236, c237, rfl, hG240, H241⟩ hF hy5
  refine wp_seq (wc_region ?_)
  refine wl_rn (rn_pure (.bool (decide (x239 < (a1.length : Int)))) rfl) ?_
  refine wl_nil (then_n ?_)
  refine wp_seq ?_
  rcases bcases (decide (x239 < (a1.length : Int))) with hb244 | hb244
  ·replace hF := ifT hF hb244
   refine wc_true (vb hb244) ?_
   refine wp_skip ?_
   refine then_n ?_
   refine wp_seq (join (fun a w => ∃ (T0 : Fr) (G1 : Ghost) (x364 : (List TOpt)) (x369 : (List TOpt)) (x374 : (List TOpt)) (g365 : Option Nat) (A366 : Option Addr) (c367 : Nat) (g370 : Option Nat) (A371 : Option Addr) (c372 : Nat) (g375 : Option Nat) (A376 : Option Addr) (c377 : Nat), a = mk 92 (upds T0 [(1, (.slice A1_ a1.length c1_)), (2, (.int .i64 a2)), (3, (pt b1)), (8, (.slice A366 x364.length c367)), (9, (.slice A371 x369.length c372)), (10, (.slice A376 x374.length c377)), (17, (.slice A1_ a1.length c1_)), (18, (.int .i64 (a1.length : Int))), (19, (.int .i64 x239))]) ∧ GLe G243 G1 ∧ St c G1 w ((.row kTOpt g365 A366 c367 60 x364) :: (.row kTOpt g370 A371 c372 60 x369) :: (.row kTOpt g375 A376 c377 60 x374) :: (.box b1 26 (kTRule.at_ a0)) :: σ) ∧ rules_Answer_j2 x239 x364 x369 x374 = some y242) ?_ ?_)
   ·rintro a w ⟨T0, G381, x364, x369, x374, g365, A366, c367, g370, A371, c372, g375, A376, c377, rfl, hG379, H380, hF⟩
    refine wc_region ?_
    iterate 2 refine wl_rn (rn_pure (.int .i64 (IntKind.i64.wrap (x239 + 1))) rfl) ?_
    refine wl_nil (then_n ?_)
    exact ⟨_, (Option.some.inj hF).symm, _, _, g365, A366, c367, g370, A371, c372, g375, A376, c377, frame_eq _ ⟨rfl, rfl, rfl, rfl, rfl, rfl, rfl, rfl, rfl, trivial⟩, (hG240.trans hG379), H380⟩
   ·refine wp_block ?_
    refine wp_seq (wc_region ?_)
    obtain ⟨x382, hx383, hF⟩ := bindS hF
    refine wl_rnE (rn_index (h1_.mono hG240) sl27 ty60 rfl rfl hx383) ?_
    intro a384 hp385
    refine wl_loadp H241 hp385 ty60 rfl ?_
    intro v386 hv387
    refine wl_alloc H241 zr60 ?_
    intro b388 w391 H389
    refine wl_store (z := x382) H389 (i := 0) rfl (Lens.id kTOpt) ty60 rfl rfl hv387 ?_
    intro w393 H392
    refine wl_nil (then_n (wp_seq (wc_region ?_)))
    refine wl_load H392 (i := 4) rfl (Lens.id kTRule) ty26 rfl ?_
    intro v394 hv395
    refine wl_load H392 (i := 0) rfl (Lens.id kTOpt) ty60 rfl ?_
    intro v396 hv397
    obtain ⟨r398, hr399, hF⟩ := bindS hF
    refine wl_call (vs := [v394, v396]) en87 rfl (rules_of_ok hc hv395 hv397 H392 hr399) ?_
    rintro v404 w403 ⟨G400, v405, hG401, rfl, H402, hv406⟩
    refine wl_rn (rn_pure (.tuple #[v405, (.bool r398.2)]) rfl) ?_
    refine wl_rn (rn_pure v405 rfl) ?_
    refine wl_rn (rn_pure (.bool r398.2) rfl) ?_
    refine wl_alloc H402 zr130 ?_
    intro b407 w410 H408
    refine wl_store (z := r398.1) H408 (i := 0) rfl (Lens.id kTrules_kind) ty130 rfl rfl hv406 ?_
    intro w412 H411
    refine wl_rn (rn_pure (.bool r398.2) rfl) ?_
    refine wl_nil (then_n ?_)
    refine wp_block ?_
    refine wp_seq (wc_region ?_)
    refine wl_rn (rn_pure (.bool r398.2) rfl) ?_
    iterate 2 refine wl_rn (rn_pure (.bool (!r398.2)) rfl) ?_
    refine wl_nil (then_n ?_)
    rcases bcases (!r398.2) with hb413 | hb413
    ·replace hF := ifT hF hb413
     refine wc_true (vb hb413) ?_
     refine wc_region ?_
     refine wl_rn (rn_pure (.slice A226 x224.length c227) rfl) ?_
     refine wl_load H411 (i := 1) rfl (Lens.id kTOpt) ty60 rfl ?_
     intro v414 hv415
     refine wl_lit (K := kTOpt) (vs := [v414]) (xs := ([x382] : (List TOpt))) H411 sl27 el60 rfl ⟨hv415, trivial⟩ rfl (by decide) ?_
     intro g416 w418 H417
     obtain ⟨r420, hr421, hF⟩ := bindS hF
     refine wl_append H417 sl27 el60 (i := 3) rfl rfl rfl ((H417.okAt (i := 0) rfl).src) hr421 ?_
     intro g422 A423 c424 w425 H426
     refine wl_rn (rn_pure (.slice A423 r420.length c424) rfl) ?_
     refine wl_nil (blk_n ?_)
     refine blk_n ?_
     refine then_n ?_
     exact ⟨_, _, r420, x229, x234, g422, A423, c424, g230, A231, c232, g235, A236, c237, frame_eq _ ⟨rfl, rfl, rfl, rfl, rfl, rfl, rfl, rfl, rfl, trivial⟩, hG401, (St.pk [3, 4, 5, 6] 7 H426 rfl (by decide)), hF⟩
    ·replace hF := ifF hF hb413
     refine wc_false (vb hb413) ?_
     refine wp_seq ?_
     refine wc_anyS (f := 7) H411 mixed ?_
     intro w447 H448
     refine any_pf (by repeat (first | exact PF.base | apply PF.then_ | apply PF.blk)) ?_
     intro hPF hns
     obtain ⟨r456, hr457, hF⟩ := bindS hF
     obtain ⟨r463, hr464, hF⟩ := bindS hF
     refine any_memo (fuel := 2) (m := 31) (fun a w => ∃ (T0 : Fr) (G1 : Ghost) (v504 : Value), a = mk 92 (upds T0 [(1, (.slice A1_ a1.length c1_)), (2, (.int .i64 a2)), (3, (pt b1)), (8, (.slice A226 x224.length c227)), (9, (.slice A231 x229.length c232)), (10, (.slice A236 x234.length c237)), (12, (pt b388)), (13, (pt b407)), (17, (.slice A1_ a1.length c1_)), (18, (.int .i64 (a1.length : Int))), (19, (.int .i64 x239)), (38, v504), (41, (.int .u32 r456))]) ∧ GLe G400 G1 ∧ St c G1 w ((.box b1 26 (kTRule.at_ a0)) :: (.row kTOpt g225 A226 c227 60 x224) :: (.row kTOpt g230 A231 c232 60 x229) :: (.row kTOpt g235 A236 c237 60 x234) :: (.box b388 60 (kTOpt.at_ x382)) :: (.box b407 130 (kTrules_kind.at_ r398.1)) :: σ) ∧ kFV.V G1 v504 r398.1.Not) ?_ ?_
     ·rintro a w ⟨T0, G503, v504, rfl, hG501, H502, hv505⟩
      refine any_alls [5] ⟨any_ops (m' := 63) fun Q' hN => ?_, trivial⟩
      refine wl_ap hc H502 rfl hv505 rfl hr464 ?_
      intro G510 w511 hG512 H513
      refine wl_nil (hN _ _ ?_)
      refine any_rn (i := 6) (m' := 127) rfl (rn_pure (.bool r463) rfl) hPF hns ?_
      refine any_end ?_
      refine then_n ?_
      rcases bcases r463 with hb514 | hb514
      ·replace hF := ifT hF hb514
       refine wc_true (vb hb514) ?_
       refine wp_seq (wc_region ?_)
       refine wl_rn (rn_pure (.slice A231 x229.length c232) rfl) ?_
       refine wl_load H513 (i := 4) rfl (Lens.id kTOpt) ty60 rfl ?_
       intro v515 hv516
       refine wl_lit (K := kTOpt) (vs := [v515]) (xs := ([x382] : (List TOpt))) H513 sl27 el60 rfl ⟨hv516, trivial⟩ rfl (by decide) ?_
       intro g517 w519 H518
       obtain ⟨r521, hr522, hF⟩ := bindS hF
       refine wl_append H518 sl27 el60 (i := 3) rfl rfl rfl ((H518.okAt (i := 0) rfl).src) hr522 ?_
       intro g523 A524 c525 w526 H527
       refine wl_rn (rn_pure (.slice A524 r521.length c525) rfl) ?_
       refine wl_nil (then_n ?_)
       refine wc_region ?_
       refine wl_rn (rn_pure (.slice A236 x234.length c237) rfl) ?_
       refine wl_rn (rn_field fo60_0 rfl) ?_
       refine wl_loadd H527 (i := 5) rfl lTOpt_Typ (dInt .u8) ty5 rfl ?_
       refine wl_rn (rn_field fo130_0 rfl) ?_
       refine wl_loadd H527 (i := 6) rfl lTrules_kind_Long (dInt .i64) ty3 rfl ?_
       refine wl_rn (rn_field fo130_2 rfl) ?_
       refine wl_loadd H527 (i := 6) rfl lTrules_kind_Should (dInt .u32) ty24 rfl ?_
       obtain ⟨r528, hr529, hF⟩ := bindS hF
       refine wl_call (vs := [(.int .u8 x382.Typ), (.int .i64 r398.1.Long), (.int .u32 r398.1.Should)]) en61 rfl (rules_number_ok hc H527 hr529) ?_
       rintro v534 w533 ⟨G530, v535, hG531, rfl, H532, hv536⟩
       refine wl_lit (K := kTOpt) (vs := [v535]) (xs := ([r528] : (List TOpt))) H532 sl27 el60 rfl ⟨hv536, trivial⟩ rfl (by decide) ?_
       intro g537 w539 H538
       obtain ⟨r541, hr542, hF⟩ := bindS hF
       refine wl_append H538 sl27 el60 (i := 5) rfl rfl rfl ((H538.okAt (i := 0) rfl).src) hr542 ?_
       intro g543 A544 c545 w546 H547
       refine wl_rn (rn_pure (.slice A544 r541.length c545) rfl) ?_
       refine wl_nil (blk_n ?_)
       refine blk_n ?_
       refine then_n ?_
       exact ⟨_, _, x224, r521, r541, g225, A226, c227, g523, A524, c525, g543, A544, c545, frame_eq _ ⟨rfl, rfl, rfl, rfl, rfl, rfl, rfl, rfl, rfl, trivial⟩, (((hG401.trans hG501).trans hG512).trans hG531), (St.pk [3, 4, 5, 2] 8 H547 rfl (by decide)), hF⟩
      ·replace hF := ifF hF hb514
       refine wc_false (vb hb514) ?_
       refine wp_skip ?_
       iterate 2 refine blk_n ?_
       refine then_n ?_
       exact ⟨_, _, x224, x229, x234, g225, A226, c227, g230, A231, c232, g235, A236, c237, frame_eq _ ⟨rfl, rfl, rfl, rfl, rfl, rfl, rfl, rfl, rfl, trivial⟩, ((hG401.trans hG501).trans hG512), (St.pk [1, 2, 3, 0] 6 H513 rfl (by decide)), hF⟩
     intro hM500
     refine any_memo (fuel := 3) (m := 15) (fun a w => ∃ (T0 : Fr) (G1 : Ghost) (v490 : Value) (A492 : Option Addr) (c493 : Nat), a = mk 92 (upds T0 [(1, (.slice A1_ a1.length c1_)), (2, (.int .i64 a2)), (3, (pt b1)), (8, (.slice A226 x224.length c227)), (9, (.slice A231 x229.length c232)), (10, (.slice A236 x234.length c237)), (12, (pt b388)), (13, (pt b407)), (17, (.slice A1_ a1.length c1_)), (18, (.int .i64 (a1.length : Int))), (19, (.int .i64 x239)), (38, v490), (40, (.slice A492 x382.Data.length c493))]) ∧ GLe G400 G1 ∧ St c G1 w ((.box b1 26 (kTRule.at_ a0)) :: (.row kTOpt g225 A226 c227 60 x224) :: (.row kTOpt g230 A231 c232 60 x229) :: (.row kTOpt g235 A236 c237 60 x234) :: (.box b388 60 (kTOpt.at_ x382)) :: (.box b407 130 (kTrules_kind.at_ r398.1)) :: σ) ∧ kFV.V G1 v490 r398.1.Not ∧ SlR kB G1 A492 c493 x382.Data) ?_ ?_
     ·rintro a w ⟨T0, G489, v490, A492, c493, rfl, hG487, H488, hv491, hs494⟩
      refine any_alls [4] ⟨any_ops (m' := 31) fun Q' hN => ?_, trivial⟩
      refine wl_call (vs := [(.slice A492 x382.Data.length c493)]) en40 rfl (opts_Number_ok hc hs494 H488 hr457) ?_
      rintro v552 w551 ⟨G548, hG549, rfl, H550⟩
      refine wl_nil (hN _ _ ?_)
      exact hM500 _ _ ⟨_, _, v490, frame_eq _ ⟨rfl, rfl, rfl, rfl, rfl, rfl, rfl, rfl, rfl, rfl, rfl, rfl, rfl, trivial⟩, (hG487.trans hG549), H550, (hv491.mono hG549)⟩
     intro hM486
     refine any_rn (i := 0) (m' := 1) rfl (rn_field fo130_1 rfl) hPF hns ?_
     refine any_rn (i := 2) (m' := 5) rfl (rn_field fo60_1 rfl) hPF hns ?_
     refine any_alls [1, 3] ⟨?_, ?_, trivial⟩
     ·refine any_ops (m' := 7) fun Q' hN => ?_
      refine wl_load H448 (i := 0) rfl lTrules_kind_Not ty128 rfl ?_
      intro v553 hv554
      refine wl_nil (hN _ _ ?_)
      refine any_alls [3] ⟨any_ops (m' := 15) fun Q' hN => ?_, trivial⟩
      refine wl_load H448 (i := 1) rfl lTOpt_Data ty30 rfl ?_
      intro v555 hv556
      obtain ⟨A557, c558, rfl, hs559⟩ := slice_V hv556
      refine wl_nil (hN _ _ ?_)
      exact hM486 _ _ ⟨_, _, v553, A557, c558, frame_eq _ ⟨rfl, rfl, rfl, rfl, rfl, rfl, rfl, rfl, rfl, rfl, rfl, rfl, rfl, trivial⟩, GLe.refl _, (St.pk [5, 2, 3, 4, 1, 0] 6 H448 rfl (by decide)), hv554, hs559⟩
     ·refine any_ops (m' := 13) fun Q' hN => ?_
      refine wl_load H448 (i := 1) rfl lTOpt_Data ty30 rfl ?_
      intro v560 hv561
      obtain ⟨A562, c563, rfl, hs564⟩ := slice_V hv561
      refine wl_nil (hN _ _ ?_)
      refine any_alls [1, 4] ⟨?_, ?_, trivial⟩
      ·refine any_ops (m' := 15) fun Q' hN => ?_
       refine wl_load H448 (i := 0) rfl lTrules_kind_Not ty128 rfl ?_
       intro v565 hv566
       refine wl_nil (hN _ _ ?_)
       exact hM486 _ _ ⟨_, _, v565, A562, c563, frame_eq _ ⟨rfl, rfl, rfl, rfl, rfl, rfl, rfl, rfl, rfl, rfl, rfl, rfl, rfl, trivial⟩, GLe.refl _, (St.pk [5, 2, 3, 4, 1, 0] 6 H448 rfl (by decide)), hv566, hs564⟩
      ·refine any_ops (m' := 29) fun Q' hN => ?_
       refine wl_call (vs := [(.slice A562 x382.Data.length c563)]) en40 rfl (opts_Number_ok hc hs564 H448 hr457) ?_
       rintro v571 w570 ⟨G567, hG568, rfl, H569⟩
       refine wl_nil (hN _ _ ?_)
       refine any_alls [1] ⟨any_ops (m' := 31) fun Q' hN => ?_, trivial⟩
       refine wl_load H569 (i := 0) rfl lTrules_kind_Not ty128 rfl ?_
       intro v572 hv573
       refine wl_nil (hN _ _ ?_)
       exact hM500 _ _ ⟨_, _, v572, frame_eq _ ⟨rfl, rfl, rfl, rfl, rfl, rfl, rfl, rfl, rfl, rfl, rfl, rfl, rfl, trivial⟩, hG568, (St.pk [5, 2, 3, 4, 1, 0] 6 H569 rfl (by decide)), hv573⟩
  ·replace hF := ifF hF hb244
   refine wc_false (vb hb244) ?_
   refine wp_exit ?_
   iterate 2 refine then_e ?_
   replace hF := exitS hF hy5
   refine blk_e ?_
   refine then_n ?_
   refine wp_seq (join (fun a w => ∃ (T0 : Fr) (G1 : Ghost) (x617 : (List TOpt)) (x621 : (List TOpt)) (x625 : (List TOpt)) (A618 : Option Addr) (c619 : Nat) (A622 : Option Addr) (c623 : Nat) (A626 : Option Addr) (c627 : Nat), a = mk 92 (upds T0 [(1, (.slice A1_ a1.length c1_)), (2, (.int .i64 a2)), (8, (.slice A618 x617.length c619)), (9, (.slice A622 x621.length c623)), (10, (.slice A626 x625.length c627))]) ∧ GLe G243 G1 ∧ St c G1 w (σ) ∧ SlR kTOpt G1 A618 c619 x617 ∧ SlR kTOpt G1 A622 c623 x621 ∧ SlR kTOpt G1 A626 c627 x625 ∧ rules_Answer_j3 a1 a2 x617 x621 x625 = some r) ?_ ?_)
   ·rintro a w ⟨T0, G631, x617, x621, x625, A618, c619, A622, c623, A626, c627, rfl, hG629, H630, hs620, hs624, hs628, hF⟩
    refine wp_seq (join (fun a w => ∃ (T0 : Fr) (G1 : Ghost) (x634 : (List TOpt)) (x638 : (List TOpt)) (A635 : Option Addr) (c636 : Nat) (A639 : Option Addr) (c640 : Nat), a = mk 92 (upds T0 [(1, (.slice A1_ a1.length c1_)), (8, (.slice A635 x634.length c636)), (10, (.slice A639 x638.length c640))]) ∧ GLe G631 G1 ∧ St c G1 w (σ) ∧ SlR kTOpt G1 A635 c636 x634 ∧ SlR kTOpt G1 A639 c640 x638 ∧ rules_Answer_j4 a1 x634 x638 = some r) ?_ ?_)
    ·rintro a w ⟨T0, G644, x634, x638, A635, c636, A639, c640, rfl, hG642, H643, hs637, hs641, hF⟩
     refine wp_seq ?_
     refine wp_block ?_
     refine wp_seq (wc_region ?_)
     refine wl_rn (rn_pure (.slice A635 x634.length c636) rfl) ?_
     refine wl_rn (rn_len sl27 rfl) ?_
     iterate 2 refine wl_rn (rn_pure (.bool (decide ((x634.length : Int) > 0))) rfl) ?_
     refine wl_nil (then_n ?_)
     rcases bcases (decide ((x634.length : Int) > 0)) with hb645 | hb645
     ·replace hF := ifT hF hb645
      refine wc_true (vb hb645) ?_
      refine wp_seq (wc_region ?_)
      refine wl_rn (rn_pure (.slice A635 x634.length c636) rfl) ?_
      refine wl_rn (rn_pure (.int .u8 4) rfl) ?_
      refine wl_rn (rn_pure (.slice A635 x634.length c636) rfl) ?_
      refine wl_nil (then_n ?_)
      refine wp_ret ?_
      refine blk_r ?_
      refine then_r ?_
      have hF := Option.some.inj hF
      subst hF
      exact ret_mk rfl (RV.tmp rfl (RV.tmp rfl RV.nil)) ⟨_, A635, c636, ((hG240.trans hG629).trans hG642), rfl, H643, hs637⟩
     ·replace hF := ifF hF hb645
      refine wc_false (vb hb645) ?_
      refine wp_seq (wc_region ?_)
      refine wl_rn (rn_pure (.slice A639 x638.length c640) rfl) ?_
      refine wl_rn (rn_len sl27 rfl) ?_
      iterate 2 refine wl_rn (rn_pure (.bool (decide ((x638.length : Int) > 0))) rfl) ?_
      refine wl_nil (then_n ?_)
      rcases bcases (decide ((x638.length : Int) > 0)) with hb646 | hb646
      ·replace hF := ifT hF hb646
       refine wc_true (vb hb646) ?_
       refine wp_seq (wc_region ?_)
       refine wl_rn (rn_pure (.slice A639 x638.length c640) rfl) ?_
       refine wl_rn (rn_pure (.int .u8 3) rfl) ?_
       refine wl_rn (rn_pure (.slice A639 x638.length c640) rfl) ?_
       refine wl_nil (then_n ?_)
       refine wp_ret ?_
       refine blk_r ?_
       refine then_r ?_
       have hF := Option.some.inj hF
       subst hF
       exact ret_mk rfl (RV.tmp rfl (RV.tmp rfl RV.nil)) ⟨_, A639, c640, ((hG240.trans hG629).trans hG642), rfl, H643, hs641⟩
      ·replace hF := ifF hF hb646
       refine wc_false (vb hb646) ?_
       refine wp_skip ?_
       refine blk_n ?_
       refine then_n ?_
       refine wp_seq (wc_region ?_)
       refine wl_rn (rn_pure (.slice A1_ a1.length c1_) rfl) ?_
       refine wl_rn (rn_pure (.int .u8 2) rfl) ?_
       refine wl_rn (rn_pure (.slice A1_ a1.length c1_) rfl) ?_
       refine wl_nil (then_n ?_)
       refine wp_ret ?_
       have hF := Option.some.inj hF
       subst hF
       exact ret_mk rfl (RV.tmp rfl (RV.tmp rfl RV.nil)) ⟨_, A1_, c1_, ((hG240.trans hG629).trans hG642), rfl, H643, (h1_.mono ((hG240.trans hG629).trans hG642))⟩
    ·refine wp_seq (wc_region ?_)
     refine wl_rn (rn_pure (.int .i64 a2) rfl) ?_
     refine wl_rn (rn_pure (.bool (decide (a2 ≥ 3))) rfl) ?_
     refine wl_nil (then_n ?_)
     rcases bcases (decide (a2 ≥ 3)) with hb647 | hb647
     ·replace hF := ifT hF hb647
      refine wc_true (vb hb647) ?_
      refine wp_seq (wc_region ?_)
      refine wl_rn (rn_pure (.slice none 0 0) rfl) ?_
      refine wl_nil (then_n (wp_seq (wc_region ?_)))
      refine wl_rn (rn_pure (.slice A618 x617.length c619) rfl) ?_
      refine wl_rn (rn_len sl27 rfl) ?_
      refine wl_rn (rn_pure (.bool ((x617.length : Int) == 0)) rfl) ?_
      refine wl_nil (then_n ?_)
      rcases bcases ((x617.length : Int) == 0) with hb648 | hb648
      ·replace hF := ifT hF hb648
       refine wc_true (vb hb648) ?_
       refine wc_region ?_
       iterate 2 refine wl_rn (rn_pure (.slice A622 x621.length c623) rfl) ?_
       refine wl_nil (then_n ?_)
       exact ⟨_, _, x621, ([] : (List TOpt)), A622, c623, none, 0, frame_eq _ ⟨rfl, rfl, rfl, trivial⟩, GLe.refl _, H630, hs624, (SlR.nil _ _), hF⟩
      ·replace hF := ifF hF hb648
       refine wc_false (vb hb648) ?_
       refine wp_skip ?_
       refine then_n ?_
       exact ⟨_, _, x617, ([] : (List TOpt)), A618, c619, none, 0, frame_eq _ ⟨rfl, rfl, rfl, trivial⟩, GLe.refl _, H630, hs620, (SlR.nil _ _), hF⟩
     ·replace hF := ifF hF hb647
      refine wc_false (vb hb647) ?_
      refine wp_skip ?_
      refine then_n ?_
      exact ⟨_, _, x617, x625, A618, c619, A626, c627, frame_eq _ ⟨rfl, rfl, rfl, trivial⟩, GLe.refl _, H630, hs620, hs628, hF⟩
   ·refine wp_seq (wc_region ?_)
    refine wl_rn (rn_pure (.slice A1_ a1.length c1_) rfl) ?_
    obtain ⟨r649, hr650, hF⟩ := bindS hF
    refine wl_call (vs := [(.slice A1_ a1.length c1_)]) en88 rfl (rules_Address_ok hc (h1_.mono hG240) H241 hr650) ?_
    rintro v655 w654 ⟨G651, hG652, rfl, H653⟩
    refine wl_rn (rn_pure (.tuple #[(.int .u32 r649.1), (.bool r649.2)]) rfl) ?_
    refine wl_rn (rn_pure (.int .u32 r649.1) rfl) ?_
    refine wl_rn (rn_pure (.bool r649.2) rfl) ?_
    refine wl_rn (rn_pure (.int .u32 r649.1) rfl) ?_
    refine wl_rn (rn_pure (.bool r649.2) rfl) ?_
    refine wl_nil (then_n ?_)
    refine wp_seq (join (fun a w => ∃ (T0 : Fr) (G1 : Ghost) (x657 : (List TOpt)) (x661 : (List TOpt)) (x665 : (List TOpt)) (x670 : Bool) (A658 : Option Addr) (c659 : Nat) (A662 : Option Addr) (c663 : Nat) (g666 : Option Nat) (A667 : Option Addr) (c668 : Nat), a = mk 92 (upds T0 [(1, (.slice A1_ a1.length c1_)), (2, (.int .i64 a2)), (3, (pt b1)), (8, (.slice A658 x657.length c659)), (9, (.slice A662 x661.length c663)), (10, (.slice A667 x665.length c668)), (68, (.bool x670))]) ∧ GLe G651 G1 ∧ St c G1 w ((.row kTOpt g666 A667 c668 60 x665) :: (.box b1 26 (kTRule.at_ a0)) :: σ) ∧ SlR kTOpt G1 A658 c659 x657 ∧ SlR kTOpt G1 A662 c663 x661 ∧ rules_Answer_j5 a0 a1 a2 x657 x661 x665 x670 = some r) ?_ ?_)
    ·rintro a w ⟨T0, G673, x657, x661, x665, x670, A658, c659, A662, c663, g666, A667, c668, rfl, hG671, H672, hs660, hs664, hF⟩
     rcases bcases x670 with hb674 | hb674
     ·replace hF := ifT hF hb674
      refine wc_true (vb hb674) ?_
      refine wc_region ?_
      refine wl_rn (rn_pure (.slice A667 x665.length c668) rfl) ?_
      refine wl_rn (rn_field fo26_3 rfl) ?_
      refine wl_loadd H672 (i := 1) rfl lTRule_Addr (dInt .u32) ty24 rfl ?_
      obtain ⟨r675, hr676, hF⟩ := bindS hF
      refine wl_call (vs := [(.int .u8 3), (.int .i64 4), (.int .u32 a0.Addr)]) en61 rfl (rules_number_ok hc H672 hr676) ?_
      rintro v681 w680 ⟨G677, v682, hG678, rfl, H679, hv683⟩
      refine wl_lit (K := kTOpt) (vs := [v682]) (xs := ([r675] : (List TOpt))) H679 sl27 el60 rfl ⟨hv683, trivial⟩ rfl (by decide) ?_
      intro g684 w686 H685
      obtain ⟨r688, hr689, hF⟩ := bindS hF
      refine wl_append H685 sl27 el60 (i := 1) rfl rfl rfl ((H685.okAt (i := 0) rfl).src) hr689 ?_
      intro g690 A691 c692 w693 H694
      refine wl_rn (rn_pure (.slice A691 r688.length c692) rfl) ?_
      refine wl_nil ?_
      obtain ⟨G695, hG696, H697, hs698⟩ := H694.stay (i := 1) rfl (H694.capA (i := 1) rfl)
      refine then_n ?_
      exact ⟨_, _, x657, x661, r688, A658, c659, A662, c663, A691, c692, frame_eq _ ⟨rfl, rfl, rfl, rfl, rfl, trivial⟩, (((hG652.trans hG671).trans hG678).trans hG696), (St.pk [] 2 H697 rfl (by decide)), (hs660.mono (hG678.trans hG696)), (hs664.mono (hG678.trans hG696)), hs698, hF⟩
     ·replace hF := ifF hF hb674
      refine wc_false (vb hb674) ?_
      refine wp_skip ?_
      obtain ⟨G699, hG700, H701, hs702⟩ := H672.stay (i := 0) rfl (H672.capA (i := 0) rfl)
      refine then_n ?_
      exact ⟨_, _, x657, x661, x665, A658, c659, A662, c663, A667, c668, frame_eq _ ⟨rfl, rfl, rfl, rfl, rfl, trivial⟩, ((hG652.trans hG671).trans hG700), (St.pk [] 1 H701 rfl (by decide)), (hs660.mono hG700), (hs664.mono hG700), hs702, hF⟩
    ·refine wc_region ?_
     refine wl_rn (rn_field fo26_0 rfl) ?_
     refine wl_loadd H653 (i := 3) rfl lTRule_Ip dBool ty4 rfl ?_
     refine wl_rn (rn_pure (.bool a0.Ip) rfl) ?_
     rcases bcases a0.Ip with hb703 | hb703
     ·replace hF := ifT hF hb703
      refine wl_yes rfl rfl rfl (vb hb703) ?_
      refine wl_rn (rn_pure (.bool r649.2) rfl) ?_
      refine wl_yes rfl rfl rfl (vb hb703) ?_
      refine wl_rn (rn_pure (.bool (!r649.2)) rfl) ?_
      refine wl_rn (rn_pickT (.bool (!r649.2)) (vb hb703) rfl) ?_
      refine wl_nil ?_
      obtain ⟨G704, hG705, H706, hs707⟩ := H653.stay (i := 0) rfl (H653.capA (i := 0) rfl)
      obtain ⟨G708, hG709, H710, hs711⟩ := H706.stay (i := 0) rfl (H706.capA (i := 0) rfl)
      refine then_n ?_
      exact ⟨_, _, x224, x229, x234, (!r649.2), A226, c227, A231, c232, g235, A236, c237, frame_eq _ ⟨rfl, rfl, rfl, rfl, rfl, rfl, rfl, trivial⟩, (hG705.trans hG709), H710, (hs707.mono hG709), hs711, hF⟩
     ·replace hF := ifF hF hb703
      iterate 2 refine wl_no rfl rfl rfl (vb hb703) ?_
      refine wl_rn (rn_pickF (.bool false) (vb hb703) rfl) ?_
      refine wl_nil ?_
      obtain ⟨G712, hG713, H714, hs715⟩ := H653.stay (i := 0) rfl (H653.capA (i := 0) rfl)
      obtain ⟨G716, hG717, H718, hs719⟩ := H714.stay (i := 0) rfl (H714.capA (i := 0) rfl)
      refine then_n ?_
      exact ⟨_, _, x224, x229, x234, false, A226, c227, A231, c232, g235, A236, c237, frame_eq _ ⟨rfl, rfl, rfl, rfl, rfl, rfl, rfl, trivial⟩, (hG713.trans hG717), H718, (hs715.mono hG717), hs719, hF⟩

theorem nego_work_reply_ok {c : World} (hc : Hc c) {G : Ghost} {w : World} {σ : List Ent} {b0 : Nat} {x2 : TNego} {x3 : (List TPkt)} {x8 : (List Int)} {x13 : TPkt} {g4 : Option Nat} {A5 : Option Addr} {c6 : Nat} {g9 : Option Nat} {A10 : Option Addr} {c11 : Nat} {a1 : Int} {a2 : (List Int)} {A2_ : Option Addr} {c2_ : Nat} (h2_ : SlR kB G A2_ c2_ a2) (H : St c G w ((.box b0 63 (kTnego_workV.at_ (Tnego_workV.mk x2 (.slice A5 x3.length c6) (.slice A10 x8.length c11) x13))) :: (.row kTPkt g4 A5 c6 32 x3) :: (.row kI g9 A10 c11 3 x8) :: σ)) {r : (TPkt × TNego × (List TPkt) × (List Int) × TPkt)} (hF : nego_work_reply x2 x3 x8 x13 a1 a2 = some r) :
  Calls Tryd.prog 76 ([(pt b0), (.int .u8 a1), (.slice A2_ a2.length c2_)] : List Value).toArray w (Ends fun v w' => ∃ (G' : Ghost) (v1' : Value) (g2' : Option Nat) (A3' : Option Addr) (c4' : Nat) (g5' : Option Nat) (A6' : Option Addr) (c7' : Nat), GLe G G' ∧ tup [v1'] = v ∧ St c G' w' ((.box b0 63 (kTnego_workV.at_ (Tnego_workV.mk r.2.1 (.slice A3' r.2.2.1.length c4') (.slice A6' r.2.2.2.1.length c7') r.2.2.2.2))) :: (.row kTPkt g2' A3' c4' 32 r.2.2.1) :: (.row kI g5' A6' c7' 3 r.2.2.2.1) :: σ) ∧ kTPkt.V G' v1' r.1) := by
 unfold nego_work_reply at hF
 refine calls_mk Tryd.func76 rfl rfl rfl ?_
 refine wp_seq (wc_region ?_)
 refine wl_alloc H zr32 ?_
 intro b14 w17 H15
 refine wl_nil (then_n (wp_seq (wc_region ?_)))
 refine wl_rn (rn_pure (.int .u8 a1) rfl) ?_
 refine wl_rn (rn_pure (pt b0) rfl) ?_
 refine wl_rn (rn_nilCheck rfl) ?_
 refine wl_rn (rn_field fo63_3 rfl) ?_
 refine wl_rn (rn_field fo32_1 rfl) ?_
 refine wl_loadd H15 (i := 1) rfl (Lens.then lTnego_workV_P lTPkt_Id) (dInt .u8) ty5 rfl ?_
 refine wl_rn (rn_pure (.slice A2_ a2.length c2_) rfl) ?_
 refine wl_rnE (rn_build (G := G) zr32 rfl bs32 rfl (Parts.cons fo32_0 lTPkt_Code ((dInt .u8).toV _ _) (Parts.cons fo32_1 lTPkt_Id ((dInt .u8).toV _ _) (Parts.cons fo32_2 lTPkt_Data (slice_toV h2_) (Parts.nil _))))) ?_
 intro v18 hv19
 refine wl_store (z := (TPkt.mk a1 x13.Id a2)) H15 (i := 0) rfl (Lens.id kTPkt) ty32 rfl rfl hv19 ?_
 intro w21 H20
 refine wl_nil (then_n ?_)
 refine wp_ret ?_
 obtain ⟨v22, hv23, hl24⟩ := H20.loadv (i := 0) rfl ty32
 have hF := Option.some.inj hF
 subst hF
 exact ret_mk rfl (RV.cell rfl hl24 RV.nil) ⟨_, v22, g4, A5, c6, g9, A10, c11, GLe.refl _, rfl, (St.pk [1, 2, 3] 4 H20 rfl (by decide)), hv23⟩

theorem nego_answers_ok {c : World} (hc : Hc c) {G : Ghost} {w : World} {σ : List Ent} {a0 : (List Int)} {A0_ : Option Addr} {c0_ : Nat} (h0_ : SlR kI G A0_ c0_ a0) (H : St c G w (σ)) {r : Bool} (hF : nego_answers a0 = some r) :
  Calls Tryd.prog 77 ([(.slice A0_ a0.length c0_)] : List Value).toArray w (Ends fun v w' => ∃ (G' : Ghost), GLe G G' ∧ tup [(.bool r)] = v ∧ St c G' w' (σ)) := by
 unfold nego_answers at hF
 refine calls_mk Tryd.func77 rfl rfl rfl ?_
 refine wp_seq (wc_region ?_)
 refine wl_rn (rn_pure (.bool false) rfl) ?_
 refine wl_nil (then_n (wp_seq (wc_region ?_)))
 refine wl_rn (rn_pure (.slice A0_ a0.length c0_) rfl) ?_
 obtain ⟨r1, hr2, hF⟩ := bindS hF
 refine wl_call (vs := [(.slice A0_ a0.length c0_), (.int .i64 8)]) en48 rfl (slices_Contains_int_ok hc h0_ H hr2) ?_
 rintro v7 w6 ⟨G3, hG4, rfl, H5⟩
 refine wl_rn (rn_pure (.bool r1) rfl) ?_
 rcases bcases r1 with hb8 | hb8
 ·replace hF := ifT hF hb8
  iterate 2 refine wl_no rfl rfl rfl (vb hb8) ?_
  refine wl_rn (rn_pickT (.bool true) (vb hb8) rfl) ?_
  refine wl_rn (rn_pure (.bool true) rfl) ?_
  refine wl_nil (then_n ?_)
  refine wp_ret ?_
  have hF := Option.some.inj hF
  subst hF
  exact ret_mk rfl (RV.tmp rfl RV.nil) ⟨_, hG4, rfl, H5⟩
 ·replace hF := ifF hF hb8
  refine wl_yes rfl rfl rfl (vb hb8) ?_
  refine wl_rn (rn_pure (.slice A0_ a0.length c0_) rfl) ?_
  refine wl_yes rfl rfl rfl (vb hb8) ?_
  obtain ⟨r9, hr10, hF⟩ := bindS hF
  refine wl_call (vs := [(.slice A0_ a0.length c0_), (.int .i64 9)]) en48 rfl (slices_Contains_int_ok hc (h0_.mono hG4) H5 hr10) ?_
  rintro v15 w14 ⟨G11, hG12, rfl, H13⟩
  refine wl_rn (rn_pickF (.bool r9) (vb hb8) rfl) ?_
  refine wl_rn (rn_pure (.bool r9) rfl) ?_
  refine wl_nil (then_n ?_)
  refine wp_ret ?_
  have hF := Option.some.inj hF
  subst hF
  exact ret_mk rfl (RV.tmp rfl RV.nil) ⟨_, (hG4.trans hG12), rfl, H13⟩

theorem nego_work_request_ok {c : World} (hc : Hc c) {G : Ghost} {w : World} {σ : List Ent} {b0 : Nat} {x2 : TNego} {x3 : (List TPkt)} {x8 : (List Int)} {x13 : TPkt} {g4 : Option Nat} {A5 : Option Addr} {c6 : Nat} {g9 : Option Nat} {A10 : Option Addr} {c11 : Nat}  (H : St c G w ((.box b0 63 (kTnego_workV.at_ (Tnego_workV.mk x2 (.slice A5 x3.length c6) (.slice A10 x8.length c11) x13))) :: (.row kTPkt g4 A5 c6 32 x3) :: (.row kI g9 A10 c11 3 x8) :: σ)) {r : (TNego × (List TPkt) × (List Int) × TPkt)} (hF : nego_work_request x2 x3 x8 x13 = some r) :
  Calls Tryd.prog 52 ([(pt b0)] : List Value).toArray w (Ends fun v w' => ∃ (G' : Ghost) (g1' : Option Nat) (A2' : Option Addr) (c3' : Nat) (g4' : Option Nat) (A5' : Option Addr) (c6' : Nat), GLe G G' ∧ tup [] = v ∧ St c G' w' ((.box b0 63 (kTnego_workV.at_ (Tnego_workV.mk r.1 (.slice A2' r.2.1.length c3') (.slice A5' r.2.2.1.length c6') r.2.2.2))) :: (.row kTPkt g1' A2' c3' 32 r.2.1) :: (.row kI g4' A5' c6' 3 r.2.2.1) :: σ)) := by
 unfold nego_work_request at hF
 refine calls_mk Tryd.func52 rfl rfl rfl ?_
 refine wp_seq (wc_region ?_)
 refine wl_rn (rn_pure (pt b0) rfl) ?_
 refine wl_rn (rn_nilCheck rfl) ?_
 refine wl_rn (rn_field fo63_3 rfl) ?_
 refine wl_rn (rn_field fo32_2 rfl) ?_
 refine wl_load H (i := 0) rfl (Lens.then lTnego_workV_P lTPkt_Data) ty30 rfl ?_
 intro v14 hv15
 obtain ⟨A16, c17, rfl, hs18⟩ := slice_V hv15
 obtain ⟨r19, hr20, hF⟩ := bindS hF
 refine wl_call (vs := [(.slice A16 x13.Data.length c17)]) en74 rfl (opts_Read_ok hc hs18 H hr20) ?_
 rintro v25 w24 ⟨G21, A26, c27, hG22, rfl, H23, hs28⟩
 refine wl_rn (rn_pure (.tuple #[(.slice A26 r19.1.length c27), (.int .i64 r19.2)]) rfl) ?_
 refine wl_rn (rn_pure (.slice A26 r19.1.length c27) rfl) ?_
 refine wl_rn (rn_pure (.int .i64 r19.2) rfl) ?_
 refine wl_rn (rn_pure (.slice A26 r19.1.length c27) rfl) ?_
 refine wl_rn (rn_pure (.int .i64 r19.2) rfl) ?_
 refine wl_nil (then_n ?_)
 refine wp_seq ?_
 refine wp_seq (wc_region ?_)
 refine wl_rn (rn_pure (.int .i64 r19.2) rfl) ?_
 refine wl_rn (rn_pure (.bool (r19.2 != 0)) rfl) ?_
 refine wl_nil (then_n ?_)
 rcases bcases (r19.2 != 0) with hb29 | hb29
 ·replace hF := ifT hF hb29
  refine wc_true (vb hb29) ?_
  refine wp_ret ?_
  refine then_r ?_
  have hF := Option.some.inj hF
  subst hF
  exact ret_mk rfl RV.nil ⟨_, g4, A5, c6, g9, A10, c11, hG22, rfl, H23⟩
 ·replace hF := ifF hF hb29
  refine wc_false (vb hb29) ?_
  refine wp_skip ?_
  refine then_n ?_
  refine wp_seq (join (fun a w => ∃ (T0 : Fr) (G1 : Ghost) (x33 : TNego) (x34 : (List TPkt)) (x39 : (List Int)) (x44 : TPkt) (g35 : Option Nat) (A36 : Option Addr) (c37 : Nat) (g40 : Option Nat) (A41 : Option Addr) (c42 : Nat), a = mk 91 (upds T0 [(0, (pt b0)), (2, (.slice A26 r19.1.length c27))]) ∧ GLe G21 G1 ∧ St c G1 w ((.box b0 63 (kTnego_workV.at_ (Tnego_workV.mk x33 (.slice A36 x34.length c37) (.slice A41 x39.length c42) x44))) :: (.row kTPkt g35 A36 c37 32 x34) :: (.row kI g40 A41 c42 3 x39) :: σ) ∧ nego_work_request_j1 r19 x33 x34 x39 x44 = some r) ?_ ?_)
  ·rintro a w ⟨T0, G47, x33, x34, x39, x44, g35, A36, c37, g40, A41, c42, rfl, hG45, H46, hF⟩
   refine wp_seq ?_
   refine wc_anyS (f := 17) H46 mixed ?_
   intro w60 H61
   refine any_pf (by repeat (first | exact PF.base | apply PF.then_ | apply PF.blk)) ?_
   intro hPF hns
   obtain ⟨r64, hr65, hF⟩ := bindS hF
   refine any_memo (fuel := 6) (m := 2047) (fun a w => ∃ (T0 : Fr) (G1 : Ghost) (v80 : Value) (A82 : Option Addr) (c83 : Nat), a = mk 91 (upds T0 [(0, (pt b0)), (2, (.slice A26 r19.1.length c27)), (37, v80), (38, (.slice A82 r19.1.length c83)), (43, (.int .i64 x33.Naks))]) ∧ GLe G47 G1 ∧ St c G1 w ((.box b0 63 (kTnego_workV.at_ (Tnego_workV.mk x33 (.slice A36 x34.length c37) (.slice A41 x39.length c42) x44))) :: (.row kTPkt g35 A36 c37 32 x34) :: (.row kI g40 A41 c42 3 x39) :: σ) ∧ kTRule.V G1 v80 x33.R ∧ SlR kTOpt G1 A82 c83 r19.1) ?_ ?_
   ·rintro a w ⟨T0, G79, v80, A82, c83, rfl, hG77, H78, hv81, hs84⟩
    refine any_alls [11] ⟨any_ops (m' := 4095) fun Q' hN => ?_, trivial⟩
    refine wl_call (vs := [v80, (.slice A82 r19.1.length c83), (.int .i64 x33.Naks)]) en75 rfl (rules_Answer_ok hc hv81 hs84 H78 hr65) ?_
    rintro v97 w96 ⟨G93, A98, c99, hG94, rfl, H95, hs100⟩
    refine wl_nil (hN _ _ ?_)
    refine any_rn (i := 12) (m' := 8191) rfl (rn_pure (.tuple #[(.int .u8 r64.1), (.slice A98 r64.2.length c99)]) rfl) hPF hns ?_
    refine any_rn (i := 13) (m' := 16383) rfl (rn_pure (.int .u8 r64.1) rfl) hPF hns ?_
    refine any_rn (i := 14) (m' := 32767) rfl (rn_pure (.slice A98 r64.2.length c99) rfl) hPF hns ?_
    refine any_rn (i := 15) (m' := 65535) rfl (rn_pure (.int .u8 r64.1) rfl) hPF hns ?_
    refine any_rn (i := 16) (m' := 131071) rfl (rn_pure (.slice A98 r64.2.length c99) rfl) hPF hns ?_
    refine any_end ?_
    refine then_n ?_
    refine wp_seq (wc_region ?_)
    refine wl_rn (rn_pure (.slice A98 r64.2.length c99) rfl) ?_
    obtain ⟨r101, hr102, hF⟩ := bindS hF
    refine wl_call (vs := [(.slice A98 r64.2.length c99)]) en41 rfl (opts_Bytes_ok hc hs100 H95 hr102) ?_
    rintro v107 w106 ⟨G103, A108, c109, hG104, rfl, H105, hs110⟩
    refine wl_rn (rn_pure (.tuple #[(.slice A108 r101.1.length c109), (.int .i64 r101.2)]) rfl) ?_
    refine wl_rn (rn_pure (.slice A108 r101.1.length c109) rfl) ?_
    refine wl_rn (rn_pure (.int .i64 r101.2) rfl) ?_
    refine wl_rn (rn_pure (.slice A108 r101.1.length c109) rfl) ?_
    refine wl_rn (rn_pure (.int .i64 r101.2) rfl) ?_
    refine wl_nil (then_n (wp_seq (wc_region ?_)))
    refine wl_rn (rn_pure (.int .i64 7) rfl) ?_
    refine wl_nil (then_n ?_)
    refine wp_seq (join (fun a w => ∃ (T0 : Fr) (G1 : Ghost) (x112 : Int) (x113 : TNego) (x114 : (List TPkt)) (x119 : (List Int)) (x124 : TPkt) (g115 : Option Nat) (A116 : Option Addr) (c117 : Nat) (g120 : Option Nat) (A121 : Option Addr) (c122 : Nat), a = mk 91 (upds T0 [(0, (pt b0)), (2, (.slice A26 r19.1.length c27)), (4, (.int .u8 r64.1)), (6, (.slice A108 r101.1.length c109)), (8, (.int .i64 x112))]) ∧ GLe G103 G1 ∧ St c G1 w ((.box b0 63 (kTnego_workV.at_ (Tnego_workV.mk x113 (.slice A116 x114.length c117) (.slice A121 x119.length c122) x124))) :: (.row kTPkt g115 A116 c117 32 x114) :: (.row kI g120 A121 c122 3 x119) :: σ) ∧ nego_work_request_j2 r19 r64 r101 x112 x113 x114 x119 x124 = some r) ?_ ?_)
    ·rintro a w ⟨T0, G127, x112, x113, x114, x119, x124, g115, A116, c117, g120, A121, c122, rfl, hG125, H126, hF⟩
     refine wp_seq (wc_region ?_)
     refine wl_rn (rn_pure (pt b0) rfl) ?_
     refine wl_rn (rn_pure (.int .i64 x112) rfl) ?_
     refine wl_rn (rn_pure (pt b0) rfl) ?_
     refine wl_rn (rn_pure (.int .u8 r64.1) rfl) ?_
     refine wl_rn (rn_pure (.slice A108 r101.1.length c109) rfl) ?_
     obtain ⟨r128, hr129, hF⟩ := bindS hF
     refine wl_call (vs := [(pt b0), (.int .u8 r64.1), (.slice A108 r101.1.length c109)]) en76 rfl (nego_work_reply_ok hc (hs110.mono hG125) H126 hr129) ?_
     rintro v134 w133 ⟨G130, v135, g137, A138, c139, g140, A141, c142, hG131, rfl, H132, hv136⟩
     obtain ⟨r143, hr144, hF⟩ := bindS hF
     refine wl_call (vs := [(pt b0), (.int .i64 x112), v135]) en30 rfl (nego_work_event_ok hc hv136 H132 hr144) ?_
     rintro v149 w148 ⟨G145, A150, c151, g153, A154, c155, g156, A157, c158, hG146, rfl, H147, hs152⟩
     refine wl_rn (rn_pure (.slice A150 r143.1.length c151) rfl) ?_
     refine wl_nil (then_n ?_)
     refine wp_block ?_
     refine wp_seq (wc_region ?_)
     refine wl_rn (rn_pure (.slice A150 r143.1.length c151) rfl) ?_
     obtain ⟨r159, hr160, hF⟩ := bindS hF
     refine wl_call (vs := [(.slice A150 r143.1.length c151)]) en77 rfl (nego_answers_ok hc hs152 H147 hr160) ?_
     rintro v165 w164 ⟨G161, hG162, rfl, H163⟩
     iterate 2 refine wl_rn (rn_pure (.bool (!r159)) rfl) ?_
     refine wl_nil (then_n ?_)
     rcases bcases (!r159) with hb166 | hb166
     ·replace hF := ifT hF hb166
      refine wc_true (vb hb166) ?_
      refine wp_skip ?_
      refine blk_n ?_
      have hF := Option.some.inj hF
      subst hF
      exact end_mk rfl RV.nil ⟨_, g153, A154, c155, g156, A157, c158, ((((((((hG22.trans hG45).trans hG77).trans hG94).trans hG104).trans hG125).trans hG131).trans hG146).trans hG162), rfl, H163⟩
     ·replace hF := ifF hF hb166
      refine wc_false (vb hb166) ?_
      refine wp_seq (wc_region ?_)
      refine wl_rn (rn_pure (.int .u8 r64.1) rfl) ?_
      iterate 2 refine wl_rn (rn_pure (.bool (r64.1 == 2)) rfl) ?_
      refine wl_nil (then_n ?_)
      rcases bcases (r64.1 == 2) with hb167 | hb167
      ·replace hF := ifT hF hb167
       refine wc_true (vb hb167) ?_
       refine wc_region ?_
       iterate 2 refine wl_rn (rn_pure (pt b0) rfl) ?_
       refine wl_rn (rn_pure (.slice A26 r19.1.length c27) rfl) ?_
       refine wl_rn (rn_nilCheck rfl) ?_
       refine wl_rn (rn_field fo63_0 rfl) ?_
       refine wl_rn (rn_field fo29_3 rfl) ?_
       refine wl_store (z := 0) H163 (i := 0) rfl (Lens.then lTnego_workV_Nego lTNego_Naks) ty3 rfl rfl ((dInt .i64).toV _ _) ?_
       intro w169 H168
       refine wl_rn (rn_nilCheck rfl) ?_
       refine wl_rn (rn_field fo63_0 rfl) ?_
       refine wl_rn (rn_field fo29_4 rfl) ?_
       refine wl_store (z := r19.1) H168 (i := 0) rfl (Lens.then lTnego_workV_Nego lTNego_Peer) ty27 rfl rfl (slice_toV (hs28.mono (((((((hG45.trans hG77).trans hG94).trans hG104).trans hG125).trans hG131).trans hG146).trans hG162))) ?_
       intro w171 H170
       refine wl_nil (blk_n ?_)
       have hF := Option.some.inj hF
       subst hF
       exact end_mk rfl RV.nil ⟨_, g153, A154, c155, g156, A157, c158, ((((((((hG22.trans hG45).trans hG77).trans hG94).trans hG104).trans hG125).trans hG131).trans hG146).trans hG162), rfl, H170⟩
      ·replace hF := ifF hF hb167
       refine wc_false (vb hb167) ?_
       refine wp_seq (wc_region ?_)
       refine wl_rn (rn_pure (.int .u8 r64.1) rfl) ?_
       iterate 2 refine wl_rn (rn_pure (.bool (r64.1 == 3)) rfl) ?_
       refine wl_nil (then_n ?_)
       rcases bcases (r64.1 == 3) with hb172 | hb172
       ·replace hF := ifT hF hb172
        refine wc_true (vb hb172) ?_
        refine wc_region ?_
        iterate 2 refine wl_rn (rn_pure (pt b0) rfl) ?_
        refine wl_rn (rn_nilCheck rfl) ?_
        refine wl_rn (rn_field fo63_0 rfl) ?_
        refine wl_rn (rn_field fo29_3 rfl) ?_
        refine wl_loadd H163 (i := 0) rfl (Lens.then lTnego_workV_Nego lTNego_Naks) (dInt .i64) ty3 rfl ?_
        refine wl_rn (rn_pure (.int .i64 (IntKind.i64.wrap (r143.2.1.Naks + 1))) rfl) ?_
        refine wl_rn (rn_min rfl rfl) ?_
        refine wl_rn (rn_nilCheck rfl) ?_
        refine wl_rn (rn_field fo63_0 rfl) ?_
        refine wl_rn (rn_field fo29_3 rfl) ?_
        refine wl_store (z := (if 3 < (IntKind.i64.wrap (r143.2.1.Naks + 1)) then 3 else (IntKind.i64.wrap (r143.2.1.Naks + 1)))) H163 (i := 0) rfl (Lens.then lTnego_workV_Nego lTNego_Naks) ty3 rfl rfl ((dInt .i64).toV _ _) ?_
        intro w174 H173
        refine wl_nil (blk_n ?_)
        have hF := Option.some.inj hF
        subst hF
        exact end_mk rfl RV.nil ⟨_, g153, A154, c155, g156, A157, c158, ((((((((hG22.trans hG45).trans hG77).trans hG94).trans hG104).trans hG125).trans hG131).trans hG146).trans hG162), rfl, H173⟩
       ·replace hF := ifF hF hb172
        refine wc_false (vb hb172) ?_
        refine wp_skip ?_
        refine blk_n ?_
        have hF := Option.some.inj hF
        subst hF
        exact end_mk rfl RV.nil ⟨_, g153, A154, c155, g156, A157, c158, ((((((((hG22.trans hG45).trans hG77).trans hG94).trans hG104).trans hG125).trans hG131).trans hG146).trans hG162), rfl, H163⟩
    ·refine wp_seq (wc_region ?_)
     refine wl_rn (rn_pure (.int .u8 r64.1) rfl) ?_
     refine wl_rn (rn_pure (.bool (r64.1 == 2)) rfl) ?_
     refine wl_nil (then_n ?_)
     rcases bcases (r64.1 == 2) with hb175 | hb175
     ·replace hF := ifT hF hb175
      refine wc_true (vb hb175) ?_
      refine wc_region ?_
      refine wl_rn (rn_pure (.int .i64 6) rfl) ?_
      refine wl_nil (then_n ?_)
      exact ⟨_, _, 6, x33, x34, x39, x44, g35, A36, c37, g40, A41, c42, frame_eq _ ⟨rfl, rfl, rfl, rfl, rfl, trivial⟩, GLe.refl _, H105, hF⟩
     ·replace hF := ifF hF hb175
      refine wc_false (vb hb175) ?_
      refine wp_skip ?_
      refine then_n ?_
      exact ⟨_, _, 7, x33, x34, x39, x44, g35, A36, c37, g40, A41, c42, frame_eq _ ⟨rfl, rfl, rfl, rfl, rfl, trivial⟩, GLe.refl _, H105, hF⟩
   intro hM76
   refine any_rn (i := 0) (m' := 1) rfl (rn_pure (pt b0) rfl) hPF hns ?_
   refine any_rn (i := 1) (m' := 3) rfl (rn_nilCheck rfl) hPF hns ?_
   refine any_rn (i := 2) (m' := 7) rfl (rn_field fo63_0 rfl) hPF hns ?_
   refine any_rn (i := 3) (m' := 15) rfl (rn_field fo29_1 rfl) hPF hns ?_
   refine any_rn (i := 5) (m' := 47) rfl (rn_pure (.slice A26 r19.1.length c27) rfl) hPF hns ?_
   refine any_rn (i := 6) (m' := 111) rfl (rn_pure (pt b0) rfl) hPF hns ?_
   refine any_rn (i := 7) (m' := 239) rfl (rn_nilCheck rfl) hPF hns ?_
   refine any_rn (i := 8) (m' := 495) rfl (rn_field fo63_0 rfl) hPF hns ?_
   refine any_rn (i := 9) (m' := 1007) rfl (rn_field fo29_3 rfl) hPF hns ?_
   refine any_alls [4, 10] ⟨?_, ?_, trivial⟩
   ·refine any_ops (m' := 1023) fun Q' hN => ?_
    refine wl_load H61 (i := 0) rfl (Lens.then lTnego_workV_Nego lTNego_R) ty26 rfl ?_
    intro v176 hv177
    refine wl_nil (hN _ _ ?_)
    refine any_alls [10] ⟨any_ops (m' := 2047) fun Q' hN => ?_, trivial⟩
    refine wl_loadd H61 (i := 0) rfl (Lens.then lTnego_workV_Nego lTNego_Naks) (dInt .i64) ty3 rfl ?_
    refine wl_nil (hN _ _ ?_)
    exact hM76 _ _ ⟨_, _, v176, A26, c27, frame_eq _ ⟨rfl, rfl, rfl, rfl, rfl, trivial⟩, GLe.refl _, H61, hv177, (hs28.mono hG45)⟩
   ·refine any_ops (m' := 2031) fun Q' hN => ?_
    refine wl_loadd H61 (i := 0) rfl (Lens.then lTnego_workV_Nego lTNego_Naks) (dInt .i64) ty3 rfl ?_
    refine wl_nil (hN _ _ ?_)
    refine any_alls [4] ⟨any_ops (m' := 2047) fun Q' hN => ?_, trivial⟩
    refine wl_load H61 (i := 0) rfl (Lens.then lTnego_workV_Nego lTNego_R) ty26 rfl ?_
    intro v178 hv179
    refine wl_nil (hN _ _ ?_)
    exact hM76 _ _ ⟨_, _, v178, A26, c27, frame_eq _ ⟨rfl, rfl, rfl, rfl, rfl, trivial⟩, GLe.refl _, H61, hv179, (hs28.mono hG45)⟩
  ·refine wp_seq (wc_region ?_)
   refine wl_rn (rn_pure (pt b0) rfl) ?_
   refine wl_rn (rn_nilCheck rfl) ?_
   refine wl_rn (rn_field fo63_0 rfl) ?_
   refine wl_rn (rn_field fo29_0 rfl) ?_
   refine wl_rn (rn_field fo23_0 rfl) ?_
   refine wl_loadd H23 (i := 0) rfl (Lens.then (Lens.then lTnego_workV_Nego lTNego_A) lTAuto_State) (dInt .i64) ty3 rfl ?_
   refine wl_rn (rn_pure (.bool (x2.A.State == 3)) rfl) ?_
   refine wl_nil (then_n ?_)
   rcases bcases (x2.A.State == 3) with hb180 | hb180
   ·replace hF := ifT hF hb180
    refine wc_true (vb hb180) ?_
    refine wc_region ?_
    refine wl_rn (rn_pure (pt b0) rfl) ?_
    refine wl_rn (rn_nilCheck rfl) ?_
    refine wl_rn (rn_field fo63_0 rfl) ?_
    refine wl_rn (rn_field fo29_3 rfl) ?_
    refine wl_store (z := 0) H23 (i := 0) rfl (Lens.then lTnego_workV_Nego lTNego_Naks) ty3 rfl rfl ((dInt .i64).toV _ _) ?_
    intro w182 H181
    refine wl_nil (then_n ?_)
    exact ⟨_, _, (TNego.mk x2.A x2.R x2.Ours 0 x2.Peer), x3, x8, x13, g4, A5, c6, g9, A10, c11, frame_eq _ ⟨rfl, rfl, trivial⟩, GLe.refl _, H181, hF⟩
   ·replace hF := ifF hF hb180
    refine wc_false (vb hb180) ?_
    refine wp_skip ?_
    refine then_n ?_
    exact ⟨_, _, x2, x3, x8, x13, g4, A5, c6, g9, A10, c11, frame_eq _ ⟨rfl, rfl, trivial⟩, GLe.refl _, H23, hF⟩

theorem bytes_Equal_ok {c : World} (hc : Hc c) {G : Ghost} {w : World} {σ : List Ent} {a0 : (List Int)} {A0_ : Option Addr} {c0_ : Nat} {a1 : (List Int)} {A1_ : Option Addr} {c1_ : Nat} (h0_ : SlR kB G A0_ c0_ a0) (h1_ : SlR kB G A1_ c1_ a1) (H : St c G w (σ)) {r : Bool} (hF : bytes_Equal a0 a1 = some r) :
  Calls Tryd.prog 68 ([(.slice A0_ a0.length c0_), (.slice A1_ a1.length c1_)] : List Value).toArray w (Ends fun v w' => ∃ (G' : Ghost), GLe G G' ∧ tup [(.bool r)] = v ∧ St c G' w' (σ)) := by
 unfold bytes_Equal at hF
 refine calls_mk Tryd.func68 rfl rfl rfl ?_
 refine wp_seq (wc_region ?_)
 refine wl_rn (rn_pure (.bool false) rfl) ?_
 refine wl_nil (then_n (wp_seq (wc_region ?_)))
 refine wl_rn (rn_pure (.slice A0_ a0.length c0_) rfl) ?_
 refine wl_bstr H h0_ sl30 un5 un9 rfl ?_
 refine wl_rn (rn_pure (.slice A1_ a1.length c1_) rfl) ?_
 refine wl_bstr H h1_ sl30 un5 un9 rfl ?_
 iterate 2 refine wl_rn (rn_pure (.bool (streq (bstr a0) (bstr a1))) rfl) ?_
 refine wl_nil (then_n ?_)
 refine wp_ret ?_
 have hF := Option.some.inj hF
 subst hF
 exact ret_mk rfl (RV.tmp rfl RV.nil) ⟨_, GLe.refl _, rfl, H⟩

theorem nego_work_ack_ok {c : World} (hc : Hc c) {G : Ghost} {w : World} {σ : List Ent} {b0 : Nat} {x2 : TNego} {x3 : (List TPkt)} {x8 : (List Int)} {x13 : TPkt} {g4 : Option Nat} {A5 : Option Addr} {c6 : Nat} {g9 : Option Nat} {A10 : Option Addr} {c11 : Nat}  (H : St c G w ((.box b0 63 (kTnego_workV.at_ (Tnego_workV.mk x2 (.slice A5 x3.length c6) (.slice A10 x8.length c11) x13))) :: (.row kTPkt g4 A5 c6 32 x3) :: (.row kI g9 A10 c11 3 x8) :: σ)) {r : (TNego × (List TPkt) × (List Int) × TPkt)} (hF : nego_work_ack x2 x3 x8 x13 = some r) :
  Calls Tryd.prog 53 ([(pt b0)] : List Value).toArray w (Ends fun v w' => ∃ (G' : Ghost) (g1' : Option Nat) (A2' : Option Addr) (c3' : Nat) (g4' : Option Nat) (A5' : Option Addr) (c6' : Nat), GLe G G' ∧ tup [] = v ∧ St c G' w' ((.box b0 63 (kTnego_workV.at_ (Tnego_workV.mk r.1 (.slice A2' r.2.1.length c3') (.slice A5' r.2.2.1.length c6') r.2.2.2))) :: (.row kTPkt g1' A2' c3' 32 r.2.1) :: (.row kI g4' A5' c6' 3 r.2.2.1) :: σ)) := by
 unfold nego_work_ack at hF
 refine calls_mk Tryd.func53 rfl rfl rfl ?_
 refine wp_seq (wc_region ?_)
 refine wl_rn (rn_pure (pt b0) rfl) ?_
 refine wl_rn (rn_nilCheck rfl) ?_
 refine wl_rn (rn_field fo63_0 rfl) ?_
 refine wl_rn (rn_field fo29_2 rfl) ?_
 refine wl_load H (i := 0) rfl (Lens.then lTnego_workV_Nego lTNego_Ours) ty27 rfl ?_
 intro v14 hv15
 obtain ⟨A16, c17, rfl, hs18⟩ := slice_V hv15
 obtain ⟨r19, hr20, hF⟩ := bindS hF
 refine wl_call (vs := [(.slice A16 x2.Ours.length c17)]) en41 rfl (opts_Bytes_ok hc hs18 H hr20) ?_
 rintro v25 w24 ⟨G21, A26, c27, hG22, rfl, H23, hs28⟩
 refine wl_rn (rn_pure (.tuple #[(.slice A26 r19.1.length c27), (.int .i64 r19.2)]) rfl) ?_
 refine wl_rn (rn_pure (.slice A26 r19.1.length c27) rfl) ?_
 refine wl_rn (rn_pure (.int .i64 r19.2) rfl) ?_
 refine wl_rn (rn_pure (.slice A26 r19.1.length c27) rfl) ?_
 refine wl_rn (rn_pure (.int .i64 r19.2) rfl) ?_
 refine wl_nil (then_n ?_)
 refine wp_seq (join (fun a w => ∃ (T0 : Fr) (G1 : Ghost) (x42 : Bool) (x43 : TNego) (x44 : (List TPkt)) (x49 : (List Int)) (x54 : TPkt) (g45 : Option Nat) (A46 : Option Addr) (c47 : Nat) (g50 : Option Nat) (A51 : Option Addr) (c52 : Nat), a = mk 37 (upds T0 [(0, (pt b0)), (33, (.bool x42))]) ∧ GLe G21 G1 ∧ St c G1 w ((.box b0 63 (kTnego_workV.at_ (Tnego_workV.mk x43 (.slice A46 x44.length c47) (.slice A51 x49.length c52) x54))) :: (.row kTPkt g45 A46 c47 32 x44) :: (.row kI g50 A51 c52 3 x49) :: σ) ∧ nego_work_ack_j1 x42 x43 x44 x49 x54 = some r) ?_ ?_)
 ·rintro a w ⟨T0, G57, x42, x43, x44, x49, x54, g45, A46, c47, g50, A51, c52, rfl, hG55, H56, hF⟩
  rcases bcases x42 with hb58 | hb58
  ·replace hF := ifT hF hb58
   refine wc_true (vb hb58) ?_
   refine wc_region ?_
   refine wl_rn (rn_pure (pt b0) rfl) ?_
   refine wl_rnE (rn_build (G := G57) zr32 rfl bs32 rfl (Parts.nil _)) ?_
   intro v59 hv60
   obtain ⟨r61, hr62, hF⟩ := bindS hF
   refine wl_call (vs := [(pt b0), (.int .i64 8), v59]) en30 rfl (nego_work_event_ok hc hv60 H56 hr62) ?_
   rintro v67 w66 ⟨G63, A68, c69, g71, A72, c73, g74, A75, c76, hG64, rfl, H65, hs70⟩
   refine wl_nil ?_
   have hF := Option.some.inj hF
   subst hF
   exact end_mk rfl RV.nil ⟨_, g71, A72, c73, g74, A75, c76, ((hG22.trans hG55).trans hG64), rfl, H65⟩
  ·replace hF := ifF hF hb58
   refine wc_false (vb hb58) ?_
   refine wp_skip ?_
   have hF := Option.some.inj hF
   subst hF
   exact end_mk rfl RV.nil ⟨_, g45, A46, c47, g50, A51, c52, (hG22.trans hG55), rfl, H56⟩
 ·refine wc_anyS (f := 21) H23 mixed ?_
  intro w77 H78
  refine any_pf (by repeat (first | exact PF.base | apply PF.then_ | apply PF.blk)) ?_
  intro hPF hns
  rcases bcases (x13.Id == x2.A.Id) with hb79 | hb79
  ·replace hF := ifT hF hb79
   obtain ⟨r85, hr86, hF⟩ := bindS hF
   refine any_memo (fuel := 10) (m := 2047) (fun a w => ∃ (T0 : Fr) (G1 : Ghost), a = mk 37 (upds T0 [(0, (pt b0)), (2, (.slice A26 r19.1.length c27)), (17, (.int .u8 x13.Id)), (23, (.int .u8 x2.A.Id))]) ∧ GLe G21 G1 ∧ St c G1 w ((.box b0 63 (kTnego_workV.at_ (Tnego_workV.mk x2 (.slice A5 x3.length c6) (.slice A10 x8.length c11) x13))) :: (.row kTPkt g4 A5 c6 32 x3) :: (.row kI g9 A10 c11 3 x8) :: σ)) ?_ ?_
   ·rintro a w ⟨T0, G95, rfl, hG93, H94⟩
    refine any_rn (i := 11) (m' := 4095) rfl (rn_pure (.bool (x13.Id == x2.A.Id)) rfl) hPF hns ?_
    refine any_rn (i := 12) (m' := 8191) rfl (rn_pure (.bool (x13.Id == x2.A.Id)) rfl) hPF hns ?_
    refine any_rnG 25 true (i := 13) (m' := 16383) rfl (rn_pure (.slice A26 r19.1.length c27) rfl) (vb hb79) hPF hns ?_
    refine any_rnG 25 true (i := 14) (m' := 32767) rfl (rn_pure (pt b0) rfl) (vb hb79) hPF hns ?_
    refine any_rnG 25 true (i := 15) (m' := 65535) rfl (rn_nilCheck rfl) (vb hb79) hPF hns ?_
    refine any_rnG 25 true (i := 16) (m' := 131071) rfl (rn_field fo63_3 rfl) (vb hb79) hPF hns ?_
    refine any_rnG 25 true (i := 17) (m' := 262143) rfl (rn_field fo32_2 rfl) (vb hb79) hPF hns ?_
    refine any_alls [18] ⟨any_ops (m' := 524287) fun Q' hN => ?_, trivial⟩
    refine wl_yes rfl rfl rfl (vb hb79) ?_
    refine wl_load H94 (i := 0) rfl (Lens.then lTnego_workV_P lTPkt_Data) ty30 rfl ?_
    intro v106 hv107
    obtain ⟨A108, c109, rfl, hs110⟩ := slice_V hv107
    refine wl_nil (hN _ _ ?_)
    refine any_alls [19] ⟨any_ops (m' := 1048575) fun Q' hN => ?_, trivial⟩
    refine wl_yes rfl rfl rfl (vb hb79) ?_
    refine wl_call (vs := [(.slice A26 r19.1.length c27), (.slice A108 x13.Data.length c109)]) en68 rfl (bytes_Equal_ok hc (hs28.mono hG93) hs110 H94 hr86) ?_
    rintro v115 w114 ⟨G111, hG112, rfl, H113⟩
    refine wl_nil (hN _ _ ?_)
    refine any_rn (i := 20) (m' := 2097151) rfl (rn_pickT (.bool r85) (vb hb79) rfl) hPF hns ?_
    refine any_end ?_
    refine then_n ?_
    exact ⟨_, _, r85, x2, x3, x8, x13, g4, A5, c6, g9, A10, c11, frame_eq _ ⟨rfl, rfl, trivial⟩, (hG93.trans hG112), H113, hF⟩
   intro hM92
   refine any_rn (i := 0) (m' := 1) rfl (rn_pure (pt b0) rfl) hPF hns ?_
   refine any_rn (i := 1) (m' := 3) rfl (rn_nilCheck rfl) hPF hns ?_
   refine any_rn (i := 2) (m' := 7) rfl (rn_field fo63_3 rfl) hPF hns ?_
   refine any_rn (i := 3) (m' := 15) rfl (rn_field fo32_1 rfl) hPF hns ?_
   refine any_rn (i := 5) (m' := 47) rfl (rn_pure (pt b0) rfl) hPF hns ?_
   refine any_rn (i := 6) (m' := 111) rfl (rn_nilCheck rfl) hPF hns ?_
   refine any_rn (i := 7) (m' := 239) rfl (rn_field fo63_0 rfl) hPF hns ?_
   refine any_rn (i := 8) (m' := 495) rfl (rn_field fo29_0 rfl) hPF hns ?_
   refine any_rn (i := 9) (m' := 1007) rfl (rn_field fo23_3 rfl) hPF hns ?_
   refine any_alls [4, 10] ⟨?_, ?_, trivial⟩
   ·refine any_ops (m' := 1023) fun Q' hN => ?_
    refine wl_loadd H78 (i := 0) rfl (Lens.then lTnego_workV_P lTPkt_Id) (dInt .u8) ty5 rfl ?_
    refine wl_nil (hN _ _ ?_)
    refine any_alls [10] ⟨any_ops (m' := 2047) fun Q' hN => ?_, trivial⟩
    refine wl_loadd H78 (i := 0) rfl (Lens.then (Lens.then lTnego_workV_Nego lTNego_A) lTAuto_Id) (dInt .u8) ty5 rfl ?_
    refine wl_nil (hN _ _ ?_)
    exact hM92 _ _ ⟨_, _, frame_eq _ ⟨rfl, rfl, rfl, rfl, trivial⟩, GLe.refl _, H78⟩
   ·refine any_ops (m' := 2031) fun Q' hN => ?_
    refine wl_loadd H78 (i := 0) rfl (Lens.then (Lens.then lTnego_workV_Nego lTNego_A) lTAuto_Id) (dInt .u8) ty5 rfl ?_
    refine wl_nil (hN _ _ ?_)
    refine any_alls [4] ⟨any_ops (m' := 2047) fun Q' hN => ?_, trivial⟩
    refine wl_loadd H78 (i := 0) rfl (Lens.then lTnego_workV_P lTPkt_Id) (dInt .u8) ty5 rfl ?_
    refine wl_nil (hN _ _ ?_)
    exact hM92 _ _ ⟨_, _, frame_eq _ ⟨rfl, rfl, rfl, rfl, trivial⟩, GLe.refl _, H78⟩
  ·replace hF := ifF hF hb79
   refine any_memo (fuel := 10) (m := 2047) (fun a w => ∃ (T0 : Fr) (G1 : Ghost), a = mk 37 (upds T0 [(0, (pt b0)), (2, (.slice A26 r19.1.length c27)), (17, (.int .u8 x13.Id)), (23, (.int .u8 x2.A.Id))]) ∧ GLe G21 G1 ∧ St c G1 w ((.box b0 63 (kTnego_workV.at_ (Tnego_workV.mk x2 (.slice A5 x3.length c6) (.slice A10 x8.length c11) x13))) :: (.row kTPkt g4 A5 c6 32 x3) :: (.row kI g9 A10 c11 3 x8) :: σ)) ?_ ?_
   ·rintro a w ⟨T0, G119, rfl, hG117, H118⟩
    refine any_rn (i := 11) (m' := 4095) rfl (rn_pure (.bool (x13.Id == x2.A.Id)) rfl) hPF hns ?_
    refine any_rn (i := 12) (m' := 8191) rfl (rn_pure (.bool (x13.Id == x2.A.Id)) rfl) hPF hns ?_
    refine any_offG (i := 13) (m' := 16383) 25 true rfl (vb hb79) hPF hns ?_
    refine any_offG (i := 14) (m' := 32767) 25 true rfl (vb hb79) hPF hns ?_
    refine any_offG (i := 15) (m' := 65535) 25 true rfl (vb hb79) hPF hns ?_
    refine any_offG (i := 16) (m' := 131071) 25 true rfl (vb hb79) hPF hns ?_
    refine any_offG (i := 17) (m' := 262143) 25 true rfl (vb hb79) hPF hns ?_
    refine any_offG (i := 18) (m' := 524287) 25 true rfl (vb hb79) hPF hns ?_
    refine any_offG (i := 19) (m' := 1048575) 25 true rfl (vb hb79) hPF hns ?_
    refine any_rn (i := 20) (m' := 2097151) rfl (rn_pickF (.bool false) (vb hb79) rfl) hPF hns ?_
    refine any_end ?_
    refine then_n ?_
    exact ⟨_, _, false, x2, x3, x8, x13, g4, A5, c6, g9, A10, c11, frame_eq _ ⟨rfl, rfl, trivial⟩, hG117, H118, hF⟩
   intro hM116
   refine any_rn (i := 0) (m' := 1) rfl (rn_pure (pt b0) rfl) hPF hns ?_
   refine any_rn (i := 1) (m' := 3) rfl (rn_nilCheck rfl) hPF hns ?_
   refine any_rn (i := 2) (m' := 7) rfl (rn_field fo63_3 rfl) hPF hns ?_
   refine any_rn (i := 3) (m' := 15) rfl (rn_field fo32_1 rfl) hPF hns ?_
   refine any_rn (i := 5) (m' := 47) rfl (rn_pure (pt b0) rfl) hPF hns ?_
   refine any_rn (i := 6) (m' := 111) rfl (rn_nilCheck rfl) hPF hns ?_
   refine any_rn (i := 7) (m' := 239) rfl (rn_field fo63_0 rfl) hPF hns ?_
   refine any_rn (i := 8) (m' := 495) rfl (rn_field fo29_0 rfl) hPF hns ?_
   refine any_rn (i := 9) (m' := 1007) rfl (rn_field fo23_3 rfl) hPF hns ?_
   refine any_alls [4, 10] ⟨?_, ?_, trivial⟩
   ·refine any_ops (m' := 1023) fun Q' hN => ?_
    refine wl_loadd H78 (i := 0) rfl (Lens.then lTnego_workV_P lTPkt_Id) (dInt .u8) ty5 rfl ?_
    refine wl_nil (hN _ _ ?_)
    refine any_alls [10] ⟨any_ops (m' := 2047) fun Q' hN => ?_, trivial⟩
    refine wl_loadd H78 (i := 0) rfl (Lens.then (Lens.then lTnego_workV_Nego lTNego_A) lTAuto_Id) (dInt .u8) ty5 rfl ?_
    refine wl_nil (hN _ _ ?_)
    exact hM116 _ _ ⟨_, _, frame_eq _ ⟨rfl, rfl, rfl, rfl, trivial⟩, GLe.refl _, H78⟩
   ·refine any_ops (m' := 2031) fun Q' hN => ?_
    refine wl_loadd H78 (i := 0) rfl (Lens.then (Lens.then lTnego_workV_Nego lTNego_A) lTAuto_Id) (dInt .u8) ty5 rfl ?_
    refine wl_nil (hN _ _ ?_)
    refine any_alls [4] ⟨any_ops (m' := 2047) fun Q' hN => ?_, trivial⟩
    refine wl_loadd H78 (i := 0) rfl (Lens.then lTnego_workV_P lTPkt_Id) (dInt .u8) ty5 rfl ?_
    refine wl_nil (hN _ _ ?_)
    exact hM116 _ _ ⟨_, _, frame_eq _ ⟨rfl, rfl, rfl, rfl, trivial⟩, GLe.refl _, H78⟩

theorem opts_of_ok {c : World} (hc : Hc c) {G : Ghost} {w : World} {σ : List Ent} {a0 : Int}  (H : St c G w (σ)) {r : Int} (hF : opts_of a0 = some r) :
  Calls Tryd.prog 63 ([(.int .u8 a0)] : List Value).toArray w (Ends fun v w' => ∃ (G' : Ghost) (b1' : Nat), GLe G G' ∧ tup [(.func (.func 82) #[] #[(.pointer (some ⟨b1', 0, none⟩))])] = v ∧ St c G' w' ((.box b1' 5 (kB.at_ r)) :: σ)) := by
 unfold opts_of at hF
 refine calls_mk Tryd.func63 rfl rfl rfl ?_
 refine wp_seq (wc_region ?_)
 refine wl_box (K := kB) (x := a0) H rfl ((dInt .u8).toV _ _) ?_
 intro b1 w4 H2
 refine wl_rn (rn_pure (.nilFunc) rfl) ?_
 refine wl_nil (then_n (wp_seq (wc_region ?_)))
 iterate 2 refine wl_rn (rn_pure (.func (.func 82) #[] #[(pt b1)]) rfl) ?_
 refine wl_nil (then_n ?_)
 refine wp_ret ?_
 have hF := Option.some.inj hF
 subst hF
 exact ret_mk rfl (RV.tmp rfl RV.nil) ⟨_, b1, GLe.refl _, rfl, H2⟩

theorem opts_of_1_ok {c : World} (hc : Hc c) {G : Ghost} {w : World} {σ : List Ent} {a0 : TOpt} {v0_ : Value} {b1 : Nat} {x2 : Int} (h0_ : kTOpt.V G v0_ a0) (H : St c G w ((.box b1 5 (kB.at_ x2)) :: σ)) {r : (Bool × Int)} (hF : opts_of_1 a0 x2 = some r) :
  Calls Tryd.prog 82 ([v0_, (pt b1)] : List Value).toArray w (Ends fun v w' => ∃ (G' : Ghost), GLe G G' ∧ tup [(.bool r.1)] = v ∧ St c G' w' ((.box b1 5 (kB.at_ r.2)) :: σ)) := by
 unfold opts_of_1 at hF
 refine calls_mk Tryd.func82 rfl rfl rfl ?_
 refine wp_seq (wc_region ?_)
 refine wl_box (K := kTOpt) (x := a0) H rfl h0_ ?_
 intro b3 w6 H4
 refine wl_rn (rn_pure (.bool false) rfl) ?_
 refine wl_nil (then_n (wp_seq (wc_region ?_)))
 refine wl_rn (rn_field fo60_0 rfl) ?_
 refine wl_loadd H4 (i := 0) rfl lTOpt_Typ (dInt .u8) ty5 rfl ?_
 refine wl_loadd H4 (i := 1) rfl (Lens.id kB) (dInt .u8) ty5 rfl ?_
 iterate 2 refine wl_rn (rn_pure (.bool (a0.Typ == x2)) rfl) ?_
 refine wl_nil (then_n ?_)
 refine wp_ret ?_
 have hF := Option.some.inj hF
 subst hF
 exact ret_mk rfl (RV.tmp rfl RV.nil) ⟨_, GLe.refl _, rfl, (St.pk [1] 2 H4 rfl (by decide))⟩

theorem slices_IndexFunc_Opt_opts_of_1_ok {c : World} (hc : Hc c) {G : Ghost} {w : World} {σ : List Ent} {a0 : (List TOpt)} {A0_ : Option Addr} {c0_ : Nat} {b1_0 : Nat} {x2 : Int} (h0_ : SlR kTOpt G A0_ c0_ a0) (H : St c G w ((.box b1_0 5 (kB.at_ x2)) :: σ)) {r : (Int × Int)} (hF : slices_IndexFunc_Opt_opts_of_1 a0 x2 = some r) :
  Calls Tryd.prog 65 ([(.slice A0_ a0.length c0_), (.func (.func 82) #[] #[(pt b1_0)])] : List Value).toArray w (Ends fun v w' => ∃ (G' : Ghost), GLe G G' ∧ tup [(.int .i64 r.1)] = v ∧ St c G' w' ((.box b1_0 5 (kB.at_ r.2)) :: σ)) := by
 unfold slices_IndexFunc_Opt_opts_of_1 at hF
 refine calls_mk Tryd.func65 rfl rfl rfl ?_
 refine wp_seq (wc_region ?_)
 refine wl_rn (rn_pure (.int .i64 0) rfl) ?_
 refine wl_nil (then_n ?_)
 refine wp_seq ?_
 refine wp_seq (wc_region ?_)
 refine wl_rn (rn_pure (.slice A0_ a0.length c0_) rfl) ?_
 refine wl_rn (rn_len sl27 rfl) ?_
 refine wl_rn (rn_pure (.int .i64 0) rfl) ?_
 refine wl_nil (then_n ?_)
 refine wp_block ?_
 refine wp_loopX (fun (s : (Int × Int)) a w => ∃ (T0 : Fr) (G1 : Ghost), a = mk 19 (upds T0 [(0, (.slice A0_ a0.length c0_)), (1, (.func (.func 82) #[] #[(pt b1_0)])), (7, (.int .i64 (a0.length : Int))), (8, (.int .i64 s.1))]) ∧ GLe G G1 ∧ St c G1 w ((.box b1_0 5 (kB.at_ s.2)) :: σ)) hF ?_ ?_
 ·exact ⟨_, _, frame_eq _ ⟨rfl, rfl, rfl, rfl, trivial⟩, GLe.refl _, H⟩
 ·rintro ⟨x38, x39⟩ a w y42 ⟨T0, G43, rfl, hG40, H41⟩ hF hy3
  refine wp_seq (wc_region ?_)
  refine wl_rn (rn_pure (.bool (decide (x38 < (a0.length : Int)))) rfl) ?_
  refine wl_nil (then_n ?_)
  refine wp_seq ?_
  rcases bcases (decide (x38 < (a0.length : Int))) with hb44 | hb44
  ·replace hF := ifT hF hb44
   refine wc_true (vb hb44) ?_
   refine wp_skip ?_
   refine then_n ?_
   refine wp_seq ?_
   refine wp_block ?_
   refine wp_seq (wc_region ?_)
   iterate 2 refine wl_rn (rn_pure (.int .i64 x38) rfl) ?_
   refine wl_nil (then_n (wp_seq (wc_region ?_)))
   refine wl_rn (rn_pure (.func (.func 82) #[] #[(pt b1_0)]) rfl) ?_
   refine wl_rn (rn_pure (.slice A0_ a0.length c0_) rfl) ?_
   refine wl_rn (rn_pure (.int .i64 x38) rfl) ?_
   obtain ⟨x45, hx46, hF⟩ := bindS hF
   refine wl_rnE (rn_index (h0_.mono hG40) sl27 ty60 rfl rfl hx46) ?_
   intro a47 hp48
   refine wl_loadp H41 hp48 ty60 rfl ?_
   intro v49 hv50
   obtain ⟨r51, hr52, hF⟩ := bindS hF
   refine wl_callv (first := []) (captured := [(pt b1_0)]) (vs := [v49, (pt b1_0)]) en82 rfl rfl (opts_of_1_ok hc hv50 H41 hr52) ?_
   rintro v57 w56 ⟨G53, hG54, rfl, H55⟩
   refine wl_nil (then_n ?_)
   rcases bcases r51.1 with hb58 | hb58
   ·replace hF := ifT hF hb58
    refine wc_true (vb hb58) ?_
    refine wp_seq (wc_region ?_)
    iterate 2 refine wl_rn (rn_pure (.int .i64 x38) rfl) ?_
    refine wl_nil (then_n ?_)
    refine wp_ret ?_
    refine blk_r ?_
    iterate 2 refine then_r ?_
    replace hF := exitS hF hy3
    refine blk_r ?_
    refine then_r ?_
    have hF := Option.some.inj hF
    subst hF
    exact ret_mk rfl (RV.tmp rfl RV.nil) ⟨_, (hG40.trans hG54), rfl, H55⟩
   ·replace hF := ifF hF hb58
    refine wc_false (vb hb58) ?_
    refine wp_skip ?_
    refine blk_n ?_
    refine then_n ?_
    refine wc_region ?_
    iterate 2 refine wl_rn (rn_pure (.int .i64 (IntKind.i64.wrap (x38 + 1))) rfl) ?_
    refine wl_nil (then_n ?_)
    exact ⟨_, (Option.some.inj hF).symm, _, _, frame_eq _ ⟨rfl, rfl, rfl, rfl, trivial⟩, (hG40.trans hG54), H55⟩
  ·replace hF := ifF hF hb44
   refine wc_false (vb hb44) ?_
   refine wp_exit ?_
   iterate 2 refine then_e ?_
   replace hF := exitS hF hy3
   refine blk_e ?_
   refine then_n ?_
   refine wp_seq (wc_region ?_)
   refine wl_rn (rn_pure (.int .i64 (-1)) rfl) ?_
   refine wl_nil (then_n ?_)
   refine wp_ret ?_
   have hF := Option.some.inj hF
   subst hF
   exact ret_mk rfl (RV.tmp rfl RV.nil) ⟨_, hG40, rfl, H41⟩

theorem opts_first_Opt_opts_of_1_ok {c : World} (hc : Hc c) {G : Ghost} {w : World} {σ : List Ent} {a0 : (List TOpt)} {A0_ : Option Addr} {c0_ : Nat} {b1_0 : Nat} {x2 : Int} (h0_ : SlR kTOpt G A0_ c0_ a0) (H : St c G w ((.box b1_0 5 (kB.at_ x2)) :: σ)) {r : (TOpt × Int × Int)} (hF : opts_first_Opt_opts_of_1 a0 x2 = some r) :
  Calls Tryd.prog 62 ([(.slice A0_ a0.length c0_), (.func (.func 82) #[] #[(pt b1_0)])] : List Value).toArray w (Ends fun v w' => ∃ (G' : Ghost) (v1' : Value), GLe G G' ∧ tup [v1', (.int .i64 r.2.1)] = v ∧ St c G' w' ((.box b1_0 5 (kB.at_ r.2.2)) :: σ) ∧ kTOpt.V G' v1' r.1) := by
 unfold opts_first_Opt_opts_of_1 at hF
 refine calls_mk Tryd.func62 rfl rfl rfl ?_
 refine wp_seq (wc_region ?_)
 refine wl_alloc H zr60 ?_
 intro b3 w6 H4
 refine wl_rn (rn_pure (.int .i64 0) rfl) ?_
 refine wl_nil (then_n (wp_seq (wc_region ?_)))
 refine wl_alloc H4 zr60 ?_
 intro b7 w10 H8
 refine wl_nil (then_n (wp_seq (wc_region ?_)))
 refine wl_rn (rn_pure (.slice A0_ a0.length c0_) rfl) ?_
 refine wl_rn (rn_pure (.func (.func 82) #[] #[(pt b1_0)]) rfl) ?_
 obtain ⟨r11, hr12, hF⟩ := bindS hF
 refine wl_call (vs := [(.slice A0_ a0.length c0_), (.func (.func 82) #[] #[(pt b1_0)])]) en65 rfl (slices_IndexFunc_Opt_opts_of_1_ok hc h0_ (St.pk [2, 0, 1] 3 H8 rfl (by decide)) hr12) ?_
 rintro v17 w16 ⟨G13, hG14, rfl, H15⟩
 refine wl_rn (rn_pure (.int .i64 r11.1) rfl) ?_
 refine wl_nil (then_n ?_)
 refine wp_seq ?_
 refine wp_seq (wc_region ?_)
 refine wl_rn (rn_pure (.int .i64 r11.1) rfl) ?_
 refine wl_rn (rn_pure (.bool (decide (r11.1 < 0))) rfl) ?_
 refine wl_nil (then_n ?_)
 rcases bcases (decide (r11.1 < 0)) with hb18 | hb18
 ·replace hF := ifT hF hb18
  refine wc_true (vb hb18) ?_
  refine wp_seq (wc_region ?_)
  refine wl_load H15 (i := 1) rfl (Lens.id kTOpt) ty60 rfl ?_
  intro v19 hv20
  refine wl_rn (rn_pure (.int .i64 r11.1) rfl) ?_
  refine wl_store (z := zTOpt) H15 (i := 2) rfl (Lens.id kTOpt) ty60 rfl rfl hv20 ?_
  intro w22 H21
  refine wl_rn (rn_pure (.int .i64 r11.1) rfl) ?_
  refine wl_nil (then_n ?_)
  refine wp_ret ?_
  refine then_r ?_
  obtain ⟨v23, hv24, hl25⟩ := H21.loadv (i := 2) rfl ty60
  have hF := Option.some.inj hF
  subst hF
  exact ret_mk rfl (RV.cell rfl hl25 (RV.tmp rfl RV.nil)) ⟨_, v23, hG14, rfl, (St.pk [0] 3 H21 rfl (by decide)), hv24⟩
 ·replace hF := ifF hF hb18
  refine wc_false (vb hb18) ?_
  refine wp_skip ?_
  refine then_n ?_
  refine wp_seq (wc_region ?_)
  refine wl_rn (rn_pure (.slice A0_ a0.length c0_) rfl) ?_
  refine wl_rn (rn_pure (.int .i64 r11.1) rfl) ?_
  obtain ⟨x26, hx27, hF⟩ := bindS hF
  refine wl_rnE (rn_index (h0_.mono hG14) sl27 ty60 rfl rfl hx27) ?_
  intro a28 hp29
  refine wl_loadp H15 hp29 ty60 rfl ?_
  intro v30 hv31
  refine wl_rn (rn_pure (.int .i64 r11.1) rfl) ?_
  refine wl_store (z := x26) H15 (i := 2) rfl (Lens.id kTOpt) ty60 rfl rfl hv31 ?_
  intro w33 H32
  refine wl_rn (rn_pure (.int .i64 r11.1) rfl) ?_
  refine wl_nil (then_n ?_)
  refine wp_ret ?_
  obtain ⟨v34, hv35, hl36⟩ := H32.loadv (i := 2) rfl ty60
  have hF := Option.some.inj hF
  subst hF
  exact ret_mk rfl (RV.cell rfl hl36 (RV.tmp rfl RV.nil)) ⟨_, v34, hG14, rfl, (St.pk [0] 3 H32 rfl (by decide)), hv35⟩

theorem opts_Find_ok {c : World} (hc : Hc c) {G : Ghost} {w : World} {σ : List Ent} {a0 : (List TOpt)} {A0_ : Option Addr} {c0_ : Nat} {a1 : Int} (h0_ : SlR kTOpt G A0_ c0_ a0) (H : St c G w (σ)) {r : (TOpt × Bool)} (hF : opts_Find a0 a1 = some r) :
  Calls Tryd.prog 39 ([(.slice A0_ a0.length c0_), (.int .u8 a1)] : List Value).toArray w (Ends fun v w' => ∃ (G' : Ghost) (v1' : Value), GLe G G' ∧ tup [v1', (.bool r.2)] = v ∧ St c G' w' (σ) ∧ kTOpt.V G' v1' r.1) := by
 unfold opts_Find at hF
 refine calls_mk Tryd.func39 rfl rfl rfl ?_
 refine wp_seq (wc_region ?_)
 refine wl_alloc H zr60 ?_
 intro b1 w4 H2
 refine wl_rn (rn_pure (.bool false) rfl) ?_
 refine wl_nil (then_n (wp_seq (wc_region ?_)))
 refine wl_rn (rn_pure (.slice A0_ a0.length c0_) rfl) ?_
 refine wl_rn (rn_pure (.int .u8 a1) rfl) ?_
 obtain ⟨r5, hr6, hF⟩ := bindS hF
 refine wl_call (vs := [(.int .u8 a1)]) en63 rfl (opts_of_ok hc H2 hr6) ?_
 rintro v11 w10 ⟨G7, b12, hG8, rfl, H9⟩
 obtain ⟨r14, hr15, hF⟩ := bindS hF
 refine wl_call (vs := [(.slice A0_ a0.length c0_), (.func (.func 82) #[] #[(pt b12)])]) en62 rfl (opts_first_Opt_opts_of_1_ok hc (h0_.mono hG8) H9 hr15) ?_
 rintro v20 w19 ⟨G16, v21, hG17, rfl, H18, hv22⟩
 refine wl_rn (rn_pure (.tuple #[v21, (.int .i64 r14.2.1)]) rfl) ?_
 refine wl_rn (rn_pure v21 rfl) ?_
 refine wl_rn (rn_pure (.int .i64 r14.2.1) rfl) ?_
 refine wl_alloc H18 zr60 ?_
 intro b23 w26 H24
 refine wl_store (z := r14.1) H24 (i := 0) rfl (Lens.id kTOpt) ty60 rfl rfl hv22 ?_
 intro w28 H27
 refine wl_rn (rn_pure (.int .i64 r14.2.1) rfl) ?_
 refine wl_nil (then_n (wp_seq (wc_region ?_)))
 refine wl_load H27 (i := 0) rfl (Lens.id kTOpt) ty60 rfl ?_
 intro v29 hv30
 refine wl_rn (rn_pure (.int .i64 r14.2.1) rfl) ?_
 refine wl_rn (rn_pure (.bool (decide (r14.2.1 ≥ 0))) rfl) ?_
 refine wl_store (z := r14.1) H27 (i := 2) rfl (Lens.id kTOpt) ty60 rfl rfl hv30 ?_
 intro w32 H31
 refine wl_rn (rn_pure (.bool (decide (r14.2.1 ≥ 0))) rfl) ?_
 refine wl_nil (then_n ?_)
 refine wp_ret ?_
 obtain ⟨v33, hv34, hl35⟩ := H31.loadv (i := 2) rfl ty60
 have hF := Option.some.inj hF
 subst hF
 exact ret_mk rfl (RV.cell rfl hl35 (RV.tmp rfl RV.nil)) ⟨_, v33, (hG8.trans hG17), rfl, (St.pk [] 3 H31 rfl (by decide)), hv34⟩

theorem slices_Clone_Opt_ok {c : World} (hc : Hc c) {G : Ghost} {w : World} {σ : List Ent} {a0 : (List TOpt)} {A0_ : Option Addr} {c0_ : Nat} (h0_ : SlR kTOpt G A0_ c0_ a0) (H : St c G w (σ)) {r : (List TOpt)} (hF : slices_Clone_Opt a0 = some r) :
  Calls Tryd.prog 90 ([(.slice A0_ a0.length c0_)] : List Value).toArray w (Ends fun v w' => ∃ (G' : Ghost) (g1' : Option Nat) (A2' : Option Addr) (c3' : Nat), GLe G G' ∧ tup [(.slice A2' r.length c3')] = v ∧ St c G' w' ((.row kTOpt g1' A2' c3' 60 r) :: σ)) := by
 unfold slices_Clone_Opt at hF
 refine calls_mk Tryd.func90 rfl rfl rfl ?_
 refine wp_seq (wc_region ?_)
 refine wl_rn (rn_pure (.slice none 0 0) rfl) ?_
 refine wl_nil (then_n ?_)
 refine wp_seq ?_
 refine wp_seq (wc_region ?_)
 refine wl_rn (rn_pure (.slice A0_ a0.length c0_) rfl) ?_
 refine wl_rn (rn_isnil sl27 rfl rfl) ?_
 refine wl_nil (then_n ?_)
 rcases isnil A0_ with hA1 | hA1
 ·have hF : (some ([] : (List TOpt))) = some r := by
   have e := (h0_.2.1 hA1).1
   subst e
   exact hF
  refine wc_true (congrArg (fun A => Value.bool (Option.isNone A)) hA1) ?_
  refine wp_seq (wc_region ?_)
  refine wl_rn (rn_pure (.slice none 0 0) rfl) ?_
  refine wl_nil (then_n ?_)
  refine wp_ret ?_
  refine then_r ?_
  have H2 := H.nilrow kTOpt none 60
  have hF := Option.some.inj hF
  subst hF
  exact ret_mk rfl (RV.tmp rfl RV.nil) ⟨_, none, none, 0, GLe.refl _, rfl, H2⟩
 ·refine wc_false (vb hA1) ?_
  refine wp_skip ?_
  refine then_n ?_
  refine wp_seq (wc_region ?_)
  refine wl_lit (K := kTOpt) (vs := []) (xs := ([] : (List TOpt))) H sl27 el60 rfl trivial rfl (by decide) ?_
  intro g4 w6 H5
  refine wl_rn (rn_pure (.slice A0_ a0.length c0_) rfl) ?_
  obtain ⟨r8, hr9, hF⟩ := bindS hF
  refine wl_append H5 sl27 el60 (i := 0) rfl rfl rfl (h0_.src H5.ag) hr9 ?_
  intro g10 A11 c12 w13 H14
  refine wl_rn (rn_pure (.slice A11 r8.length c12) rfl) ?_
  refine wl_nil (then_n ?_)
  refine wp_ret ?_
  have hF := Option.some.inj hF
  subst hF
  exact ret_mk rfl (RV.tmp rfl RV.nil) ⟨_, g10, A11, c12, GLe.refl _, rfl, H14⟩

theorem rules_Turn_1_ok {c : World} (hc : Hc c) {G : Ghost} {w : World} {σ : List Ent} {a0 : TOpt} {v0_ : Value} {b1 : Nat} {x2 : (List TOpt)} (h0_ : kTOpt.V G v0_ a0) (H : St c G w ((.box b1 27 ((Kd.slice kTOpt).at_ x2)) :: σ)) {r : (Bool × (List TOpt))} (hF : rules_Turn_1 a0 x2 = some r) :
  Calls Tryd.prog 91 ([v0_, (pt b1)] : List Value).toArray w (Ends fun v w' => ∃ (G' : Ghost), GLe G G' ∧ tup [(.bool r.1)] = v ∧ St c G' w' ((.box b1 27 ((Kd.slice kTOpt).at_ r.2)) :: σ)) := by
 unfold rules_Turn_1 at hF
 refine calls_mk Tryd.func91 rfl rfl rfl ?_
 refine wp_seq (wc_region ?_)
 refine wl_box (K := kTOpt) (x := a0) H rfl h0_ ?_
 intro b3 w6 H4
 refine wl_rn (rn_pure (.bool false) rfl) ?_
 refine wl_nil (then_n (wp_seq (wc_region ?_)))
 refine wl_load H4 (i := 1) rfl (Lens.id (Kd.slice kTOpt)) ty27 rfl ?_
 intro v7 hv8
 obtain ⟨A9, c10, rfl, hs11⟩ := slice_V hv8
 refine wl_rn (rn_field fo60_0 rfl) ?_
 refine wl_loadd H4 (i := 0) rfl lTOpt_Typ (dInt .u8) ty5 rfl ?_
 obtain ⟨r12, hr13, hF⟩ := bindS hF
 refine wl_call (vs := [(.slice A9 x2.length c10), (.int .u8 a0.Typ)]) en39 rfl (opts_Find_ok hc hs11 H4 hr13) ?_
 rintro v18 w17 ⟨G14, v19, hG15, rfl, H16, hv20⟩
 refine wl_rn (rn_pure (.tuple #[v19, (.bool r12.2)]) rfl) ?_
 refine wl_rn (rn_pure v19 rfl) ?_
 refine wl_rn (rn_pure (.bool r12.2) rfl) ?_
 refine wl_alloc H16 zr60 ?_
 intro b21 w24 H22
 refine wl_store (z := r12.1) H22 (i := 0) rfl (Lens.id kTOpt) ty60 rfl rfl hv20 ?_
 intro w26 H25
 refine wl_rn (rn_pure (.bool r12.2) rfl) ?_
 refine wl_nil (then_n (wp_seq (wc_region ?_)))
 iterate 2 refine wl_rn (rn_pure (.bool r12.2) rfl) ?_
 refine wl_nil (then_n ?_)
 refine wp_ret ?_
 have hF := Option.some.inj hF
 subst hF
 exact ret_mk rfl (RV.tmp rfl RV.nil) ⟨_, hG15, rfl, (St.pk [2] 3 H25 rfl (by decide))⟩

theorem slices_IndexFunc_Opt_rules_Turn_1_ownR_ok {c : World} (hc : Hc c) {G : Ghost} {w : World} {σ : List Ent} {a0 : (List TOpt)} {g0_ : Option Nat} {A0_ : Option Addr} {c0_ : Nat} {b1_0 : Nat} {x3 : (List TOpt)}  (H : St c G w ((.row kTOpt g0_ A0_ c0_ 60 a0) :: (.box b1_0 27 ((Kd.slice kTOpt).at_ x3)) :: σ)) {r : (Int × (List TOpt))} (hF : slices_IndexFunc_Opt_rules_Turn_1_ownR a0 x3 = some r) :
  Calls Tryd.prog 65 ([(.slice A0_ a0.length c0_), (.func (.func 91) #[] #[(pt b1_0)])] : List Value).toArray w (Ends fun v w' => ∃ (G' : Ghost), GLe G G' ∧ tup [(.int .i64 r.1)] = v ∧ St c G' w' ((.row kTOpt g0_ A0_ c0_ 60 a0) :: (.box b1_0 27 ((Kd.slice kTOpt).at_ r.2)) :: σ)) := by
 unfold slices_IndexFunc_Opt_rules_Turn_1_ownR at hF
 refine calls_mk Tryd.func65 rfl rfl rfl ?_
 refine wp_seq (wc_region ?_)
 refine wl_rn (rn_pure (.int .i64 0) rfl) ?_
 refine wl_nil (then_n ?_)
 refine wp_seq ?_
 refine wp_seq (wc_region ?_)
 refine wl_rn (rn_pure (.slice A0_ a0.length c0_) rfl) ?_
 refine wl_rn (rn_len sl27 rfl) ?_
 refine wl_rn (rn_pure (.int .i64 0) rfl) ?_
 refine wl_nil (then_n ?_)
 refine wp_block ?_
 refine wp_loopX (fun (s : (Int × (List TOpt))) a w => ∃ (T0 : Fr) (G1 : Ghost), a = mk 19 (upds T0 [(0, (.slice A0_ a0.length c0_)), (1, (.func (.func 91) #[] #[(pt b1_0)])), (7, (.int .i64 (a0.length : Int))), (8, (.int .i64 s.1))]) ∧ GLe G G1 ∧ St c G1 w ((.row kTOpt g0_ A0_ c0_ 60 a0) :: (.box b1_0 27 ((Kd.slice kTOpt).at_ s.2)) :: σ)) hF ?_ ?_
 ·exact ⟨_, _, frame_eq _ ⟨rfl, rfl, rfl, rfl, trivial⟩, GLe.refl _, H⟩
 ·rintro ⟨x39, x40⟩ a w y43 ⟨T0, G44, rfl, hG41, H42⟩ hF hy4
  refine wp_seq (wc_region ?_)
  refine wl_rn (rn_pure (.bool (decide (x39 < (a0.length : Int)))) rfl) ?_
  refine wl_nil (then_n ?_)
  refine wp_seq ?_
  rcases bcases (decide (x39 < (a0.length : Int))) with hb45 | hb45
  ·replace hF := ifT hF hb45
   refine wc_true (vb hb45) ?_
   refine wp_skip ?_
   refine then_n ?_
   refine wp_seq ?_
   refine wp_block ?_
   refine wp_seq (wc_region ?_)
   iterate 2 refine wl_rn (rn_pure (.int .i64 x39) rfl) ?_
   refine wl_nil (then_n (wp_seq (wc_region ?_)))
   refine wl_rn (rn_pure (.func (.func 91) #[] #[(pt b1_0)]) rfl) ?_
   refine wl_rn (rn_pure (.slice A0_ a0.length c0_) rfl) ?_
   refine wl_rn (rn_pure (.int .i64 x39) rfl) ?_
   obtain ⟨x46, hx47, hF⟩ := bindS hF
   refine wl_rnE (rn_indexO H42 (i := 0) rfl sl27 ty60 rfl (by simp) rfl hx47) ?_
   intro a48 hA49
   refine wl_loadO H42 (i := 0) rfl hA49 hx47 ty60 rfl ?_
   intro v50 hv51
   obtain ⟨r52, hr53, hF⟩ := bindS hF
   refine wl_callv (first := []) (captured := [(pt b1_0)]) (vs := [v50, (pt b1_0)]) en91 rfl rfl (rules_Turn_1_ok hc hv51 (St.pk [1, 0] 2 H42 rfl (by decide)) hr53) ?_
   rintro v58 w57 ⟨G54, hG55, rfl, H56⟩
   refine wl_nil (then_n ?_)
   rcases bcases r52.1 with hb59 | hb59
   ·replace hF := ifT hF hb59
    refine wc_true (vb hb59) ?_
    refine wp_seq (wc_region ?_)
    iterate 2 refine wl_rn (rn_pure (.int .i64 x39) rfl) ?_
    refine wl_nil (then_n ?_)
    refine wp_ret ?_
    refine blk_r ?_
    iterate 2 refine then_r ?_
    replace hF := exitS hF hy4
    refine blk_r ?_
    refine then_r ?_
    have hF := Option.some.inj hF
    subst hF
    exact ret_mk rfl (RV.tmp rfl RV.nil) ⟨_, (hG41.trans hG55), rfl, (St.pk [1, 0] 2 H56 rfl (by decide))⟩
   ·replace hF := ifF hF hb59
    refine wc_false (vb hb59) ?_
    refine wp_skip ?_
    refine blk_n ?_
    refine then_n ?_
    refine wc_region ?_
    iterate 2 refine wl_rn (rn_pure (.int .i64 (IntKind.i64.wrap (x39 + 1))) rfl) ?_
    refine wl_nil (then_n ?_)
    exact ⟨_, (Option.some.inj hF).symm, _, _, frame_eq _ ⟨rfl, rfl, rfl, rfl, trivial⟩, (hG41.trans hG55), (St.pk [1, 0] 2 H56 rfl (by decide))⟩
  ·replace hF := ifF hF hb45
   refine wc_false (vb hb45) ?_
   refine wp_exit ?_
   iterate 2 refine then_e ?_
   replace hF := exitS hF hy4
   refine blk_e ?_
   refine then_n ?_
   refine wp_seq (wc_region ?_)
   refine wl_rn (rn_pure (.int .i64 (-1)) rfl) ?_
   refine wl_nil (then_n ?_)
   refine wp_ret ?_
   have hF := Option.some.inj hF
   subst hF
   exact ret_mk rfl (RV.tmp rfl RV.nil) ⟨_, hG41, rfl, H42⟩

theorem slices_DeleteFunc_Opt_rules_Turn_1_ok {c : World} (hc : Hc c) {G : Ghost} {w : World} {σ : List Ent} {a0 : (List TOpt)} {g0_ : Option Nat} {A0_ : Option Addr} {c0_ : Nat} {b1_0 : Nat} {x3 : (List TOpt)}  (H : St c G w ((.row kTOpt g0_ A0_ c0_ 60 a0) :: (.box b1_0 27 ((Kd.slice kTOpt).at_ x3)) :: σ)) {r : ((List TOpt) × (List TOpt))} (hF : slices_DeleteFunc_Opt_rules_Turn_1 a0 x3 = some r) :
  Calls Tryd.prog 89 ([(.slice A0_ a0.length c0_), (.func (.func 91) #[] #[(pt b1_0)])] : List Value).toArray w (Ends fun v w' => ∃ (G' : Ghost) (g1' : Option Nat) (A2' : Option Addr) (c3' : Nat), GLe G G' ∧ tup [(.slice A2' r.1.length c3')] = v ∧ St c G' w' ((.row kTOpt g1' A2' c3' 60 r.1) :: (.box b1_0 27 ((Kd.slice kTOpt).at_ r.2)) :: σ)) := by
 unfold slices_DeleteFunc_Opt_rules_Turn_1 at hF
 refine calls_mk Tryd.func89 rfl rfl rfl ?_
 refine wp_seq (wc_region ?_)
 refine wl_rn (rn_pure (.slice none 0 0) rfl) ?_
 refine wl_nil (then_n (wp_seq (wc_region ?_)))
 refine wl_rn (rn_pure (.slice A0_ a0.length c0_) rfl) ?_
 refine wl_rn (rn_pure (.func (.func 91) #[] #[(pt b1_0)]) rfl) ?_
 obtain ⟨r4, hr5, hF⟩ := bindS hF
 refine wl_call (vs := [(.slice A0_ a0.length c0_), (.func (.func 91) #[] #[(pt b1_0)])]) en65 rfl (slices_IndexFunc_Opt_rules_Turn_1_ownR_ok hc H hr5) ?_
 rintro v10 w9 ⟨G6, hG7, rfl, H8⟩
 refine wl_rn (rn_pure (.int .i64 r4.1) rfl) ?_
 refine wl_nil (then_n ?_)
 refine wp_seq ?_
 refine wp_seq (wc_region ?_)
 refine wl_rn (rn_pure (.int .i64 r4.1) rfl) ?_
 refine wl_rn (rn_pure (.bool (r4.1 == (-1))) rfl) ?_
 refine wl_nil (then_n ?_)
 rcases bcases (r4.1 == (-1)) with hb11 | hb11
 ·replace hF := ifT hF hb11
  refine wc_true (vb hb11) ?_
  refine wp_seq (wc_region ?_)
  iterate 2 refine wl_rn (rn_pure (.slice A0_ a0.length c0_) rfl) ?_
  refine wl_nil (then_n ?_)
  refine wp_ret ?_
  refine then_r ?_
  have hF := Option.some.inj hF
  subst hF
  exact ret_mk rfl (RV.tmp rfl RV.nil) ⟨_, g0_, A0_, c0_, hG7, rfl, H8⟩
 ·replace hF := ifF hF hb11
  refine wc_false (vb hb11) ?_
  refine wp_skip ?_
  refine then_n ?_
  refine wp_seq ?_
  refine wp_seq (wc_region ?_)
  refine wl_rn (rn_pure (.int .i64 r4.1) rfl) ?_
  iterate 2 refine wl_rn (rn_pure (.int .i64 (IntKind.i64.wrap (r4.1 + 1))) rfl) ?_
  refine wl_nil (then_n ?_)
  refine wp_block ?_
  refine wp_loopX (fun (s : ((List TOpt) × Int × Int × (List TOpt))) a w => ∃ (T0 : Fr) (G1 : Ghost) (g114 : Option Nat) (A115 : Option Addr) (c116 : Nat), a = mk 42 (upds T0 [(0, (.slice A115 s.1.length c116)), (1, (.func (.func 91) #[] #[(pt b1_0)])), (5, (.int .i64 s.2.1)), (6, (.int .i64 s.2.2.1))]) ∧ GLe G6 G1 ∧ St c G1 w ((.row kTOpt g114 A115 c116 60 s.1) :: (.box b1_0 27 ((Kd.slice kTOpt).at_ s.2.2.2)) :: σ)) hF ?_ ?_
  ·exact ⟨_, _, g0_, A0_, c0_, frame_eq _ ⟨rfl, rfl, rfl, rfl, trivial⟩, GLe.refl _, H8⟩
  ·rintro ⟨x113, x118, x119, x120⟩ a w y123 ⟨T0, G124, g114, A115, c116, rfl, hG121, H122⟩ hF hy12
   refine wp_seq ?_
   refine wp_seq (wc_region ?_)
   refine wl_rn (rn_pure (.int .i64 x119) rfl) ?_
   refine wl_rn (rn_pure (.slice A115 x113.length c116) rfl) ?_
   refine wl_rn (rn_len sl27 rfl) ?_
   refine wl_rn (rn_pure (.bool (decide (x119 < (x113.length : Int)))) rfl) ?_
   refine wl_nil (then_n ?_)
   rcases bcases (decide (x119 < (x113.length : Int))) with hb125 | hb125
   ·replace hF := ifT hF hb125
    refine wc_true (vb hb125) ?_
    refine wp_skip ?_
    refine then_n ?_
    refine wp_seq (join (fun a w => ∃ (T0 : Fr) (G1 : Ghost) (x156 : (List TOpt)) (x161 : Int) (x162 : (List TOpt)) (g157 : Option Nat) (A158 : Option Addr) (c159 : Nat), a = mk 42 (upds T0 [(0, (.slice A158 x156.length c159)), (1, (.func (.func 91) #[] #[(pt b1_0)])), (5, (.int .i64 x161)), (6, (.int .i64 x119))]) ∧ GLe G124 G1 ∧ St c G1 w ((.row kTOpt g157 A158 c159 60 x156) :: (.box b1_0 27 ((Kd.slice kTOpt).at_ x162)) :: σ) ∧ slices_DeleteFunc_Opt_rules_Turn_1_j2 x119 x156 x161 x162 = some y123) ?_ ?_)
    ·rintro a w ⟨T0, G165, x156, x161, x162, g157, A158, c159, rfl, hG163, H164, hF⟩
     refine wc_region ?_
     refine wl_rn (rn_pure (.int .i64 x119) rfl) ?_
     iterate 2 refine wl_rn (rn_pure (.int .i64 (IntKind.i64.wrap (x119 + 1))) rfl) ?_
     refine wl_nil (then_n ?_)
     exact ⟨_, (Option.some.inj hF).symm, _, _, g157, A158, c159, frame_eq _ ⟨rfl, rfl, rfl, rfl, trivial⟩, (hG121.trans hG163), H164⟩
    ·refine wp_block ?_
     refine wp_seq (wc_region ?_)
     refine wl_rn (rn_pure (.slice A115 x113.length c116) rfl) ?_
     refine wl_rn (rn_pure (.int .i64 x119) rfl) ?_
     obtain ⟨x166, hx167, hF⟩ := bindS hF
     refine wl_rnE (rn_indexO H122 (i := 0) rfl sl27 ty60 rfl (by simp) rfl hx167) ?_
     intro a168 hA169
     refine wl_loadO H122 (i := 0) rfl hA169 hx167 ty60 rfl ?_
     intro v170 hv171
     refine wl_alloc H122 zr60 ?_
     intro b172 w175 H173
     refine wl_store (z := x166) H173 (i := 0) rfl (Lens.id kTOpt) ty60 rfl rfl hv171 ?_
     intro w177 H176
     refine wl_nil (then_n (wp_seq (wc_region ?_)))
     refine wl_rn (rn_pure (.func (.func 91) #[] #[(pt b1_0)]) rfl) ?_
     refine wl_load H176 (i := 0) rfl (Lens.id kTOpt) ty60 rfl ?_
     intro v178 hv179
     obtain ⟨r180, hr181, hF⟩ := bindS hF
     refine wl_callv (first := []) (captured := [(pt b1_0)]) (vs := [v178, (pt b1_0)]) en91 rfl rfl (rules_Turn_1_ok hc hv179 (St.pk [2, 0, 1] 3 H176 rfl (by decide)) hr181) ?_
     rintro v186 w185 ⟨G182, hG183, rfl, H184⟩
     refine wl_rn (rn_pure (.bool (!r180.1)) rfl) ?_
     refine wl_nil (then_n ?_)
     rcases bcases (!r180.1) with hb187 | hb187
     ·replace hF := ifT hF hb187
      refine wc_true (vb hb187) ?_
      refine wp_seq (wc_region ?_)
      refine wl_rn (rn_pure (.slice A115 x113.length c116) rfl) ?_
      refine wl_rn (rn_pure (.int .i64 x118) rfl) ?_
      refine wl_load H184 (i := 1) rfl (Lens.id kTOpt) ty60 rfl ?_
      intro v188 hv189
      obtain ⟨x190, hx191, hF⟩ := bindS hF
      refine wl_rnE (rn_indexO H184 (i := 2) rfl sl27 ty60 rfl (by simp) rfl hx191) ?_
      intro a192 hA193
      refine wl_storeO (z := x166) H184 (i := 2) rfl hA193 hx191 ty60 rfl rfl hv189 ?_
      intro w195 H194
      refine wl_nil (then_n ?_)
      refine wc_region ?_
      refine wl_rn (rn_pure (.int .i64 x118) rfl) ?_
      iterate 2 refine wl_rn (rn_pure (.int .i64 (IntKind.i64.wrap (x118 + 1))) rfl) ?_
      refine wl_nil (blk_n ?_)
      refine then_n ?_
      exact ⟨_, _, (x113.set (x118).toNat x166), (IntKind.i64.wrap (x118 + 1)), r180.2, g114, A115, c116, frame_eq _ ⟨((rfl : _ = (Value.slice A115 x113.length c116)).trans (show (Value.slice A115 x113.length c116) = (Value.slice A115 (x113.set (x118).toNat x166).length c116) by simp)), rfl, rfl, rfl, trivial⟩, hG183, (St.pk [2, 0] 3 H194 rfl (by decide)), hF⟩
     ·replace hF := ifF hF hb187
      refine wc_false (vb hb187) ?_
      refine wp_skip ?_
      refine blk_n ?_
      refine then_n ?_
      exact ⟨_, _, x113, x118, r180.2, g114, A115, c116, frame_eq _ ⟨rfl, rfl, rfl, rfl, trivial⟩, hG183, (St.pk [2, 0] 3 H184 rfl (by decide)), hF⟩
   ·replace hF := ifF hF hb125
    refine wc_false (vb hb125) ?_
    refine wp_exit ?_
    iterate 2 refine then_e ?_
    replace hF := exitS hF hy12
    refine blk_e ?_
    refine then_n ?_
    refine wp_seq (wc_region ?_)
    refine wl_rn (rn_pure (.slice A115 x113.length c116) rfl) ?_
    refine wl_rn (rn_pure (.int .i64 x118) rfl) ?_
    obtain ⟨r196, hr197, hF⟩ := bindS hF
    refine wl_rn (rn_cutT sl27 ty60 rfl rfl (cut_len hr197).1 (by simpa using (cut_len hr197).2.1)) ?_
    refine wl_clearT H122 (i := 0) rfl sl27 zr60 (by simp) hr197 rfl ?_
    intro w199 H198
    refine wl_nil (then_n (wp_seq (wc_region ?_)))
    refine wl_rn (rn_pure (.slice A115 x113.length c116) rfl) ?_
    refine wl_rn (rn_pure (.int .i64 x118) rfl) ?_
    refine wl_rn (rn_cutR hr197 (row_cap H198 (i := 0) rfl) sl27 ty60 rfl rfl) ?_
    refine wl_rn (rn_pure (.slice A115 r196.length c116) rfl) ?_
    refine wl_nil (then_n ?_)
    refine wp_ret ?_
    have hF := Option.some.inj hF
    subst hF
    exact ret_mk rfl (RV.tmp rfl RV.nil) ⟨_, g114, A115, c116, (hG7.trans hG121), rfl, H198⟩

theorem opts_Put_ok {c : World} (hc : Hc c) {G : Ghost} {w : World} {σ : List Ent} {a0 : (List TOpt)} {A0_ : Option Addr} {c0_ : Nat} {a1 : TOpt} {v1_ : Value} (h0_ : SlR kTOpt G A0_ c0_ a0) (h1_ : kTOpt.V G v1_ a1) (H : St c G w (σ)) {r : (List TOpt)} (hF : opts_Put a0 a1 = some r) :
  Calls Tryd.prog 92 ([(.slice A0_ a0.length c0_), v1_] : List Value).toArray w (Ends fun v w' => ∃ (G' : Ghost) (A1' : Option Addr) (c2' : Nat), GLe G G' ∧ tup [(.slice A1' r.length c2')] = v ∧ St c G' w' (σ) ∧ SlR kTOpt G' A1' c2' r) := by
 unfold opts_Put at hF
 refine calls_mk Tryd.func92 rfl rfl rfl ?_
 refine wp_seq (wc_region ?_)
 refine wl_box (K := kTOpt) (x := a1) H rfl h1_ ?_
 intro b1 w4 H2
 refine wl_rn (rn_pure (.slice none 0 0) rfl) ?_
 refine wl_nil (then_n (wp_seq (wc_region ?_)))
 refine wl_rn (rn_pure (.slice A0_ a0.length c0_) rfl) ?_
 obtain ⟨r5, hr6, hF⟩ := bindS hF
 refine wl_call (vs := [(.slice A0_ a0.length c0_)]) en90 rfl (slices_Clone_Opt_ok hc h0_ H2 hr6) ?_
 rintro v11 w10 ⟨G7, g12, A13, c14, hG8, rfl, H9⟩
 refine wl_rn (rn_pure (.slice A13 r5.length c14) rfl) ?_
 refine wl_nil (then_n (wp_seq (wc_region ?_)))
 refine wl_rn (rn_pure (.slice A0_ a0.length c0_) rfl) ?_
 refine wl_rn (rn_field fo60_0 rfl) ?_
 refine wl_loadd H9 (i := 1) rfl lTOpt_Typ (dInt .u8) ty5 rfl ?_
 obtain ⟨r16, hr17, hF⟩ := bindS hF
 refine wl_call (vs := [(.int .u8 a1.Typ)]) en63 rfl (opts_of_ok hc H9 hr17) ?_
 rintro v22 w21 ⟨G18, b23, hG19, rfl, H20⟩
 obtain ⟨r25, hr26, hF⟩ := bindS hF
 refine wl_call (vs := [(.slice A0_ a0.length c0_), (.func (.func 82) #[] #[(pt b23)])]) en62 rfl (opts_first_Opt_opts_of_1_ok hc (h0_.mono (hG8.trans hG19)) H20 hr26) ?_
 rintro v31 w30 ⟨G27, v32, hG28, rfl, H29, hv33⟩
 refine wl_rn (rn_pure (.tuple #[v32, (.int .i64 r25.2.1)]) rfl) ?_
 refine wl_rn (rn_pure v32 rfl) ?_
 refine wl_rn (rn_pure (.int .i64 r25.2.1) rfl) ?_
 refine wl_alloc H29 zr60 ?_
 intro b34 w37 H35
 refine wl_store (z := r25.1) H35 (i := 0) rfl (Lens.id kTOpt) ty60 rfl rfl hv33 ?_
 intro w39 H38
 refine wl_rn (rn_pure (.int .i64 r25.2.1) rfl) ?_
 refine wl_nil (then_n ?_)
 refine wp_seq ?_
 refine wp_seq (wc_region ?_)
 refine wl_rn (rn_pure (.int .i64 r25.2.1) rfl) ?_
 refine wl_rn (rn_pure (.bool (decide (r25.2.1 < 0))) rfl) ?_
 refine wl_nil (then_n ?_)
 rcases bcases (decide (r25.2.1 < 0)) with hb40 | hb40
 ·replace hF := ifT hF hb40
  refine wc_true (vb hb40) ?_
  refine wp_seq (wc_region ?_)
  refine wl_rn (rn_pure (.slice A13 r5.length c14) rfl) ?_
  refine wl_load H38 (i := 3) rfl (Lens.id kTOpt) ty60 rfl ?_
  intro v41 hv42
  refine wl_lit (K := kTOpt) (vs := [v41]) (xs := ([a1] : (List TOpt))) H38 sl27 el60 rfl ⟨hv42, trivial⟩ rfl (by decide) ?_
  intro g43 w45 H44
  obtain ⟨r47, hr48, hF⟩ := bindS hF
  refine wl_append H44 sl27 el60 (i := 3) rfl rfl rfl ((H44.okAt (i := 0) rfl).src) hr48 ?_
  intro g49 A50 c51 w52 H53
  refine wl_rn (rn_pure (.slice A50 r47.length c51) rfl) ?_
  refine wl_nil (then_n ?_)
  refine wp_ret ?_
  refine then_r ?_
  obtain ⟨G54, hG55, H56, hs57⟩ := H53.stay (i := 3) rfl (H53.capA (i := 3) rfl)
  have hF := Option.some.inj hF
  subst hF
  exact ret_mk rfl (RV.tmp rfl RV.nil) ⟨_, A50, c51, (((hG8.trans hG19).trans hG28).trans hG55), rfl, (St.pk [] 4 H56 rfl (by decide)), hs57⟩
 ·replace hF := ifF hF hb40
  refine wc_false (vb hb40) ?_
  refine wp_skip ?_
  refine then_n ?_
  refine wp_seq (wc_region ?_)
  refine wl_rn (rn_pure (.slice A13 r5.length c14) rfl) ?_
  refine wl_rn (rn_pure (.int .i64 r25.2.1) rfl) ?_
  refine wl_load H38 (i := 3) rfl (Lens.id kTOpt) ty60 rfl ?_
  intro v58 hv59
  obtain ⟨x60, hx61, hF⟩ := bindS hF
  refine wl_rnE (rn_indexO H38 (i := 2) rfl sl27 ty60 rfl (by simp) rfl hx61) ?_
  intro a62 hA63
  refine wl_storeO (z := a1) H38 (i := 2) rfl hA63 hx61 ty60 rfl rfl hv59 ?_
  intro w65 H64
  refine wl_nil (then_n (wp_seq (wc_region ?_)))
  iterate 2 refine wl_rn (rn_pure (.slice A13 r5.length c14) rfl) ?_
  refine wl_nil (then_n ?_)
  refine wp_ret ?_
  obtain ⟨G66, hG67, H68, hs69⟩ := H64.stay (i := 2) rfl (H64.capA (i := 2) rfl)
  have hF := Option.some.inj hF
  subst hF
  exact ret_mk rfl (RV.tmp ((rfl : _ = (Value.slice A13 r5.length c14)).trans (show (Value.slice A13 r5.length c14) = (Value.slice A13 (r5.set (r25.2.1).toNat a1).length c14) by simp)) RV.nil) ⟨_, A13, c14, (((hG8.trans hG19).trans hG28).trans hG67), rfl, (St.pk [] 3 H68 rfl (by decide)), hs69⟩

theorem rules_Turn_ok {c : World} (hc : Hc c) {G : Ghost} {w : World} {σ : List Ent} {a0 : TRule} {v0_ : Value} {a1 : (List TOpt)} {A1_ : Option Addr} {c1_ : Nat} {a2 : Int} {a3 : (List TOpt)} {A3_ : Option Addr} {c3_ : Nat} (h0_ : kTRule.V G v0_ a0) (h1_ : SlR kTOpt G A1_ c1_ a1) (h3_ : SlR kTOpt G A3_ c3_ a3) (H : St c G w (σ)) {r : ((List TOpt) × Bool)} (hF : rules_Turn a0 a1 a2 a3 = some r) :
  Calls Tryd.prog 78 ([v0_, (.slice A1_ a1.length c1_), (.int .u8 a2), (.slice A3_ a3.length c3_)] : List Value).toArray w (Ends fun v w' => ∃ (G' : Ghost) (A1' : Option Addr) (c2' : Nat), GLe G G' ∧ tup [(.slice A1' r.1.length c2'), (.bool r.2)] = v ∧ St c G' w' (σ) ∧ SlR kTOpt G' A1' c2' r.1) := by
 unfold rules_Turn at hF
 refine calls_mk Tryd.func78 rfl rfl rfl ?_
 refine wp_seq (wc_region ?_)
 refine wl_box (K := kTRule) (x := a0) H rfl h0_ ?_
 intro b1 w4 H2
 refine wl_box (K := (Kd.slice kTOpt)) (x := a3) H2 rfl (slice_toV h3_) ?_
 intro b5 w8 H6
 refine wl_rn (rn_pure (.slice none 0 0) rfl) ?_
 refine wl_rn (rn_pure (.bool false) rfl) ?_
 refine wl_nil (then_n (wp_seq (wc_region ?_)))
 refine wl_load H6 (i := 0) rfl (Lens.id (Kd.slice kTOpt)) ty27 rfl ?_
 intro v9 hv10
 obtain ⟨A11, c12, rfl, hs13⟩ := slice_V hv10
 obtain ⟨r14, hr15, hF⟩ := bindS hF
 refine wl_call (vs := [(.slice A11 a3.length c12), (.int .u8 3)]) en39 rfl (opts_Find_ok hc hs13 H6 hr15) ?_
 rintro v20 w19 ⟨G16, v21, hG17, rfl, H18, hv22⟩
 refine wl_rn (rn_pure (.tuple #[v21, (.bool r14.2)]) rfl) ?_
 refine wl_rn (rn_pure v21 rfl) ?_
 refine wl_rn (rn_pure (.bool r14.2) rfl) ?_
 refine wl_alloc H18 zr60 ?_
 intro b23 w26 H24
 refine wl_store (z := r14.1) H24 (i := 0) rfl (Lens.id kTOpt) ty60 rfl rfl hv22 ?_
 intro w28 H27
 refine wl_rn (rn_pure (.bool r14.2) rfl) ?_
 refine wl_nil (then_n (wp_seq (wc_region ?_)))
 refine wl_load H27 (i := 1) rfl (Lens.id (Kd.slice kTOpt)) ty27 rfl ?_
 intro v29 hv30
 obtain ⟨A31, c32, rfl, hs33⟩ := slice_V hv30
 obtain ⟨r34, hr35, hF⟩ := bindS hF
 refine wl_call (vs := [(.slice A31 a3.length c32), (.int .u8 5)]) en39 rfl (opts_Find_ok hc hs33 H27 hr35) ?_
 rintro v40 w39 ⟨G36, v41, hG37, rfl, H38, hv42⟩
 refine wl_rn (rn_pure (.tuple #[v41, (.bool r34.2)]) rfl) ?_
 refine wl_rn (rn_pure v41 rfl) ?_
 refine wl_rn (rn_pure (.bool r34.2) rfl) ?_
 refine wl_alloc H38 zr60 ?_
 intro b43 w46 H44
 refine wl_store (z := r34.1) H44 (i := 0) rfl (Lens.id kTOpt) ty60 rfl rfl hv42 ?_
 intro w48 H47
 refine wl_rn (rn_pure (.bool r34.2) rfl) ?_
 refine wl_nil (then_n (wp_seq (wc_region ?_)))
 refine wl_rn (rn_pure (.slice A1_ a1.length c1_) rfl) ?_
 obtain ⟨r49, hr50, hF⟩ := bindS hF
 refine wl_call (vs := [(.slice A1_ a1.length c1_), (.int .u8 5)]) en39 rfl (opts_Find_ok hc (h1_.mono (hG17.trans hG37)) H47 hr50) ?_
 rintro v55 w54 ⟨G51, v56, hG52, rfl, H53, hv57⟩
 refine wl_rn (rn_pure (.tuple #[v56, (.bool r49.2)]) rfl) ?_
 refine wl_rn (rn_pure v56 rfl) ?_
 refine wl_rn (rn_pure (.bool r49.2) rfl) ?_
 refine wl_alloc H53 zr60 ?_
 intro b58 w61 H59
 refine wl_store (z := r49.1) H59 (i := 0) rfl (Lens.id kTOpt) ty60 rfl rfl hv57 ?_
 intro w63 H62
 refine wl_rn (rn_pure (.bool r49.2) rfl) ?_
 refine wl_nil (then_n ?_)
 refine wp_seq ?_
 refine wp_block ?_
 refine wp_seq (join (fun a w => ∃ (T0 : Fr) (G1 : Ghost) (x65 : Bool), a = mk 66 (upds T0 [(1, (.slice A1_ a1.length c1_)), (2, (.int .u8 a2)), (4, (pt b1)), (7, (pt b5)), (13, (.bool r34.2)), (15, (.bool r49.2)), (31, (.bool x65))]) ∧ GLe G51 G1 ∧ St c G1 w ((.box b5 27 ((Kd.slice kTOpt).at_ a3)) :: (.box b1 26 (kTRule.at_ a0)) :: σ) ∧ rules_Turn_j1 a0 a1 a2 a3 r34 r49 x65 = some r) ?_ ?_)
 ·rintro a w ⟨T0, G68, x65, rfl, hG66, H67, hF⟩
  rcases bcases x65 with hb69 | hb69
  ·replace hF := ifT hF hb69
   refine wc_true (vb hb69) ?_
   refine wp_seq (wc_region ?_)
   iterate 2 refine wl_rn (rn_pure (.slice A1_ a1.length c1_) rfl) ?_
   refine wl_rn (rn_pure (.bool false) rfl) ?_
   refine wl_nil (then_n ?_)
   refine wp_ret ?_
   refine blk_r ?_
   refine then_r ?_
   have hF := Option.some.inj hF
   subst hF
   exact ret_mk rfl (RV.tmp rfl (RV.tmp rfl RV.nil)) ⟨_, A1_, c1_, (((hG17.trans hG37).trans hG52).trans hG66), rfl, (St.pk [] 2 H67 rfl (by decide)), (h1_.mono (((hG17.trans hG37).trans hG52).trans hG66))⟩
  ·replace hF := ifF hF hb69
   refine wc_false (vb hb69) ?_
   refine wp_seq (wc_region ?_)
   refine wl_rn (rn_pure (.int .u8 a2) rfl) ?_
   iterate 2 refine wl_rn (rn_pure (.bool (a2 == 4)) rfl) ?_
   refine wl_nil (then_n ?_)
   rcases bcases (a2 == 4) with hb70 | hb70
   ·replace hF := ifT hF hb70
    refine wc_true (vb hb70) ?_
    refine wp_seq (wc_region ?_)
    refine wl_rn (rn_pure (.slice A1_ a1.length c1_) rfl) ?_
    obtain ⟨r71, hr72, hF⟩ := bindS hF
    refine wl_call (vs := [(.slice A1_ a1.length c1_)]) en90 rfl (slices_Clone_Opt_ok hc (h1_.mono (((hG17.trans hG37).trans hG52).trans hG66)) H67 hr72) ?_
    rintro v77 w76 ⟨G73, g78, A79, c80, hG74, rfl, H75⟩
    refine wl_rn (rn_pure (.func (.func 91) #[] #[(pt b5)]) rfl) ?_
    obtain ⟨r82, hr83, hF⟩ := bindS hF
    refine wl_call (vs := [(.slice A79 r71.length c80), (.func (.func 91) #[] #[(pt b5)])]) en89 rfl (slices_DeleteFunc_Opt_rules_Turn_1_ok hc H75 hr83) ?_
    rintro v88 w87 ⟨G84, g89, A90, c91, hG85, rfl, H86⟩
    refine wl_rn (rn_pure (.slice A90 r82.1.length c91) rfl) ?_
    refine wl_rn (rn_pure (.bool true) rfl) ?_
    refine wl_nil (then_n ?_)
    refine wp_ret ?_
    refine blk_r ?_
    refine then_r ?_
    obtain ⟨G93, hG94, H95, hs96⟩ := H86.stay (i := 0) rfl (H86.capA (i := 0) rfl)
    have hF := Option.some.inj hF
    subst hF
    exact ret_mk rfl (RV.tmp rfl (RV.tmp rfl RV.nil)) ⟨_, A90, c91, ((((((hG17.trans hG37).trans hG52).trans hG66).trans hG74).trans hG85).trans hG94), rfl, (St.pk [] 2 H95 rfl (by decide)), hs96⟩
   ·replace hF := ifF hF hb70
    refine wc_false (vb hb70) ?_
    refine wp_seq (wc_region ?_)
    refine wl_rn (rn_pure (.int .u8 a2) rfl) ?_
    iterate 2 refine wl_rn (rn_pure (.bool (a2 != 3)) rfl) ?_
    refine wl_nil (then_n ?_)
    rcases bcases (a2 != 3) with hb97 | hb97
    ·replace hF := ifT hF hb97
     refine wc_true (vb hb97) ?_
     refine wp_seq (wc_region ?_)
     iterate 2 refine wl_rn (rn_pure (.slice A1_ a1.length c1_) rfl) ?_
     refine wl_rn (rn_pure (.bool false) rfl) ?_
     refine wl_nil (then_n ?_)
     refine wp_ret ?_
     refine blk_r ?_
     refine then_r ?_
     have hF := Option.some.inj hF
     subst hF
     exact ret_mk rfl (RV.tmp rfl (RV.tmp rfl RV.nil)) ⟨_, A1_, c1_, (((hG17.trans hG37).trans hG52).trans hG66), rfl, (St.pk [] 2 H67 rfl (by decide)), (h1_.mono (((hG17.trans hG37).trans hG52).trans hG66))⟩
    ·replace hF := ifF hF hb97
     refine wc_false (vb hb97) ?_
     refine wp_seq (join (fun a w => ∃ (T0 : Fr) (G1 : Ghost) (x100 : Bool), a = mk 66 (upds T0 [(1, (.slice A1_ a1.length c1_)), (4, (pt b1)), (50, (.bool x100))]) ∧ GLe G68 G1 ∧ St c G1 w ((.box b1 26 (kTRule.at_ a0)) :: σ) ∧ rules_Turn_j2 a0 a1 x100 = some r) ?_ ?_)
     ·rintro a w ⟨T0, G103, x100, rfl, hG101, H102, hF⟩
      rcases bcases x100 with hb104 | hb104
      ·replace hF := ifT hF hb104
       refine wc_true (vb hb104) ?_
       refine wp_seq (wc_region ?_)
       refine wl_rn (rn_pure (.slice A1_ a1.length c1_) rfl) ?_
       refine wl_rn (rn_field fo26_2 rfl) ?_
       refine wl_loadd H102 (i := 0) rfl lTRule_Other (dInt .u32) ty24 rfl ?_
       obtain ⟨r105, hr106, hF⟩ := bindS hF
       refine wl_call (vs := [(.int .u8 5), (.int .i64 4), (.int .u32 a0.Other)]) en61 rfl (rules_number_ok hc H102 hr106) ?_
       rintro v111 w110 ⟨G107, v112, hG108, rfl, H109, hv113⟩
       obtain ⟨r114, hr115, hF⟩ := bindS hF
       refine wl_call (vs := [(.slice A1_ a1.length c1_), v112]) en92 rfl (opts_Put_ok hc (h1_.mono (((((hG17.trans hG37).trans hG52).trans hG66).trans hG101).trans hG108)) hv113 H109 hr115) ?_
       rintro v120 w119 ⟨G116, A121, c122, hG117, rfl, H118, hs123⟩
       refine wl_rn (rn_pure (.slice A121 r114.length c122) rfl) ?_
       refine wl_rn (rn_pure (.bool true) rfl) ?_
       refine wl_nil (then_n ?_)
       refine wp_ret ?_
       refine blk_r ?_
       refine then_r ?_
       have hF := Option.some.inj hF
       subst hF
       exact ret_mk rfl (RV.tmp rfl (RV.tmp rfl RV.nil)) ⟨_, A121, c122, ((((((hG17.trans hG37).trans hG52).trans hG66).trans hG101).trans hG108).trans hG117), rfl, (St.pk [] 1 H118 rfl (by decide)), hs123⟩
      ·replace hF := ifF hF hb104
       refine wc_false (vb hb104) ?_
       refine wp_skip ?_
       refine blk_n ?_
       refine then_n ?_
       refine wp_seq (wc_region ?_)
       iterate 2 refine wl_rn (rn_pure (.slice A1_ a1.length c1_) rfl) ?_
       refine wl_rn (rn_pure (.bool true) rfl) ?_
       refine wl_nil (then_n ?_)
       refine wp_ret ?_
       have hF := Option.some.inj hF
       subst hF
       exact ret_mk rfl (RV.tmp rfl (RV.tmp rfl RV.nil)) ⟨_, A1_, c1_, ((((hG17.trans hG37).trans hG52).trans hG66).trans hG101), rfl, (St.pk [] 1 H102 rfl (by decide)), (h1_.mono ((((hG17.trans hG37).trans hG52).trans hG66).trans hG101))⟩
     ·refine wc_region ?_
      refine wl_rn (rn_field fo26_0 rfl) ?_
      refine wl_loadd H67 (i := 1) rfl lTRule_Ip dBool ty4 rfl ?_
      iterate 2 refine wl_rn (rn_pure (.bool (!a0.Ip)) rfl) ?_
      rcases bcases (!a0.Ip) with hb124 | hb124
      ·replace hF := ifT hF hb124
       refine wl_yes rfl rfl rfl (vb hb124) ?_
       refine wl_rn (rn_pure (.bool r34.2) rfl) ?_
       refine wl_rn (rn_pickT (.bool r34.2) (vb hb124) rfl) ?_
       refine wl_rn (rn_pure (.bool r34.2) rfl) ?_
       rcases bcases r34.2 with hb125 | hb125
       ·replace hF := ifT hF hb125
        refine wl_yes rfl rfl rfl (vb hb125) ?_
        refine wl_rn (rn_pure (.bool r49.2) rfl) ?_
        refine wl_rn (rn_pickT (.bool r49.2) (vb hb125) rfl) ?_
        refine wl_rn (rn_pure (.bool r49.2) rfl) ?_
        refine wl_nil (then_n ?_)
        exact ⟨_, _, r49.2, frame_eq _ ⟨rfl, rfl, rfl, trivial⟩, GLe.refl _, (St.pk [1] 2 H67 rfl (by decide)), hF⟩
       ·replace hF := ifF hF hb125
        refine wl_no rfl rfl rfl (vb hb125) ?_
        refine wl_rn (rn_pickF (.bool false) (vb hb125) rfl) ?_
        refine wl_rn (rn_pure (.bool false) rfl) ?_
        refine wl_nil (then_n ?_)
        exact ⟨_, _, false, frame_eq _ ⟨rfl, rfl, rfl, trivial⟩, GLe.refl _, (St.pk [1] 2 H67 rfl (by decide)), hF⟩
      ·replace hF := ifF hF hb124
       refine wl_no rfl rfl rfl (vb hb124) ?_
       refine wl_rn (rn_pickF (.bool false) (vb hb124) rfl) ?_
       refine wl_rn (rn_pure (.bool false) rfl) ?_
       refine wl_no rfl rfl rfl rfl ?_
       refine wl_rn (rn_pickF (.bool false) rfl rfl) ?_
       refine wl_rn (rn_pure (.bool false) rfl) ?_
       refine wl_nil (then_n ?_)
       exact ⟨_, _, false, frame_eq _ ⟨rfl, rfl, rfl, trivial⟩, GLe.refl _, (St.pk [1] 2 H67 rfl (by decide)), hF⟩
 ·refine wc_region ?_
  refine wl_rn (rn_field fo26_0 rfl) ?_
  refine wl_loadd H62 (i := 4) rfl lTRule_Ip dBool ty4 rfl ?_
  iterate 2 refine wl_rn (rn_pure (.bool (!a0.Ip)) rfl) ?_
  rcases bcases (!a0.Ip) with hb126 | hb126
  ·replace hF := ifT hF hb126
   refine wl_yes rfl rfl rfl (vb hb126) ?_
   refine wl_rn (rn_pure (.bool r14.2) rfl) ?_
   refine wl_rn (rn_pickT (.bool r14.2) (vb hb126) rfl) ?_
   refine wl_rn (rn_pure (.bool r14.2) rfl) ?_
   refine wl_nil (then_n ?_)
   exact ⟨_, _, r14.2, frame_eq _ ⟨rfl, rfl, rfl, rfl, rfl, rfl, rfl, trivial⟩, GLe.refl _, (St.pk [3, 4] 5 H62 rfl (by decide)), hF⟩
  ·replace hF := ifF hF hb126
   refine wl_no rfl rfl rfl (vb hb126) ?_
   refine wl_rn (rn_pickF (.bool false) (vb hb126) rfl) ?_
   refine wl_rn (rn_pure (.bool false) rfl) ?_
   refine wl_nil (then_n ?_)
   exact ⟨_, _, false, frame_eq _ ⟨rfl, rfl, rfl, rfl, rfl, rfl, rfl, trivial⟩, GLe.refl _, (St.pk [3, 4] 5 H62 rfl (by decide)), hF⟩

theorem nego_work_nak_ok {c : World} (hc : Hc c) {G : Ghost} {w : World} {σ : List Ent} {b0 : Nat} {x2 : TNego} {x3 : (List TPkt)} {x8 : (List Int)} {x13 : TPkt} {g4 : Option Nat} {A5 : Option Addr} {c6 : Nat} {g9 : Option Nat} {A10 : Option Addr} {c11 : Nat}  (H : St c G w ((.box b0 63 (kTnego_workV.at_ (Tnego_workV.mk x2 (.slice A5 x3.length c6) (.slice A10 x8.length c11) x13))) :: (.row kTPkt g4 A5 c6 32 x3) :: (.row kI g9 A10 c11 3 x8) :: σ)) {r : (TNego × (List TPkt) × (List Int) × TPkt)} (hF : nego_work_nak x2 x3 x8 x13 = some r) :
  Calls Tryd.prog 54 ([(pt b0)] : List Value).toArray w (Ends fun v w' => ∃ (G' : Ghost) (g1' : Option Nat) (A2' : Option Addr) (c3' : Nat) (g4' : Option Nat) (A5' : Option Addr) (c6' : Nat), GLe G G' ∧ tup [] = v ∧ St c G' w' ((.box b0 63 (kTnego_workV.at_ (Tnego_workV.mk r.1 (.slice A2' r.2.1.length c3') (.slice A5' r.2.2.1.length c6') r.2.2.2))) :: (.row kTPkt g1' A2' c3' 32 r.2.1) :: (.row kI g4' A5' c6' 3 r.2.2.1) :: σ)) := by
 unfold nego_work_nak at hF
 refine calls_mk Tryd.func54 rfl rfl rfl ?_
 refine wp_seq (wc_region ?_)
 refine wl_rn (rn_pure (pt b0) rfl) ?_
 refine wl_rn (rn_nilCheck rfl) ?_
 refine wl_rn (rn_field fo63_3 rfl) ?_
 refine wl_rn (rn_field fo32_2 rfl) ?_
 refine wl_load H (i := 0) rfl (Lens.then lTnego_workV_P lTPkt_Data) ty30 rfl ?_
 intro v14 hv15
 obtain ⟨A16, c17, rfl, hs18⟩ := slice_V hv15
 obtain ⟨r19, hr20, hF⟩ := bindS hF
 refine wl_call (vs := [(.slice A16 x13.Data.length c17)]) en74 rfl (opts_Read_ok hc hs18 H hr20) ?_
 rintro v25 w24 ⟨G21, A26, c27, hG22, rfl, H23, hs28⟩
 refine wl_rn (rn_pure (.tuple #[(.slice A26 r19.1.length c27), (.int .i64 r19.2)]) rfl) ?_
 refine wl_rn (rn_pure (.slice A26 r19.1.length c27) rfl) ?_
 refine wl_rn (rn_pure (.int .i64 r19.2) rfl) ?_
 refine wl_rn (rn_pure (.slice A26 r19.1.length c27) rfl) ?_
 refine wl_rn (rn_pure (.int .i64 r19.2) rfl) ?_
 refine wl_nil (then_n ?_)
 refine wp_seq ?_
 refine wp_seq (join (fun a w => ∃ (T0 : Fr) (G1 : Ghost) (x30 : Bool) (x31 : TNego) (x32 : (List TPkt)) (x37 : (List Int)) (x42 : TPkt) (g33 : Option Nat) (A34 : Option Addr) (c35 : Nat) (g38 : Option Nat) (A39 : Option Addr) (c40 : Nat), a = mk 64 (upds T0 [(0, (pt b0)), (2, (.slice A26 r19.1.length c27)), (30, (.bool x30))]) ∧ GLe G21 G1 ∧ St c G1 w ((.box b0 63 (kTnego_workV.at_ (Tnego_workV.mk x31 (.slice A34 x32.length c35) (.slice A39 x37.length c40) x42))) :: (.row kTPkt g33 A34 c35 32 x32) :: (.row kI g38 A39 c40 3 x37) :: σ) ∧ nego_work_nak_j1 r19 x30 x31 x32 x37 x42 = some r) ?_ ?_)
 ·rintro a w ⟨T0, G45, x30, x31, x32, x37, x42, g33, A34, c35, g38, A39, c40, rfl, hG43, H44, hF⟩
  rcases bcases x30 with hb46 | hb46
  ·replace hF := ifT hF hb46
   refine wc_true (vb hb46) ?_
   refine wp_ret ?_
   refine then_r ?_
   have hF := Option.some.inj hF
   subst hF
   exact ret_mk rfl RV.nil ⟨_, g33, A34, c35, g38, A39, c40, (hG22.trans hG43), rfl, H44⟩
  ·replace hF := ifF hF hb46
   refine wc_false (vb hb46) ?_
   refine wp_skip ?_
   refine then_n ?_
   refine wp_seq ?_
   refine wc_anyS (f := 22) H44 mixed ?_
   intro w64 H65
   refine any_pf (by repeat (first | exact PF.base | apply PF.then_ | apply PF.blk)) ?_
   intro hPF hns
   obtain ⟨r73, hr74, hF⟩ := bindS hF
   refine any_memo (fuel := 6) (m := 65535) (fun a w => ∃ (T0 : Fr) (G1 : Ghost) (v130 : Value) (A132 : Option Addr) (c133 : Nat) (A135 : Option Addr) (c136 : Nat), a = mk 64 (upds T0 [(0, (pt b0)), (36, v130), (41, (.slice A132 x31.Ours.length c133)), (46, (.int .u8 x42.Code)), (47, (.slice A135 r19.1.length c136))]) ∧ GLe G45 G1 ∧ St c G1 w ((.box b0 63 (kTnego_workV.at_ (Tnego_workV.mk x31 (.slice A34 x32.length c35) (.slice A39 x37.length c40) x42))) :: (.row kTPkt g33 A34 c35 32 x32) :: (.row kI g38 A39 c40 3 x37) :: σ) ∧ kTRule.V G1 v130 x31.R ∧ SlR kTOpt G1 A132 c133 x31.Ours ∧ SlR kTOpt G1 A135 c136 r19.1) ?_ ?_
   ·rintro a w ⟨T0, G129, v130, A132, c133, A135, c136, rfl, hG127, H128, hv131, hs134, hs137⟩
    refine any_alls [16] ⟨any_ops (m' := 131071) fun Q' hN => ?_, trivial⟩
    refine wl_call (vs := [v130, (.slice A132 x31.Ours.length c133), (.int .u8 x42.Code), (.slice A135 r19.1.length c136)]) en78 rfl (rules_Turn_ok hc hv131 hs134 hs137 H128 hr74) ?_
    rintro v150 w149 ⟨G146, A151, c152, hG147, rfl, H148, hs153⟩
    refine wl_nil (hN _ _ ?_)
    refine any_rn (i := 17) (m' := 262143) rfl (rn_pure (.tuple #[(.slice A151 r73.1.length c152), (.bool r73.2)]) rfl) hPF hns ?_
    refine any_rn (i := 18) (m' := 524287) rfl (rn_pure (.slice A151 r73.1.length c152) rfl) hPF hns ?_
    refine any_rn (i := 19) (m' := 1048575) rfl (rn_pure (.bool r73.2) rfl) hPF hns ?_
    refine any_rn (i := 20) (m' := 2097151) rfl (rn_pure (.slice A151 r73.1.length c152) rfl) hPF hns ?_
    refine any_rn (i := 21) (m' := 4194303) rfl (rn_pure (.bool r73.2) rfl) hPF hns ?_
    refine any_end ?_
    refine then_n ?_
    refine wp_seq ?_
    refine wp_seq (wc_region ?_)
    refine wl_rn (rn_pure (.bool r73.2) rfl) ?_
    refine wl_rn (rn_pure (.bool (!r73.2)) rfl) ?_
    refine wl_nil (then_n ?_)
    rcases bcases (!r73.2) with hb154 | hb154
    ·replace hF := ifT hF hb154
     refine wc_true (vb hb154) ?_
     refine wp_seq (wc_region ?_)
     refine wl_rn (rn_pure (pt b0) rfl) ?_
     refine wl_rnE (rn_build (G := G146) zr32 rfl bs32 rfl (Parts.nil _)) ?_
     intro v155 hv156
     obtain ⟨r157, hr158, hF⟩ := bindS hF
     refine wl_call (vs := [(pt b0), (.int .i64 3), v155]) en30 rfl (nego_work_event_ok hc hv156 H148 hr158) ?_
     rintro v163 w162 ⟨G159, A164, c165, g167, A168, c169, g170, A171, c172, hG160, rfl, H161, hs166⟩
     refine wl_nil (then_n ?_)
     refine wp_ret ?_
     refine then_r ?_
     have hF := Option.some.inj hF
     subst hF
     exact ret_mk rfl RV.nil ⟨_, g167, A168, c169, g170, A171, c172, ((((hG22.trans hG43).trans hG127).trans hG147).trans hG160), rfl, H161⟩
    ·replace hF := ifF hF hb154
     refine wc_false (vb hb154) ?_
     refine wp_skip ?_
     refine then_n ?_
     refine wp_seq (wc_region ?_)
     refine wl_rn (rn_pure (pt b0) rfl) ?_
     refine wl_rn (rn_pure (.slice A151 r73.1.length c152) rfl) ?_
     refine wl_rn (rn_nilCheck rfl) ?_
     refine wl_rn (rn_field fo63_0 rfl) ?_
     refine wl_rn (rn_field fo29_2 rfl) ?_
     refine wl_store (z := r73.1) H148 (i := 0) rfl (Lens.then lTnego_workV_Nego lTNego_Ours) ty27 rfl rfl (slice_toV hs153) ?_
     intro w174 H173
     refine wl_nil (then_n ?_)
     refine wc_region ?_
     refine wl_rn (rn_pure (pt b0) rfl) ?_
     refine wl_rnE (rn_build (G := G146) zr32 rfl bs32 rfl (Parts.nil _)) ?_
     intro v175 hv176
     obtain ⟨r177, hr178, hF⟩ := bindS hF
     refine wl_call (vs := [(pt b0), (.int .i64 9), v175]) en30 rfl (nego_work_event_ok hc hv176 H173 hr178) ?_
     rintro v183 w182 ⟨G179, A184, c185, g187, A188, c189, g190, A191, c192, hG180, rfl, H181, hs186⟩
     refine wl_nil ?_
     have hF := Option.some.inj hF
     subst hF
     exact end_mk rfl RV.nil ⟨_, g187, A188, c189, g190, A191, c192, ((((hG22.trans hG43).trans hG127).trans hG147).trans hG180), rfl, H181⟩
   intro hM126
   refine any_memo (fuel := 7) (m := 65519) (fun a w => ∃ (T0 : Fr) (G1 : Ghost) (A120 : Option Addr) (c121 : Nat) (A123 : Option Addr) (c124 : Nat), a = mk 64 (upds T0 [(0, (pt b0)), (35, (pu b0 4)), (41, (.slice A120 x31.Ours.length c121)), (46, (.int .u8 x42.Code)), (47, (.slice A123 r19.1.length c124))]) ∧ GLe G45 G1 ∧ St c G1 w ((.box b0 63 (kTnego_workV.at_ (Tnego_workV.mk x31 (.slice A34 x32.length c35) (.slice A39 x37.length c40) x42))) :: (.row kTPkt g33 A34 c35 32 x32) :: (.row kI g38 A39 c40 3 x37) :: σ) ∧ SlR kTOpt G1 A120 c121 x31.Ours ∧ SlR kTOpt G1 A123 c124 r19.1) ?_ ?_
   ·rintro a w ⟨T0, G119, A120, c121, A123, c124, rfl, hG117, H118, hs122, hs125⟩
    refine any_alls [4] ⟨any_ops (m' := 65535) fun Q' hN => ?_, trivial⟩
    refine wl_load H118 (i := 0) rfl (Lens.then lTnego_workV_Nego lTNego_R) ty26 rfl ?_
    intro v193 hv194
    refine wl_nil (hN _ _ ?_)
    exact hM126 _ _ ⟨_, _, v193, A120, c121, A123, c124, frame_eq _ ⟨rfl, rfl, rfl, rfl, rfl, trivial⟩, hG117, H118, hv194, hs122, hs125⟩
   intro hM116
   refine any_memo (fuel := 7) (m := 65023) (fun a w => ∃ (T0 : Fr) (G1 : Ghost) (v111 : Value) (A113 : Option Addr) (c114 : Nat), a = mk 64 (upds T0 [(0, (pt b0)), (36, v111), (40, (pu b0 9)), (46, (.int .u8 x42.Code)), (47, (.slice A113 r19.1.length c114))]) ∧ GLe G45 G1 ∧ St c G1 w ((.box b0 63 (kTnego_workV.at_ (Tnego_workV.mk x31 (.slice A34 x32.length c35) (.slice A39 x37.length c40) x42))) :: (.row kTPkt g33 A34 c35 32 x32) :: (.row kI g38 A39 c40 3 x37) :: σ) ∧ kTRule.V G1 v111 x31.R ∧ SlR kTOpt G1 A113 c114 r19.1) ?_ ?_
   ·rintro a w ⟨T0, G110, v111, A113, c114, rfl, hG108, H109, hv112, hs115⟩
    refine any_alls [9] ⟨any_ops (m' := 65535) fun Q' hN => ?_, trivial⟩
    refine wl_load H109 (i := 0) rfl (Lens.then lTnego_workV_Nego lTNego_Ours) ty27 rfl ?_
    intro v195 hv196
    obtain ⟨A197, c198, rfl, hs199⟩ := slice_V hv196
    refine wl_nil (hN _ _ ?_)
    exact hM126 _ _ ⟨_, _, v111, A197, c198, A113, c114, frame_eq _ ⟨rfl, rfl, rfl, rfl, rfl, trivial⟩, hG108, H109, hv112, hs199, hs115⟩
   intro hM107
   refine any_memo (fuel := 7) (m := 49151) (fun a w => ∃ (T0 : Fr) (G1 : Ghost) (v99 : Value) (A101 : Option Addr) (c102 : Nat) (A104 : Option Addr) (c105 : Nat), a = mk 64 (upds T0 [(0, (pt b0)), (36, v99), (41, (.slice A101 x31.Ours.length c102)), (45, (pu b0 14)), (47, (.slice A104 r19.1.length c105))]) ∧ GLe G45 G1 ∧ St c G1 w ((.box b0 63 (kTnego_workV.at_ (Tnego_workV.mk x31 (.slice A34 x32.length c35) (.slice A39 x37.length c40) x42))) :: (.row kTPkt g33 A34 c35 32 x32) :: (.row kI g38 A39 c40 3 x37) :: σ) ∧ kTRule.V G1 v99 x31.R ∧ SlR kTOpt G1 A101 c102 x31.Ours ∧ SlR kTOpt G1 A104 c105 r19.1) ?_ ?_
   ·rintro a w ⟨T0, G98, v99, A101, c102, A104, c105, rfl, hG96, H97, hv100, hs103, hs106⟩
    refine any_alls [14] ⟨any_ops (m' := 65535) fun Q' hN => ?_, trivial⟩
    refine wl_loadd H97 (i := 0) rfl (Lens.then lTnego_workV_P lTPkt_Code) (dInt .u8) ty5 rfl ?_
    refine wl_nil (hN _ _ ?_)
    exact hM126 _ _ ⟨_, _, v99, A101, c102, A104, c105, frame_eq _ ⟨rfl, rfl, rfl, rfl, rfl, trivial⟩, hG96, H97, hv100, hs103, hs106⟩
   intro hM95
   refine any_rn (i := 0) (m' := 1) rfl (rn_pure (pt b0) rfl) hPF hns ?_
   refine any_rn (i := 1) (m' := 3) rfl (rn_nilCheck rfl) hPF hns ?_
   refine any_rn (i := 2) (m' := 7) rfl (rn_field fo63_0 rfl) hPF hns ?_
   refine any_rn (i := 3) (m' := 15) rfl (rn_field fo29_1 rfl) hPF hns ?_
   refine any_rn (i := 5) (m' := 47) rfl (rn_pure (pt b0) rfl) hPF hns ?_
   refine any_rn (i := 6) (m' := 111) rfl (rn_nilCheck rfl) hPF hns ?_
   refine any_rn (i := 7) (m' := 239) rfl (rn_field fo63_0 rfl) hPF hns ?_
   refine any_rn (i := 8) (m' := 495) rfl (rn_field fo29_2 rfl) hPF hns ?_
   refine any_rn (i := 10) (m' := 1519) rfl (rn_pure (pt b0) rfl) hPF hns ?_
   refine any_rn (i := 11) (m' := 3567) rfl (rn_nilCheck rfl) hPF hns ?_
   refine any_rn (i := 12) (m' := 7663) rfl (rn_field fo63_3 rfl) hPF hns ?_
   refine any_rn (i := 13) (m' := 15855) rfl (rn_field fo32_0 rfl) hPF hns ?_
   refine any_rn (i := 15) (m' := 48623) rfl (rn_pure (.slice A26 r19.1.length c27) rfl) hPF hns ?_
   refine any_alls [4, 9, 14] ⟨?_, ?_, ?_, trivial⟩
   ·refine any_ops (m' := 48639) fun Q' hN => ?_
    refine wl_load H65 (i := 0) rfl (Lens.then lTnego_workV_Nego lTNego_R) ty26 rfl ?_
    intro v200 hv201
    refine wl_nil (hN _ _ ?_)
    refine any_alls [9, 14] ⟨?_, ?_, trivial⟩
    ·refine any_ops (m' := 49151) fun Q' hN => ?_
     refine wl_load H65 (i := 0) rfl (Lens.then lTnego_workV_Nego lTNego_Ours) ty27 rfl ?_
     intro v202 hv203
     obtain ⟨A204, c205, rfl, hs206⟩ := slice_V hv203
     refine wl_nil (hN _ _ ?_)
     exact hM95 _ _ ⟨_, _, v200, A204, c205, A26, c27, frame_eq _ ⟨rfl, rfl, rfl, rfl, rfl, trivial⟩, GLe.refl _, H65, hv201, hs206, (hs28.mono hG43)⟩
    ·refine any_ops (m' := 65023) fun Q' hN => ?_
     refine wl_loadd H65 (i := 0) rfl (Lens.then lTnego_workV_P lTPkt_Code) (dInt .u8) ty5 rfl ?_
     refine wl_nil (hN _ _ ?_)
     exact hM107 _ _ ⟨_, _, v200, A26, c27, frame_eq _ ⟨rfl, rfl, rfl, rfl, rfl, trivial⟩, GLe.refl _, H65, hv201, (hs28.mono hG43)⟩
   ·refine any_ops (m' := 49135) fun Q' hN => ?_
    refine wl_load H65 (i := 0) rfl (Lens.then lTnego_workV_Nego lTNego_Ours) ty27 rfl ?_
    intro v207 hv208
    obtain ⟨A209, c210, rfl, hs211⟩ := slice_V hv208
    refine wl_nil (hN _ _ ?_)
    refine any_alls [4, 14] ⟨?_, ?_, trivial⟩
    ·refine any_ops (m' := 49151) fun Q' hN => ?_
     refine wl_load H65 (i := 0) rfl (Lens.then lTnego_workV_Nego lTNego_R) ty26 rfl ?_
     intro v212 hv213
     refine wl_nil (hN _ _ ?_)
     exact hM95 _ _ ⟨_, _, v212, A209, c210, A26, c27, frame_eq _ ⟨rfl, rfl, rfl, rfl, rfl, trivial⟩, GLe.refl _, H65, hv213, hs211, (hs28.mono hG43)⟩
    ·refine any_ops (m' := 65519) fun Q' hN => ?_
     refine wl_loadd H65 (i := 0) rfl (Lens.then lTnego_workV_P lTPkt_Code) (dInt .u8) ty5 rfl ?_
     refine wl_nil (hN _ _ ?_)
     exact hM116 _ _ ⟨_, _, A209, c210, A26, c27, frame_eq _ ⟨rfl, rfl, rfl, rfl, rfl, trivial⟩, GLe.refl _, H65, hs211, (hs28.mono hG43)⟩
   ·refine any_ops (m' := 65007) fun Q' hN => ?_
    refine wl_loadd H65 (i := 0) rfl (Lens.then lTnego_workV_P lTPkt_Code) (dInt .u8) ty5 rfl ?_
    refine wl_nil (hN _ _ ?_)
    refine any_alls [4, 9] ⟨?_, ?_, trivial⟩
    ·refine any_ops (m' := 65023) fun Q' hN => ?_
     refine wl_load H65 (i := 0) rfl (Lens.then lTnego_workV_Nego lTNego_R) ty26 rfl ?_
     intro v214 hv215
     refine wl_nil (hN _ _ ?_)
     exact hM107 _ _ ⟨_, _, v214, A26, c27, frame_eq _ ⟨rfl, rfl, rfl, rfl, rfl, trivial⟩, GLe.refl _, H65, hv215, (hs28.mono hG43)⟩
    ·refine any_ops (m' := 65519) fun Q' hN => ?_
     refine wl_load H65 (i := 0) rfl (Lens.then lTnego_workV_Nego lTNego_Ours) ty27 rfl ?_
     intro v216 hv217
     obtain ⟨A218, c219, rfl, hs220⟩ := slice_V hv217
     refine wl_nil (hN _ _ ?_)
     exact hM116 _ _ ⟨_, _, A218, c219, A26, c27, frame_eq _ ⟨rfl, rfl, rfl, rfl, rfl, trivial⟩, GLe.refl _, H65, hs220, (hs28.mono hG43)⟩
 ·refine wc_anyS (f := 16) H23 mixed ?_
  intro w221 H222
  refine any_pf (by repeat (first | exact PF.base | apply PF.then_ | apply PF.blk)) ?_
  intro hPF hns
  rcases bcases (x13.Id != x2.A.Id) with hb223 | hb223
  ·replace hF := ifT hF hb223
   refine any_memo (fuel := 5) (m := 2047) (fun a w => ∃ (T0 : Fr) (G1 : Ghost), a = mk 64 (upds T0 [(0, (pt b0)), (2, (.slice A26 r19.1.length c27)), (3, (.int .i64 r19.2)), (19, (.int .u8 x13.Id)), (25, (.int .u8 x2.A.Id))]) ∧ GLe G21 G1 ∧ St c G1 w ((.box b0 63 (kTnego_workV.at_ (Tnego_workV.mk x2 (.slice A5 x3.length c6) (.slice A10 x8.length c11) x13))) :: (.row kTPkt g4 A5 c6 32 x3) :: (.row kI g9 A10 c11 3 x8) :: σ)) ?_ ?_
   ·rintro a w ⟨T0, G227, rfl, hG225, H226⟩
    refine any_rn (i := 11) (m' := 4095) rfl (rn_pure (.bool (x13.Id != x2.A.Id)) rfl) hPF hns ?_
    refine any_rn (i := 12) (m' := 8191) rfl (rn_pure (.bool (x13.Id != x2.A.Id)) rfl) hPF hns ?_
    refine any_offG (i := 13) (m' := 16383) 27 false rfl (vb hb223) hPF hns ?_
    refine any_offG (i := 14) (m' := 32767) 27 false rfl (vb hb223) hPF hns ?_
    refine any_rn (i := 15) (m' := 65535) rfl (rn_pickT (.bool true) (vb hb223) rfl) hPF hns ?_
    refine any_end ?_
    refine then_n ?_
    exact ⟨_, _, true, x2, x3, x8, x13, g4, A5, c6, g9, A10, c11, frame_eq _ ⟨rfl, rfl, rfl, trivial⟩, hG225, H226, hF⟩
   intro hM224
   refine any_rn (i := 0) (m' := 1) rfl (rn_pure (pt b0) rfl) hPF hns ?_
   refine any_rn (i := 1) (m' := 3) rfl (rn_nilCheck rfl) hPF hns ?_
   refine any_rn (i := 2) (m' := 7) rfl (rn_field fo63_3 rfl) hPF hns ?_
   refine any_rn (i := 3) (m' := 15) rfl (rn_field fo32_1 rfl) hPF hns ?_
   refine any_rn (i := 5) (m' := 47) rfl (rn_pure (pt b0) rfl) hPF hns ?_
   refine any_rn (i := 6) (m' := 111) rfl (rn_nilCheck rfl) hPF hns ?_
   refine any_rn (i := 7) (m' := 239) rfl (rn_field fo63_0 rfl) hPF hns ?_
   refine any_rn (i := 8) (m' := 495) rfl (rn_field fo29_0 rfl) hPF hns ?_
   refine any_rn (i := 9) (m' := 1007) rfl (rn_field fo23_3 rfl) hPF hns ?_
   refine any_alls [4, 10] ⟨?_, ?_, trivial⟩
   ·refine any_ops (m' := 1023) fun Q' hN => ?_
    refine wl_loadd H222 (i := 0) rfl (Lens.then lTnego_workV_P lTPkt_Id) (dInt .u8) ty5 rfl ?_
    refine wl_nil (hN _ _ ?_)
    refine any_alls [10] ⟨any_ops (m' := 2047) fun Q' hN => ?_, trivial⟩
    refine wl_loadd H222 (i := 0) rfl (Lens.then (Lens.then lTnego_workV_Nego lTNego_A) lTAuto_Id) (dInt .u8) ty5 rfl ?_
    refine wl_nil (hN _ _ ?_)
    exact hM224 _ _ ⟨_, _, frame_eq _ ⟨rfl, rfl, rfl, rfl, rfl, trivial⟩, GLe.refl _, H222⟩
   ·refine any_ops (m' := 2031) fun Q' hN => ?_
    refine wl_loadd H222 (i := 0) rfl (Lens.then (Lens.then lTnego_workV_Nego lTNego_A) lTAuto_Id) (dInt .u8) ty5 rfl ?_
    refine wl_nil (hN _ _ ?_)
    refine any_alls [4] ⟨any_ops (m' := 2047) fun Q' hN => ?_, trivial⟩
    refine wl_loadd H222 (i := 0) rfl (Lens.then lTnego_workV_P lTPkt_Id) (dInt .u8) ty5 rfl ?_
    refine wl_nil (hN _ _ ?_)
    exact hM224 _ _ ⟨_, _, frame_eq _ ⟨rfl, rfl, rfl, rfl, rfl, trivial⟩, GLe.refl _, H222⟩
  ·replace hF := ifF hF hb223
   refine any_memo (fuel := 5) (m := 2047) (fun a w => ∃ (T0 : Fr) (G1 : Ghost), a = mk 64 (upds T0 [(0, (pt b0)), (2, (.slice A26 r19.1.length c27)), (3, (.int .i64 r19.2)), (19, (.int .u8 x13.Id)), (25, (.int .u8 x2.A.Id))]) ∧ GLe G21 G1 ∧ St c G1 w ((.box b0 63 (kTnego_workV.at_ (Tnego_workV.mk x2 (.slice A5 x3.length c6) (.slice A10 x8.length c11) x13))) :: (.row kTPkt g4 A5 c6 32 x3) :: (.row kI g9 A10 c11 3 x8) :: σ)) ?_ ?_
   ·rintro a w ⟨T0, G231, rfl, hG229, H230⟩
    refine any_rn (i := 11) (m' := 4095) rfl (rn_pure (.bool (x13.Id != x2.A.Id)) rfl) hPF hns ?_
    refine any_rn (i := 12) (m' := 8191) rfl (rn_pure (.bool (x13.Id != x2.A.Id)) rfl) hPF hns ?_
    refine any_rnG 27 false (i := 13) (m' := 16383) rfl (rn_pure (.int .i64 r19.2) rfl) (vb hb223) hPF hns ?_
    refine any_rnG 27 false (i := 14) (m' := 32767) rfl (rn_pure (.bool (r19.2 != 0)) rfl) (vb hb223) hPF hns ?_
    refine any_rn (i := 15) (m' := 65535) rfl (rn_pickF (.bool (r19.2 != 0)) (vb hb223) rfl) hPF hns ?_
    refine any_end ?_
    refine then_n ?_
    exact ⟨_, _, (r19.2 != 0), x2, x3, x8, x13, g4, A5, c6, g9, A10, c11, frame_eq _ ⟨rfl, rfl, rfl, trivial⟩, hG229, H230, hF⟩
   intro hM228
   refine any_rn (i := 0) (m' := 1) rfl (rn_pure (pt b0) rfl) hPF hns ?_
   refine any_rn (i := 1) (m' := 3) rfl (rn_nilCheck rfl) hPF hns ?_
   refine any_rn (i := 2) (m' := 7) rfl (rn_field fo63_3 rfl) hPF hns ?_
   refine any_rn (i := 3) (m' := 15) rfl (rn_field fo32_1 rfl) hPF hns ?_
   refine any_rn (i := 5) (m' := 47) rfl (rn_pure (pt b0) rfl) hPF hns ?_
   refine any_rn (i := 6) (m' := 111) rfl (rn_nilCheck rfl) hPF hns ?_
   refine any_rn (i := 7) (m' := 239) rfl (rn_field fo63_0 rfl) hPF hns ?_
   refine any_rn (i := 8) (m' := 495) rfl (rn_field fo29_0 rfl) hPF hns ?_
   refine any_rn (i := 9) (m' := 1007) rfl (rn_field fo23_3 rfl) hPF hns ?_
   refine any_alls [4, 10] ⟨?_, ?_, trivial⟩
   ·refine any_ops (m' := 1023) fun Q' hN => ?_
    refine wl_loadd H222 (i := 0) rfl (Lens.then lTnego_workV_P lTPkt_Id) (dInt .u8) ty5 rfl ?_
    refine wl_nil (hN _ _ ?_)
    refine any_alls [10] ⟨any_ops (m' := 2047) fun Q' hN => ?_, trivial⟩
    refine wl_loadd H222 (i := 0) rfl (Lens.then (Lens.then lTnego_workV_Nego lTNego_A) lTAuto_Id) (dInt .u8) ty5 rfl ?_
    refine wl_nil (hN _ _ ?_)
    exact hM228 _ _ ⟨_, _, frame_eq _ ⟨rfl, rfl, rfl, rfl, rfl, trivial⟩, GLe.refl _, H222⟩
   ·refine any_ops (m' := 2031) fun Q' hN => ?_
    refine wl_loadd H222 (i := 0) rfl (Lens.then (Lens.then lTnego_workV_Nego lTNego_A) lTAuto_Id) (dInt .u8) ty5 rfl ?_
    refine wl_nil (hN _ _ ?_)
    refine any_alls [4] ⟨any_ops (m' := 2047) fun Q' hN => ?_, trivial⟩
    refine wl_loadd H222 (i := 0) rfl (Lens.then lTnego_workV_P lTPkt_Id) (dInt .u8) ty5 rfl ?_
    refine wl_nil (hN _ _ ?_)
    exact hM228 _ _ ⟨_, _, frame_eq _ ⟨rfl, rfl, rfl, rfl, rfl, trivial⟩, GLe.refl _, H222⟩

theorem nego_work_term_ok {c : World} (hc : Hc c) {G : Ghost} {w : World} {σ : List Ent} {b0 : Nat} {x2 : TNego} {x3 : (List TPkt)} {x8 : (List Int)} {x13 : TPkt} {g4 : Option Nat} {A5 : Option Addr} {c6 : Nat} {g9 : Option Nat} {A10 : Option Addr} {c11 : Nat}  (H : St c G w ((.box b0 63 (kTnego_workV.at_ (Tnego_workV.mk x2 (.slice A5 x3.length c6) (.slice A10 x8.length c11) x13))) :: (.row kTPkt g4 A5 c6 32 x3) :: (.row kI g9 A10 c11 3 x8) :: σ)) {r : (TNego × (List TPkt) × (List Int) × TPkt)} (hF : nego_work_term x2 x3 x8 x13 = some r) :
  Calls Tryd.prog 55 ([(pt b0)] : List Value).toArray w (Ends fun v w' => ∃ (G' : Ghost) (g1' : Option Nat) (A2' : Option Addr) (c3' : Nat) (g4' : Option Nat) (A5' : Option Addr) (c6' : Nat), GLe G G' ∧ tup [] = v ∧ St c G' w' ((.box b0 63 (kTnego_workV.at_ (Tnego_workV.mk r.1 (.slice A2' r.2.1.length c3') (.slice A5' r.2.2.1.length c6') r.2.2.2))) :: (.row kTPkt g1' A2' c3' 32 r.2.1) :: (.row kI g4' A5' c6' 3 r.2.2.1) :: σ)) := by
 unfold nego_work_term at hF
 refine calls_mk Tryd.func55 rfl rfl rfl ?_
 refine wc_region ?_
 refine wl_rn (rn_pure (pt b0) rfl) ?_
 refine wl_rnE (rn_build (G := G) zr32 rfl bs32 rfl (Parts.nil _)) ?_
 intro v14 hv15
 obtain ⟨r16, hr17, hF⟩ := bindS hF
 refine wl_call (vs := [(pt b0), (.int .i64 10), v14]) en30 rfl (nego_work_event_ok hc hv15 H hr17) ?_
 rintro v22 w21 ⟨G18, A23, c24, g26, A27, c28, g29, A30, c31, hG19, rfl, H20, hs25⟩
 refine wl_nil ?_
 have hF := Option.some.inj hF
 subst hF
 exact end_mk rfl RV.nil ⟨_, g26, A27, c28, g29, A30, c31, hG19, rfl, H20⟩

theorem nego_work_termed_ok {c : World} (hc : Hc c) {G : Ghost} {w : World} {σ : List Ent} {b0 : Nat} {x2 : TNego} {x3 : (List TPkt)} {x8 : (List Int)} {x13 : TPkt} {g4 : Option Nat} {A5 : Option Addr} {c6 : Nat} {g9 : Option Nat} {A10 : Option Addr} {c11 : Nat}  (H : St c G w ((.box b0 63 (kTnego_workV.at_ (Tnego_workV.mk x2 (.slice A5 x3.length c6) (.slice A10 x8.length c11) x13))) :: (.row kTPkt g4 A5 c6 32 x3) :: (.row kI g9 A10 c11 3 x8) :: σ)) {r : (TNego × (List TPkt) × (List Int) × TPkt)} (hF : nego_work_termed x2 x3 x8 x13 = some r) :
  Calls Tryd.prog 56 ([(pt b0)] : List Value).toArray w (Ends fun v w' => ∃ (G' : Ghost) (g1' : Option Nat) (A2' : Option Addr) (c3' : Nat) (g4' : Option Nat) (A5' : Option Addr) (c6' : Nat), GLe G G' ∧ tup [] = v ∧ St c G' w' ((.box b0 63 (kTnego_workV.at_ (Tnego_workV.mk r.1 (.slice A2' r.2.1.length c3') (.slice A5' r.2.2.1.length c6') r.2.2.2))) :: (.row kTPkt g1' A2' c3' 32 r.2.1) :: (.row kI g4' A5' c6' 3 r.2.2.1) :: σ)) := by
 unfold nego_work_termed at hF
 refine calls_mk Tryd.func56 rfl rfl rfl ?_
 refine wc_region ?_
 refine wl_rn (rn_pure (pt b0) rfl) ?_
 refine wl_rnE (rn_build (G := G) zr32 rfl bs32 rfl (Parts.nil _)) ?_
 intro v14 hv15
 obtain ⟨r16, hr17, hF⟩ := bindS hF
 refine wl_call (vs := [(pt b0), (.int .i64 11), v14]) en30 rfl (nego_work_event_ok hc hv15 H hr17) ?_
 rintro v22 w21 ⟨G18, A23, c24, g26, A27, c28, g29, A30, c31, hG19, rfl, H20, hs25⟩
 refine wl_nil ?_
 have hF := Option.some.inj hF
 subst hF
 exact end_mk rfl RV.nil ⟨_, g26, A27, c28, g29, A30, c31, hG19, rfl, H20⟩

theorem nego_work_rejected_ok {c : World} (hc : Hc c) {G : Ghost} {w : World} {σ : List Ent} {b0 : Nat} {x2 : TNego} {x3 : (List TPkt)} {x8 : (List Int)} {x13 : TPkt} {g4 : Option Nat} {A5 : Option Addr} {c6 : Nat} {g9 : Option Nat} {A10 : Option Addr} {c11 : Nat} {a1 : Bool}  (H : St c G w ((.box b0 63 (kTnego_workV.at_ (Tnego_workV.mk x2 (.slice A5 x3.length c6) (.slice A10 x8.length c11) x13))) :: (.row kTPkt g4 A5 c6 32 x3) :: (.row kI g9 A10 c11 3 x8) :: σ)) {r : (TNego × (List TPkt) × (List Int) × TPkt)} (hF : nego_work_rejected x2 x3 x8 x13 a1 = some r) :
  Calls Tryd.prog 79 ([(pt b0), (.bool a1)] : List Value).toArray w (Ends fun v w' => ∃ (G' : Ghost) (g1' : Option Nat) (A2' : Option Addr) (c3' : Nat) (g4' : Option Nat) (A5' : Option Addr) (c6' : Nat), GLe G G' ∧ tup [] = v ∧ St c G' w' ((.box b0 63 (kTnego_workV.at_ (Tnego_workV.mk r.1 (.slice A2' r.2.1.length c3') (.slice A5' r.2.2.1.length c6') r.2.2.2))) :: (.row kTPkt g1' A2' c3' 32 r.2.1) :: (.row kI g4' A5' c6' 3 r.2.2.1) :: σ)) := by
 unfold nego_work_rejected at hF
 refine calls_mk Tryd.func79 rfl rfl rfl ?_
 refine wp_seq ?_
 refine wp_seq (wc_region ?_)
 refine wl_rn (rn_pure (.bool a1) rfl) ?_
 refine wl_nil (then_n ?_)
 rcases bcases a1 with hb14 | hb14
 ·replace hF := ifT hF hb14
  refine wc_true (vb hb14) ?_
  refine wp_seq (wc_region ?_)
  refine wl_rn (rn_pure (pt b0) rfl) ?_
  refine wl_rnE (rn_build (G := G) zr32 rfl bs32 rfl (Parts.nil _)) ?_
  intro v15 hv16
  obtain ⟨r17, hr18, hF⟩ := bindS hF
  refine wl_call (vs := [(pt b0), (.int .i64 13), v15]) en30 rfl (nego_work_event_ok hc hv16 H hr18) ?_
  rintro v23 w22 ⟨G19, A24, c25, g27, A28, c29, g30, A31, c32, hG20, rfl, H21, hs26⟩
  refine wl_nil (then_n ?_)
  refine wp_ret ?_
  refine then_r ?_
  have hF := Option.some.inj hF
  subst hF
  exact ret_mk rfl RV.nil ⟨_, g27, A28, c29, g30, A31, c32, hG20, rfl, H21⟩
 ·replace hF := ifF hF hb14
  refine wc_false (vb hb14) ?_
  refine wp_skip ?_
  refine then_n ?_
  refine wc_region ?_
  refine wl_rn (rn_pure (pt b0) rfl) ?_
  refine wl_rnE (rn_build (G := G) zr32 rfl bs32 rfl (Parts.nil _)) ?_
  intro v33 hv34
  obtain ⟨r35, hr36, hF⟩ := bindS hF
  refine wl_call (vs := [(pt b0), (.int .i64 14), v33]) en30 rfl (nego_work_event_ok hc hv34 H hr36) ?_
  rintro v41 w40 ⟨G37, A42, c43, g45, A46, c47, g48, A49, c50, hG38, rfl, H39, hs44⟩
  refine wl_nil ?_
  have hF := Option.some.inj hF
  subst hF
  exact end_mk rfl RV.nil ⟨_, g45, A46, c47, g48, A49, c50, hG38, rfl, H39⟩

theorem nego_work_code_ok {c : World} (hc : Hc c) {G : Ghost} {w : World} {σ : List Ent} {b0 : Nat} {x2 : TNego} {x3 : (List TPkt)} {x8 : (List Int)} {x13 : TPkt} {g4 : Option Nat} {A5 : Option Addr} {c6 : Nat} {g9 : Option Nat} {A10 : Option Addr} {c11 : Nat}  (H : St c G w ((.box b0 63 (kTnego_workV.at_ (Tnego_workV.mk x2 (.slice A5 x3.length c6) (.slice A10 x8.length c11) x13))) :: (.row kTPkt g4 A5 c6 32 x3) :: (.row kI g9 A10 c11 3 x8) :: σ)) {r : (TNego × (List TPkt) × (List Int) × TPkt)} (hF : nego_work_code x2 x3 x8 x13 = some r) :
  Calls Tryd.prog 57 ([(pt b0)] : List Value).toArray w (Ends fun v w' => ∃ (G' : Ghost) (g1' : Option Nat) (A2' : Option Addr) (c3' : Nat) (g4' : Option Nat) (A5' : Option Addr) (c6' : Nat), GLe G G' ∧ tup [] = v ∧ St c G' w' ((.box b0 63 (kTnego_workV.at_ (Tnego_workV.mk r.1 (.slice A2' r.2.1.length c3') (.slice A5' r.2.2.1.length c6') r.2.2.2))) :: (.row kTPkt g1' A2' c3' 32 r.2.1) :: (.row kI g4' A5' c6' 3 r.2.2.1) :: σ)) := by
 unfold nego_work_code at hF
 refine calls_mk Tryd.func57 rfl rfl rfl ?_
 refine wp_seq (wc_region ?_)
 refine wl_rn (rn_pure (pt b0) rfl) ?_
 refine wl_rn (rn_nilCheck rfl) ?_
 refine wl_rn (rn_field fo63_3 rfl) ?_
 refine wl_rn (rn_field fo32_2 rfl) ?_
 refine wl_load H (i := 0) rfl (Lens.then lTnego_workV_P lTPkt_Data) ty30 rfl ?_
 intro v14 hv15
 obtain ⟨A16, c17, rfl, hs18⟩ := slice_V hv15
 refine wl_rn (rn_pure (.slice A16 x13.Data.length c17) rfl) ?_
 refine wl_nil (then_n ?_)
 refine wc_region ?_
 refine wl_rn (rn_pure (pt b0) rfl) ?_
 refine wl_rn (rn_pure (.slice A16 x13.Data.length c17) rfl) ?_
 refine wl_rn (rn_len sl30 rfl) ?_
 iterate 2 refine wl_rn (rn_pure (.bool ((x13.Data.length : Int) == 0)) rfl) ?_
 rcases bcases ((x13.Data.length : Int) == 0) with hb19 | hb19
 ·replace hF := ifT hF hb19
  iterate 4 refine wl_no rfl rfl rfl (vb hb19) ?_
  refine wl_rn (rn_pickT (.bool true) (vb hb19) rfl) ?_
  refine wl_rn (rn_pure (.bool true) rfl) ?_
  iterate 4 refine wl_no rfl rfl rfl rfl ?_
  refine wl_rn (rn_pickT (.bool true) rfl rfl) ?_
  obtain ⟨r20, hr21, hF⟩ := bindS hF
  refine wl_call (vs := [(pt b0), (.bool true)]) en79 rfl (nego_work_rejected_ok hc H hr21) ?_
  rintro v26 w25 ⟨G22, g27, A28, c29, g30, A31, c32, hG23, rfl, H24⟩
  refine wl_nil ?_
  have hF := Option.some.inj hF
  subst hF
  exact end_mk rfl RV.nil ⟨_, g27, A28, c29, g30, A31, c32, hG23, rfl, H24⟩
 ·replace hF := ifF hF hb19
  refine wl_yes rfl rfl rfl (vb hb19) ?_
  refine wl_rn (rn_pure (.slice A16 x13.Data.length c17) rfl) ?_
  refine wl_yes rfl rfl rfl (vb hb19) ?_
  obtain ⟨x33, hx34, hF⟩ := bindS hF
  refine wl_rnE (rn_index hs18 sl30 ty5 rfl rfl hx34) ?_
  intro a35 hp36
  refine wl_yes rfl rfl rfl (vb hb19) ?_
  refine wl_loadpd H hp36 (dInt .u8) ty5 rfl ?_
  refine wl_yes rfl rfl rfl (vb hb19) ?_
  refine wl_rn (rn_pure (.bool (decide (x33 < 1))) rfl) ?_
  refine wl_rn (rn_pickF (.bool (decide (x33 < 1))) (vb hb19) rfl) ?_
  refine wl_rn (rn_pure (.bool (decide (x33 < 1))) rfl) ?_
  rcases bcases (decide (x33 < 1)) with hb37 | hb37
  ·replace hF := ifT hF hb37
   iterate 4 refine wl_no rfl rfl rfl (vb hb37) ?_
   refine wl_rn (rn_pickT (.bool true) (vb hb37) rfl) ?_
   obtain ⟨r38, hr39, hF⟩ := bindS hF
   refine wl_call (vs := [(pt b0), (.bool true)]) en79 rfl (nego_work_rejected_ok hc H hr39) ?_
   rintro v44 w43 ⟨G40, g45, A46, c47, g48, A49, c50, hG41, rfl, H42⟩
   refine wl_nil ?_
   have hF := Option.some.inj hF
   subst hF
   exact end_mk rfl RV.nil ⟨_, g45, A46, c47, g48, A49, c50, hG41, rfl, H42⟩
  ·replace hF := ifF hF hb37
   refine wl_yes rfl rfl rfl (vb hb37) ?_
   refine wl_rn (rn_pure (.slice A16 x13.Data.length c17) rfl) ?_
   refine wl_yes rfl rfl rfl (vb hb37) ?_
   obtain ⟨x51, hx52, hF⟩ := bindS hF
   refine wl_rnE (rn_index hs18 sl30 ty5 rfl rfl hx52) ?_
   intro a53 hp54
   refine wl_yes rfl rfl rfl (vb hb37) ?_
   refine wl_loadpd H hp54 (dInt .u8) ty5 rfl ?_
   refine wl_yes rfl rfl rfl (vb hb37) ?_
   refine wl_rn (rn_pure (.bool (decide (x51 > 7))) rfl) ?_
   refine wl_rn (rn_pickF (.bool (decide (x51 > 7))) (vb hb37) rfl) ?_
   obtain ⟨r55, hr56, hF⟩ := bindS hF
   refine wl_call (vs := [(pt b0), (.bool (decide (x51 > 7)))]) en79 rfl (nego_work_rejected_ok hc H hr56) ?_
   rintro v61 w60 ⟨G57, g62, A63, c64, g65, A66, c67, hG58, rfl, H59⟩
   refine wl_nil ?_
   have hF := Option.some.inj hF
   subst hF
   exact end_mk rfl RV.nil ⟨_, g62, A63, c64, g65, A66, c67, hG58, rfl, H59⟩

theorem bytes_HasPrefix_ok {c : World} (hc : Hc c) {G : Ghost} {w : World} {σ : List Ent} {a0 : (List Int)} {A0_ : Option Addr} {c0_ : Nat} {a1 : (List Int)} {A1_ : Option Addr} {c1_ : Nat} (h0_ : SlR kB G A0_ c0_ a0) (h1_ : SlR kB G A1_ c1_ a1) (H : St c G w (σ)) {r : Bool} (hF : bytes_HasPrefix a0 a1 = some r) :
  Calls Tryd.prog 80 ([(.slice A0_ a0.length c0_), (.slice A1_ a1.length c1_)] : List Value).toArray w (Ends fun v w' => ∃ (G' : Ghost), GLe G G' ∧ tup [(.bool r)] = v ∧ St c G' w' (σ)) := by
 unfold bytes_HasPrefix at hF
 refine calls_mk Tryd.func80 rfl rfl rfl ?_
 refine wp_seq (wc_region ?_)
 refine wl_rn (rn_pure (.bool false) rfl) ?_
 refine wl_nil (then_n (wp_seq (wc_region ?_)))
 refine wl_rn (rn_pure (.slice A0_ a0.length c0_) rfl) ?_
 refine wl_rn (rn_len sl30 rfl) ?_
 refine wl_rn (rn_pure (.slice A1_ a1.length c1_) rfl) ?_
 refine wl_rn (rn_len sl30 rfl) ?_
 iterate 2 refine wl_rn (rn_pure (.bool (decide ((a0.length : Int) ≥ (a1.length : Int)))) rfl) ?_
 rcases bcases (decide ((a0.length : Int) ≥ (a1.length : Int))) with hb1 | hb1
 ·replace hF := ifT hF hb1
  refine wl_yes rfl rfl rfl (vb hb1) ?_
  refine wl_rn (rn_pure (.slice A0_ a0.length c0_) rfl) ?_
  refine wl_yes rfl rfl rfl (vb hb1) ?_
  refine wl_rn (rn_pure (.slice A1_ a1.length c1_) rfl) ?_
  refine wl_yes rfl rfl rfl (vb hb1) ?_
  refine wl_rn (rn_len sl30 rfl) ?_
  refine wl_yes rfl rfl rfl (vb hb1) ?_
  obtain ⟨r2, hr3, hF⟩ := bindS hF
  refine wl_rnE (rn_cut (lo := none) (hi := (some (a1.length : Int))) h0_ sl30 ty5 rfl trivial ⟨_, rfl⟩ hr3) ?_
  intro z4 hs5
  refine wl_yes rfl rfl rfl (vb hb1) ?_
  refine wl_rn (rn_pure (.slice A1_ a1.length c1_) rfl) ?_
  refine wl_yes rfl rfl rfl (vb hb1) ?_
  obtain ⟨r6, hr7, hF⟩ := bindS hF
  refine wl_call (vs := [(.slice z4.1 r2.length z4.2), (.slice A1_ a1.length c1_)]) en68 rfl (bytes_Equal_ok hc hs5 h1_ H hr7) ?_
  rintro v12 w11 ⟨G8, hG9, rfl, H10⟩
  refine wl_rn (rn_pickT (.bool r6) (vb hb1) rfl) ?_
  refine wl_rn (rn_pure (.bool r6) rfl) ?_
  refine wl_nil (then_n ?_)
  refine wp_ret ?_
  have hF := Option.some.inj hF
  subst hF
  exact ret_mk rfl (RV.tmp rfl RV.nil) ⟨_, hG9, rfl, H10⟩
 ·replace hF := ifF hF hb1
  iterate 6 refine wl_no rfl rfl rfl (vb hb1) ?_
  refine wl_rn (rn_pickF (.bool false) (vb hb1) rfl) ?_
  refine wl_rn (rn_pure (.bool false) rfl) ?_
  refine wl_nil (then_n ?_)
  refine wp_ret ?_
  have hF := Option.some.inj hF
  subst hF
  exact ret_mk rfl (RV.tmp rfl RV.nil) ⟨_, GLe.refl _, rfl, H⟩

theorem nego_work_proto_ok {c : World} (hc : Hc c) {G : Ghost} {w : World} {σ : List Ent} {b0 : Nat} {x2 : TNego} {x3 : (List TPkt)} {x8 : (List Int)} {x13 : TPkt} {g4 : Option Nat} {A5 : Option Addr} {c6 : Nat} {g9 : Option Nat} {A10 : Option Addr} {c11 : Nat}  (H : St c G w ((.box b0 63 (kTnego_workV.at_ (Tnego_workV.mk x2 (.slice A5 x3.length c6) (.slice A10 x8.length c11) x13))) :: (.row kTPkt g4 A5 c6 32 x3) :: (.row kI g9 A10 c11 3 x8) :: σ)) {r : (TNego × (List TPkt) × (List Int) × TPkt)} (hF : nego_work_proto x2 x3 x8 x13 = some r) :
  Calls Tryd.prog 58 ([(pt b0)] : List Value).toArray w (Ends fun v w' => ∃ (G' : Ghost) (g1' : Option Nat) (A2' : Option Addr) (c3' : Nat) (g4' : Option Nat) (A5' : Option Addr) (c6' : Nat), GLe G G' ∧ tup [] = v ∧ St c G' w' ((.box b0 63 (kTnego_workV.at_ (Tnego_workV.mk r.1 (.slice A2' r.2.1.length c3') (.slice A5' r.2.2.1.length c6') r.2.2.2))) :: (.row kTPkt g1' A2' c3' 32 r.2.1) :: (.row kI g4' A5' c6' 3 r.2.2.1) :: σ)) := by
 unfold nego_work_proto at hF
 refine calls_mk Tryd.func58 rfl rfl rfl ?_
 refine wc_region ?_
 iterate 2 refine wl_rn (rn_pure (pt b0) rfl) ?_
 refine wl_rn (rn_nilCheck rfl) ?_
 refine wl_rn (rn_field fo63_3 rfl) ?_
 refine wl_rn (rn_field fo32_2 rfl) ?_
 refine wl_load H (i := 0) rfl (Lens.then lTnego_workV_P lTPkt_Data) ty30 rfl ?_
 intro v14 hv15
 obtain ⟨A16, c17, rfl, hs18⟩ := slice_V hv15
 refine wl_lit (K := kB) (vs := [(.int .u8 192), (.int .u8 33)]) (xs := ([192, 33] : (List Int))) H sl30 el5 rfl ⟨((dInt .u8).toV _ _), ((dInt .u8).toV _ _), trivial⟩ rfl (by decide) ?_
 intro g19 w21 H20
 obtain ⟨G23, hG24, H25, hs26⟩ := H20.stay (i := 0) rfl (H20.capA (i := 0) rfl)
 obtain ⟨r27, hr28, hF⟩ := bindS hF
 refine wl_call (vs := [(.slice A16 x13.Data.length c17), (.slice (some ⟨g19, 0, none⟩) ([192, 33] : (List Int)).length 2)]) en80 rfl (bytes_HasPrefix_ok hc (hs18.mono hG24) hs26 H25 hr28) ?_
 rintro v33 w32 ⟨G29, hG30, rfl, H31⟩
 refine wl_rn (rn_pure (.bool (!r27)) rfl) ?_
 obtain ⟨r34, hr35, hF⟩ := bindS hF
 refine wl_call (vs := [(pt b0), (.bool (!r27))]) en79 rfl (nego_work_rejected_ok hc H31 hr35) ?_
 rintro v40 w39 ⟨G36, g41, A42, c43, g44, A45, c46, hG37, rfl, H38⟩
 refine wl_nil ?_
 have hF := Option.some.inj hF
 subst hF
 exact end_mk rfl RV.nil ⟨_, g41, A42, c43, g44, A45, c46, ((hG24.trans hG30).trans hG37), rfl, H38⟩

theorem nego_Magic_ok {c : World} (hc : Hc c) {G : Ghost} {w : World} {σ : List Ent} {a0 : TNego} {v0_ : Value} (h0_ : kTNego.V G v0_ a0) (H : St c G w (σ)) {r : Int} (hF : nego_Magic a0 = some r) :
  Calls Tryd.prog 24 ([v0_] : List Value).toArray w (Ends fun v w' => ∃ (G' : Ghost), GLe G G' ∧ tup [(.int .u32 r)] = v ∧ St c G' w' (σ)) := by
 unfold nego_Magic at hF
 refine calls_mk Tryd.func24 rfl rfl rfl ?_
 refine wp_seq (wc_region ?_)
 refine wl_box (K := kTNego) (x := a0) H rfl h0_ ?_
 intro b1 w4 H2
 refine wl_rn (rn_pure (.int .u32 0) rfl) ?_
 refine wl_nil (then_n (wp_seq (wc_region ?_)))
 refine wl_rn (rn_field fo29_2 rfl) ?_
 refine wl_load H2 (i := 0) rfl lTNego_Ours ty27 rfl ?_
 intro v5 hv6
 obtain ⟨A7, c8, rfl, hs9⟩ := slice_V hv6
 obtain ⟨r10, hr11, hF⟩ := bindS hF
 refine wl_call (vs := [(.slice A7 a0.Ours.length c8), (.int .u8 5)]) en39 rfl (opts_Find_ok hc hs9 H2 hr11) ?_
 rintro v16 w15 ⟨G12, v17, hG13, rfl, H14, hv18⟩
 refine wl_rn (rn_pure (.tuple #[v17, (.bool r10.2)]) rfl) ?_
 refine wl_rn (rn_pure v17 rfl) ?_
 refine wl_rn (rn_pure (.bool r10.2) rfl) ?_
 refine wl_alloc H14 zr60 ?_
 intro b19 w22 H20
 refine wl_store (z := r10.1) H20 (i := 0) rfl (Lens.id kTOpt) ty60 rfl rfl hv18 ?_
 intro w24 H23
 refine wl_rn (rn_pure (.bool r10.2) rfl) ?_
 refine wl_nil (then_n ?_)
 refine wp_seq ?_
 refine wp_seq (wc_region ?_)
 refine wl_rn (rn_field fo29_1 rfl) ?_
 refine wl_rn (rn_field fo26_0 rfl) ?_
 refine wl_loadd H23 (i := 1) rfl (Lens.then lTNego_R lTRule_Ip) dBool ty4 rfl ?_
 refine wl_nil (then_n ?_)
 rcases bcases a0.R.Ip with hb25 | hb25
 ·replace hF := ifT hF hb25
  refine wc_true (vb hb25) ?_
  refine wp_seq (wc_region ?_)
  refine wl_rn (rn_pure (.int .u32 0) rfl) ?_
  refine wl_nil (then_n ?_)
  refine wp_ret ?_
  refine then_r ?_
  have hF := Option.some.inj hF
  subst hF
  exact ret_mk rfl (RV.tmp rfl RV.nil) ⟨_, hG13, rfl, (St.pk [] 2 H23 rfl (by decide))⟩
 ·replace hF := ifF hF hb25
  refine wc_false (vb hb25) ?_
  refine wp_skip ?_
  refine then_n ?_
  refine wp_seq (wc_region ?_)
  refine wl_rn (rn_field fo60_1 rfl) ?_
  refine wl_load H23 (i := 0) rfl lTOpt_Data ty30 rfl ?_
  intro v26 hv27
  obtain ⟨A28, c29, rfl, hs30⟩ := slice_V hv27
  obtain ⟨r31, hr32, hF⟩ := bindS hF
  refine wl_call (vs := [(.slice A28 r10.1.Data.length c29)]) en40 rfl (opts_Number_ok hc hs30 H23 hr32) ?_
  rintro v37 w36 ⟨G33, hG34, rfl, H35⟩
  refine wl_rn (rn_pure (.int .u32 r31) rfl) ?_
  refine wl_nil (then_n ?_)
  refine wp_ret ?_
  have hF := Option.some.inj hF
  subst hF
  exact ret_mk rfl (RV.tmp rfl RV.nil) ⟨_, (hG13.trans hG34), rfl, (St.pk [] 2 H35 rfl (by decide))⟩
end Go.Proofs.YtadlndnagfnlgaaDoor.W
