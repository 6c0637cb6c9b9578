/- Calls come to what the plain functions say: written by a program (gen.py). -/
import Derived.Test.YtadlndnagfnlgaaDoorG
import Derived.Test.YtadlndnagfnlgaaDoorF0
import Derived.Test.YtadlndnagfnlgaaDoorF3
import Derived.Test.YtadlndnagfnlgaaDoorF4
set_option linter.unusedVariables false
set_option maxRecDepth 20000
namespace Go.Proofs.YtadlndnagfnlgaaDoor.W
open Go
set_option maxHeartbeats 4000000
attribute [local irreducible] wpList wpAny Code.wp wpListIn wpAnyIn Code.wpIn
theorem portreevelaw14_agree_ok {c : World} (hc : Hc c) {G : Ghost} {w : World} {σ : List Ent} {a0 : TNego} {v0_ : Value} {a1 : TNego} {v1_ : Value} (h0_ : kTNego.V G v0_ a0) (h1_ : kTNego.V G v1_ a1) (H : St c G w (σ)) {r : Bool} (hF : portreevelaw14_agree a0 a1 = some r) :
  Calls Tryd.prog 21 ([v0_, v1_] : List Value).toArray w (Ends fun v w' => ∃ (G' : Ghost), GLe G G' ∧ tup [(.bool r)] = v ∧ St c G' w' (σ)) := by
 unfold portreevelaw14_agree at hF
 refine calls_mk Tryd.func21 rfl rfl rfl ?_
 refine wp_seq (wc_region ?_)
 refine wl_box (K := kTNego) (x := a0) H rfl h0_ ?_
 intro b1 w4 H2
 refine wl_box (K := kTNego) (x := a1) H2 rfl h1_ ?_
 intro b5 w8 H6
 refine wl_rn (rn_pure (.bool false) rfl) ?_
 refine wl_nil (then_n ?_)
 refine wp_seq ?_
 refine wp_seq (wc_region ?_)
 refine wl_rn (rn_pure (.int .i64 0) rfl) ?_
 refine wl_nil (then_n ?_)
 refine wp_block ?_
 refine wp_loopX (fun (s : (Int × TNego × TNego)) a w => ∃ (T0 : Fr) (G1 : Ghost), a = mk 95 (upds T0 [(2, (pt b1)), (3, (pt b5)), (5, (.int .i64 s.1))]) ∧ GLe G G1 ∧ St c G1 w ((.box b5 29 (kTNego.at_ s.2.1)) :: (.box b1 29 (kTNego.at_ s.2.2)) :: σ)) hF ?_ ?_
 ·exact ⟨_, _, frame_eq _ ⟨rfl, rfl, rfl, trivial⟩, GLe.refl _, H6⟩
 ·rintro ⟨x2102, x2103, x2104⟩ a w y2107 ⟨T0, G2108, rfl, hG2105, H2106⟩ hF hy9
  refine wp_seq ?_
  refine wp_seq (wc_region ?_)
  refine wl_rn (rn_pure (.int .i64 x2102) rfl) ?_
  refine wl_rn (rn_pure (.bool (decide (x2102 < 12))) rfl) ?_
  refine wl_nil (then_n ?_)
  rcases bcases (decide (x2102 < 12)) with hb2109 | hb2109
  ·replace hF := ifT hF hb2109
   refine wc_true (vb hb2109) ?_
   refine wp_skip ?_
   refine then_n ?_
   refine wp_seq ?_
   refine wp_block ?_
   refine wp_seq (wc_region ?_)
   refine wl_load H2106 (i := 1) rfl (Lens.id kTNego) ty29 rfl ?_
   intro v2110 hv2111
   obtain ⟨r2112, hr2113, hF⟩ := bindS hF
   refine wl_call (vs := [v2110]) en12 rfl (nego_Tick_ok hc hv2111 H2106 hr2113) ?_
   rintro v2118 w2117 ⟨G2114, v2119, A2121, c2122, A2124, c2125, hG2115, rfl, H2116, hv2120, hs2123, hs2126⟩
   refine wl_rn (rn_pure (.tuple #[v2119, (.slice A2121 r2112.2.1.length c2122), (.slice A2124 r2112.2.2.length c2125)]) rfl) ?_
   refine wl_rn (rn_pure v2119 rfl) ?_
   refine wl_rn (rn_pure (.slice A2121 r2112.2.1.length c2122) rfl) ?_
   refine wl_rn (rn_pure (.slice A2124 r2112.2.2.length c2125) rfl) ?_
   refine wl_alloc H2116 zr29 ?_
   intro b2127 w2130 H2128
   refine wl_store (z := r2112.1) H2128 (i := 0) rfl (Lens.id kTNego) ty29 rfl rfl hv2120 ?_
   intro w2132 H2131
   refine wl_rn (rn_pure (.slice A2121 r2112.2.1.length c2122) rfl) ?_
   refine wl_rn (rn_pure (.slice A2124 r2112.2.2.length c2125) rfl) ?_
   refine wl_nil (then_n (wp_seq (wc_region ?_)))
   refine wl_load H2131 (i := 1) rfl (Lens.id kTNego) ty29 rfl ?_
   intro v2133 hv2134
   obtain ⟨r2135, hr2136, hF⟩ := bindS hF
   refine wl_call (vs := [v2133]) en12 rfl (nego_Tick_ok hc hv2134 H2131 hr2136) ?_
   rintro v2141 w2140 ⟨G2137, v2142, A2144, c2145, A2147, c2148, hG2138, rfl, H2139, hv2143, hs2146, hs2149⟩
   refine wl_rn (rn_pure (.tuple #[v2142, (.slice A2144 r2135.2.1.length c2145), (.slice A2147 r2135.2.2.length c2148)]) rfl) ?_
   refine wl_rn (rn_pure v2142 rfl) ?_
   refine wl_rn (rn_pure (.slice A2144 r2135.2.1.length c2145) rfl) ?_
   refine wl_rn (rn_pure (.slice A2147 r2135.2.2.length c2148) rfl) ?_
   refine wl_alloc H2139 zr29 ?_
   intro b2150 w2153 H2151
   refine wl_store (z := r2135.1) H2151 (i := 0) rfl (Lens.id kTNego) ty29 rfl rfl hv2143 ?_
   intro w2155 H2154
   refine wl_rn (rn_pure (.slice A2144 r2135.2.1.length c2145) rfl) ?_
   refine wl_rn (rn_pure (.slice A2147 r2135.2.2.length c2148) rfl) ?_
   refine wl_nil (then_n (wp_seq (wc_region ?_)))
   refine wl_load H2154 (i := 1) rfl (Lens.id kTNego) ty29 rfl ?_
   intro v2156 hv2157
   refine wl_store (z := r2112.1) H2154 (i := 3) rfl (Lens.id kTNego) ty29 rfl rfl hv2157 ?_
   intro w2159 H2158
   refine wl_nil (then_n (wp_seq (wc_region ?_)))
   refine wl_load H2158 (i := 0) rfl (Lens.id kTNego) ty29 rfl ?_
   intro v2160 hv2161
   refine wl_store (z := r2135.1) H2158 (i := 2) rfl (Lens.id kTNego) ty29 rfl rfl hv2161 ?_
   intro w2163 H2162
   refine wl_nil (then_n (wp_seq (wc_region ?_)))
   refine wl_rn (rn_pure (.int .i64 0) rfl) ?_
   refine wl_nil (then_n ?_)
   refine wp_block ?_
   refine wp_loopX (fun (s : ((List TPkt) × (List TPkt) × Int × TNego × TNego)) a w => ∃ (T0 : Fr) (G1 : Ghost) (A3152 : Option Addr) (c3153 : Nat) (A3156 : Option Addr) (c3157 : Nat), a = mk 95 (upds T0 [(2, (pt b1)), (3, (pt b5)), (5, (.int .i64 x2102)), (7, (.slice A3152 s.1.length c3153)), (10, (.slice A3156 s.2.1.length c3157)), (12, (.int .i64 s.2.2.1))]) ∧ GLe G2137 G1 ∧ St c G1 w ((.box b5 29 (kTNego.at_ s.2.2.2.1)) :: (.box b1 29 (kTNego.at_ s.2.2.2.2)) :: σ) ∧ SlR kTPkt G1 A3152 c3153 s.1 ∧ SlR kTPkt G1 A3156 c3157 s.2.1) hF ?_ ?_
   ·exact ⟨_, _, A2121, c2122, A2144, c2145, frame_eq _ ⟨rfl, rfl, rfl, rfl, rfl, rfl, trivial⟩, GLe.refl _, (St.pk [2, 3] 4 H2162 rfl (by decide)), (hs2123.mono hG2138), hs2146⟩
   ·rintro ⟨x3151, x3155, x3159, x3160, x3161⟩ a w y3164 ⟨T0, G3165, A3152, c3153, A3156, c3157, rfl, hG3162, H3163, hs3154, hs3158⟩ hF hy2164
    refine wp_seq ?_
    refine wp_seq (wc_region ?_)
    refine wl_rn (rn_pure (.int .i64 x3159) rfl) ?_
    refine wl_rn (rn_pure (.bool (decide (x3159 < 6))) rfl) ?_
    refine wl_nil (then_n ?_)
    rcases bcases (decide (x3159 < 6)) with hb3166 | hb3166
    ·replace hF := ifT hF hb3166
     refine wc_true (vb hb3166) ?_
     refine wp_skip ?_
     refine then_n ?_
     refine wp_seq ?_
     refine wp_block ?_
     refine wp_seq (wc_region ?_)
     refine wl_rn (rn_pure (.slice none 0 0) rfl) ?_
     refine wl_nil (then_n ?_)
     refine wp_seq ?_
     refine wp_seq (wc_region ?_)
     refine wl_rn (rn_pure (.int .i64 0) rfl) ?_
     refine wl_nil (then_n ?_)
     refine wp_block ?_
     have H4351 := H3163.nilrow kTPkt none 32
     refine wp_loopX (fun (s : ((List TPkt) × Int × TNego)) a w => ∃ (T0 : Fr) (G1 : Ghost) (g3665 : Option Nat) (A3666 : Option Addr) (c3667 : Nat), a = mk 95 (upds T0 [(2, (pt b1)), (3, (pt b5)), (5, (.int .i64 x2102)), (7, (.slice A3152 x3151.length c3153)), (10, (.slice A3156 x3155.length c3157)), (12, (.int .i64 x3159)), (13, (.slice A3666 s.1.length c3667)), (14, (.int .i64 s.2.1))]) ∧ GLe G3165 G1 ∧ St c G1 w ((.row kTPkt g3665 A3666 c3667 32 s.1) :: (.box b5 29 (kTNego.at_ s.2.2)) :: (.box b1 29 (kTNego.at_ x3161)) :: σ)) hF ?_ ?_
     ·exact ⟨_, _, none, none, 0, frame_eq _ ⟨rfl, rfl, rfl, rfl, rfl, rfl, rfl, rfl, trivial⟩, GLe.refl _, H4351⟩
     ·rintro ⟨x3664, x3669, x3670⟩ a w y3673 ⟨T0, G3674, g3665, A3666, c3667, rfl, hG3671, H3672⟩ hF hy3167
      refine wp_seq ?_
      refine wp_seq (wc_region ?_)
      refine wl_rn (rn_pure (.int .i64 x3669) rfl) ?_
      refine wl_rn (rn_pure (.slice A3152 x3151.length c3153) rfl) ?_
      refine wl_rn (rn_len sl35 rfl) ?_
      refine wl_rn (rn_pure (.bool (decide (x3669 < (x3151.length : Int)))) rfl) ?_
      refine wl_nil (then_n ?_)
      rcases bcases (decide (x3669 < (x3151.length : Int))) with hb3675 | hb3675
      ·replace hF := ifT hF hb3675
       refine wc_true (vb hb3675) ?_
       refine wp_skip ?_
       refine then_n ?_
       refine wp_seq ?_
       refine wp_block ?_
       refine wp_seq ?_
       refine wc_anyS (f := 14) H3672 mixed ?_
       intro w3705 H3706
       refine any_pf (by repeat (first | exact PF.base | apply PF.then_ | apply PF.blk)) ?_
       intro hPF hns
       obtain ⟨x3709, hx3710, hF⟩ := bindS hF
       obtain ⟨r3715, hr3716, hF⟩ := bindS hF
       refine any_memo (fuel := 3) (m := 2047) (fun a w => ∃ (T0 : Fr) (G1 : Ghost) (b3827 : Nat) (v3828 : Value) (A3830 : Option Addr) (c3831 : Nat) (A3833 : Option Addr) (c3834 : Nat), a = mk 95 (upds T0 [(2, (pt b1)), (3, (pt b5)), (5, (.int .i64 x2102)), (7, (.slice A3152 x3151.length c3153)), (10, (.slice A3156 x3155.length c3157)), (12, (.int .i64 x3159)), (13, (.slice A3666 x3664.length c3667)), (14, (.int .i64 x3669)), (15, (pt b3827)), (57, v3828), (58, (.slice A3830 r3715.2.1.length c3831)), (59, (.slice A3833 r3715.2.2.length c3834))]) ∧ GLe G3674 G1 ∧ St c G1 w ((.box b1 29 (kTNego.at_ x3161)) :: (.box b5 29 (kTNego.at_ x3670)) :: (.row kTPkt g3665 A3666 c3667 32 x3664) :: (.box b3827 29 (kTNego.at_ zTNego)) :: σ) ∧ kTNego.V G1 v3828 r3715.1 ∧ SlR kTPkt G1 A3830 c3831 r3715.2.1 ∧ SlR kI G1 A3833 c3834 r3715.2.2) ?_ ?_
       ·rintro a w ⟨T0, G3826, b3827, v3828, A3830, c3831, A3833, c3834, rfl, hG3824, H3825, hv3829, hs3832, hs3835⟩
        refine any_alls [11] ⟨any_ops (m' := 4095) fun Q' hN => ?_, trivial⟩
        refine wl_store (z := r3715.1) H3825 (i := 3) rfl (Lens.id kTNego) ty29 rfl rfl hv3829 ?_
        intro w3839 H3838
        refine wl_nil (hN _ _ ?_)
        refine any_rn (i := 12) (m' := 8191) rfl (rn_pure (.slice A3830 r3715.2.1.length c3831) rfl) hPF hns ?_
        refine any_rn (i := 13) (m' := 16383) rfl (rn_pure (.slice A3833 r3715.2.2.length c3834) rfl) hPF hns ?_
        refine any_end ?_
        refine then_n ?_
        refine wp_seq (wc_region ?_)
        refine wl_load H3838 (i := 3) rfl (Lens.id kTNego) ty29 rfl ?_
        intro v3840 hv3841
        refine wl_store (z := r3715.1) H3838 (i := 1) rfl (Lens.id kTNego) ty29 rfl rfl hv3841 ?_
        intro w3843 H3842
        refine wl_nil (then_n ?_)
        refine wc_region ?_
        refine wl_rn (rn_pure (.slice A3666 x3664.length c3667) rfl) ?_
        refine wl_rn (rn_pure (.slice A3830 r3715.2.1.length c3831) rfl) ?_
        obtain ⟨r3844, hr3845, hF⟩ := bindS hF
        refine wl_append H3842 sl35 el32 (i := 2) rfl rfl rfl (hs3832.src H3842.ag) hr3845 ?_
        intro g3846 A3847 c3848 w3849 H3850
        refine wl_rn (rn_pure (.slice A3847 r3844.length c3848) rfl) ?_
        refine wl_nil (blk_n ?_)
        refine then_n ?_
        refine wc_region ?_
        refine wl_rn (rn_pure (.int .i64 x3669) rfl) ?_
        iterate 2 refine wl_rn (rn_pure (.int .i64 (IntKind.i64.wrap (x3669 + 1))) rfl) ?_
        refine wl_nil (then_n ?_)
        exact ⟨_, (Option.some.inj hF).symm, _, _, g3846, A3847, c3848, frame_eq _ ⟨rfl, rfl, rfl, rfl, rfl, rfl, rfl, rfl, trivial⟩, (hG3671.trans hG3824), (St.pk [2, 1, 0] 4 H3850 rfl (by decide))⟩
       intro hM3823
       refine any_memo (fuel := 8) (m := 1055) (fun a w => ∃ (T0 : Fr) (G1 : Ghost) (b3801 : Nat) (v3802 : Value) (v3804 : Value), a = mk 95 (upds T0 [(2, (pt b1)), (3, (pt b5)), (5, (.int .i64 x2102)), (7, (.slice A3152 x3151.length c3153)), (10, (.slice A3156 x3155.length c3157)), (12, (.int .i64 x3159)), (13, (.slice A3666 x3664.length c3667)), (14, (.int .i64 x3669)), (15, (pt b3801)), (51, v3802), (55, v3804)]) ∧ GLe G3674 G1 ∧ St c G1 w ((.box b1 29 (kTNego.at_ x3161)) :: (.box b5 29 (kTNego.at_ x3670)) :: (.row kTPkt g3665 A3666 c3667 32 x3664) :: (.box b3801 29 (kTNego.at_ zTNego)) :: σ) ∧ kTNego.V G1 v3802 x3670 ∧ kTPkt.V G1 v3804 x3709) ?_ ?_
       ·rintro a w ⟨T0, G3800, b3801, v3802, v3804, rfl, hG3798, H3799, hv3803, hv3805⟩
        refine any_alls [5] ⟨any_ops (m' := 1087) fun Q' hN => ?_, trivial⟩
        refine wl_call (vs := [v3802, v3804]) en13 rfl (nego_Take_ok hc hv3803 hv3805 H3799 hr3716) ?_
        rintro v3855 w3854 ⟨G3851, v3856, A3858, c3859, A3861, c3862, hG3852, rfl, H3853, hv3857, hs3860, hs3863⟩
        refine wl_nil (hN _ _ ?_)
        refine any_rn (i := 6) (m' := 1151) rfl (rn_pure (.tuple #[v3856, (.slice A3858 r3715.2.1.length c3859), (.slice A3861 r3715.2.2.length c3862)]) rfl) hPF hns ?_
        refine any_rn (i := 7) (m' := 1279) rfl (rn_pure v3856 rfl) hPF hns ?_
        refine any_rn (i := 8) (m' := 1535) rfl (rn_pure (.slice A3858 r3715.2.1.length c3859) rfl) hPF hns ?_
        refine any_rn (i := 9) (m' := 2047) rfl (rn_pure (.slice A3861 r3715.2.2.length c3862) rfl) hPF hns ?_
        exact hM3823 _ _ ⟨_, _, b3801, v3856, A3858, c3859, A3861, c3862, frame_eq _ ⟨rfl, rfl, rfl, rfl, rfl, rfl, rfl, rfl, rfl, rfl, rfl, rfl, trivial⟩, (hG3798.trans hG3852), H3853, hv3857, hs3860, hs3863⟩
       intro hM3797
       refine any_memo (fuel := 9) (m := 1054) (fun a w => ∃ (T0 : Fr) (G1 : Ghost) (b3794 : Nat) (v3795 : Value), a = mk 95 (upds T0 [(2, (pt b1)), (3, (pt b5)), (5, (.int .i64 x2102)), (7, (.slice A3152 x3151.length c3153)), (10, (.slice A3156 x3155.length c3157)), (12, (.int .i64 x3159)), (13, (.slice A3666 x3664.length c3667)), (14, (.int .i64 x3669)), (15, (pt b3794)), (55, v3795)]) ∧ GLe G3674 G1 ∧ St c G1 w ((.box b1 29 (kTNego.at_ x3161)) :: (.box b5 29 (kTNego.at_ x3670)) :: (.row kTPkt g3665 A3666 c3667 32 x3664) :: (.box b3794 29 (kTNego.at_ zTNego)) :: σ) ∧ kTPkt.V G1 v3795 x3709) ?_ ?_
       ·rintro a w ⟨T0, G3793, b3794, v3795, rfl, hG3791, H3792, hv3796⟩
        refine any_alls [0] ⟨any_ops (m' := 1055) fun Q' hN => ?_, trivial⟩
        refine wl_load H3792 (i := 1) rfl (Lens.id kTNego) ty29 rfl ?_
        intro v3864 hv3865
        refine wl_nil (hN _ _ ?_)
        exact hM3797 _ _ ⟨_, _, b3794, v3864, v3795, frame_eq _ ⟨rfl, rfl, rfl, rfl, rfl, rfl, rfl, rfl, rfl, rfl, rfl, trivial⟩, hG3791, H3792, hv3865, hv3796⟩
       intro hM3790
       refine any_memo (fuel := 9) (m := 1039) (fun a w => ∃ (T0 : Fr) (G1 : Ghost) (b3785 : Nat) (v3786 : Value) (a3788 : Addr), a = mk 95 (upds T0 [(2, (pt b1)), (3, (pt b5)), (5, (.int .i64 x2102)), (7, (.slice A3152 x3151.length c3153)), (10, (.slice A3156 x3155.length c3157)), (12, (.int .i64 x3159)), (13, (.slice A3666 x3664.length c3667)), (14, (.int .i64 x3669)), (15, (pt b3785)), (51, v3786), (54, (.pointer (some a3788)))]) ∧ GLe G3674 G1 ∧ St c G1 w ((.box b1 29 (kTNego.at_ x3161)) :: (.box b5 29 (kTNego.at_ x3670)) :: (.row kTPkt g3665 A3666 c3667 32 x3664) :: (.box b3785 29 (kTNego.at_ zTNego)) :: σ) ∧ kTNego.V G1 v3786 x3670 ∧ PtR kTPkt G1 a3788 x3709) ?_ ?_
       ·rintro a w ⟨T0, G3784, b3785, v3786, a3788, rfl, hG3782, H3783, hv3787, hp3789⟩
        refine any_alls [4] ⟨any_ops (m' := 1055) fun Q' hN => ?_, trivial⟩
        refine wl_loadp H3783 hp3789 ty32 rfl ?_
        intro v3866 hv3867
        refine wl_nil (hN _ _ ?_)
        exact hM3797 _ _ ⟨_, _, b3785, v3786, v3866, frame_eq _ ⟨rfl, rfl, rfl, rfl, rfl, rfl, rfl, rfl, rfl, rfl, rfl, trivial⟩, hG3782, H3783, hv3787, hv3867⟩
       intro hM3781
       refine any_memo (fuel := 9) (m := 31) (fun a w => ∃ (T0 : Fr) (G1 : Ghost) (v3760 : Value) (v3762 : Value), a = mk 95 (upds T0 [(2, (pt b1)), (3, (pt b5)), (5, (.int .i64 x2102)), (7, (.slice A3152 x3151.length c3153)), (10, (.slice A3156 x3155.length c3157)), (12, (.int .i64 x3159)), (13, (.slice A3666 x3664.length c3667)), (14, (.int .i64 x3669)), (51, v3760), (55, v3762)]) ∧ GLe G3674 G1 ∧ St c G1 w ((.box b1 29 (kTNego.at_ x3161)) :: (.box b5 29 (kTNego.at_ x3670)) :: (.row kTPkt g3665 A3666 c3667 32 x3664) :: σ) ∧ kTNego.V G1 v3760 x3670 ∧ kTPkt.V G1 v3762 x3709) ?_ ?_
       ·rintro a w ⟨T0, G3759, v3760, v3762, rfl, hG3757, H3758, hv3761, hv3763⟩
        refine any_alls [5, 10] ⟨?_, ?_, trivial⟩
        ·refine any_ops (m' := 63) fun Q' hN => ?_
         refine wl_call (vs := [v3760, v3762]) en13 rfl (nego_Take_ok hc hv3761 hv3763 H3758 hr3716) ?_
         rintro v3872 w3871 ⟨G3868, v3873, A3875, c3876, A3878, c3879, hG3869, rfl, H3870, hv3874, hs3877, hs3880⟩
         refine wl_nil (hN _ _ ?_)
         refine any_rn (i := 6) (m' := 127) rfl (rn_pure (.tuple #[v3873, (.slice A3875 r3715.2.1.length c3876), (.slice A3878 r3715.2.2.length c3879)]) rfl) hPF hns ?_
         refine any_rn (i := 7) (m' := 255) rfl (rn_pure v3873 rfl) hPF hns ?_
         refine any_rn (i := 8) (m' := 511) rfl (rn_pure (.slice A3875 r3715.2.1.length c3876) rfl) hPF hns ?_
         refine any_rn (i := 9) (m' := 1023) rfl (rn_pure (.slice A3878 r3715.2.2.length c3879) rfl) hPF hns ?_
         refine any_alls [10] ⟨any_ops (m' := 2047) fun Q' hN => ?_, trivial⟩
         refine wl_alloc H3870 zr29 ?_
         intro b3881 w3884 H3882
         refine wl_nil (hN _ _ ?_)
         exact hM3823 _ _ ⟨_, _, b3881, v3873, A3875, c3876, A3878, c3879, frame_eq _ ⟨rfl, rfl, rfl, rfl, rfl, rfl, rfl, rfl, rfl, rfl, rfl, rfl, trivial⟩, (hG3757.trans hG3869), (St.pk [1, 2, 3, 0] 4 H3882 rfl (by decide)), hv3874, hs3877, hs3880⟩
        ·refine any_ops (m' := 1055) fun Q' hN => ?_
         refine wl_alloc H3758 zr29 ?_
         intro b3885 w3888 H3886
         refine wl_nil (hN _ _ ?_)
         exact hM3797 _ _ ⟨_, _, b3885, v3760, v3762, frame_eq _ ⟨rfl, rfl, rfl, rfl, rfl, rfl, rfl, rfl, rfl, rfl, rfl, trivial⟩, hG3757, (St.pk [1, 2, 3, 0] 4 H3886 rfl (by decide)), hv3761, hv3763⟩
       intro hM3756
       refine any_rn (i := 1) (m' := 2) rfl (rn_pure (.slice A3152 x3151.length c3153) rfl) hPF hns ?_
       refine any_rn (i := 2) (m' := 6) rfl (rn_pure (.int .i64 x3669) rfl) hPF hns ?_
       refine any_rnE (i := 3) (m' := 14) rfl (rn_index (hs3154.mono hG3671) sl35 ty32 rfl rfl hx3710) hPF hns ?_
       intro a3889 hp3890
       refine any_alls [0, 4, 10] ⟨?_, ?_, ?_, trivial⟩
       ·refine any_ops (m' := 15) fun Q' hN => ?_
        refine wl_load H3706 (i := 1) rfl (Lens.id kTNego) ty29 rfl ?_
        intro v3891 hv3892
        refine wl_nil (hN _ _ ?_)
        refine any_alls [4, 10] ⟨?_, ?_, trivial⟩
        ·refine any_ops (m' := 31) fun Q' hN => ?_
         refine wl_loadp H3706 hp3890 ty32 rfl ?_
         intro v3893 hv3894
         refine wl_nil (hN _ _ ?_)
         exact hM3756 _ _ ⟨_, _, v3891, v3893, frame_eq _ ⟨rfl, rfl, rfl, rfl, rfl, rfl, rfl, rfl, rfl, rfl, trivial⟩, GLe.refl _, (St.pk [2, 1, 0] 3 H3706 rfl (by decide)), hv3892, hv3894⟩
        ·refine any_ops (m' := 1039) fun Q' hN => ?_
         refine wl_alloc H3706 zr29 ?_
         intro b3895 w3898 H3896
         refine wl_nil (hN _ _ ?_)
         exact hM3781 _ _ ⟨_, _, b3895, v3891, a3889, frame_eq _ ⟨rfl, rfl, rfl, rfl, rfl, rfl, rfl, rfl, rfl, rfl, rfl, trivial⟩, GLe.refl _, (St.pk [3, 2, 1, 0] 4 H3896 rfl (by decide)), hv3892, hp3890⟩
       ·refine any_ops (m' := 30) fun Q' hN => ?_
        refine wl_loadp H3706 hp3890 ty32 rfl ?_
        intro v3899 hv3900
        refine wl_nil (hN _ _ ?_)
        refine any_alls [0, 10] ⟨?_, ?_, trivial⟩
        ·refine any_ops (m' := 31) fun Q' hN => ?_
         refine wl_load H3706 (i := 1) rfl (Lens.id kTNego) ty29 rfl ?_
         intro v3901 hv3902
         refine wl_nil (hN _ _ ?_)
         exact hM3756 _ _ ⟨_, _, v3901, v3899, frame_eq _ ⟨rfl, rfl, rfl, rfl, rfl, rfl, rfl, rfl, rfl, rfl, trivial⟩, GLe.refl _, (St.pk [2, 1, 0] 3 H3706 rfl (by decide)), hv3902, hv3900⟩
        ·refine any_ops (m' := 1054) fun Q' hN => ?_
         refine wl_alloc H3706 zr29 ?_
         intro b3903 w3906 H3904
         refine wl_nil (hN _ _ ?_)
         exact hM3790 _ _ ⟨_, _, b3903, v3899, frame_eq _ ⟨rfl, rfl, rfl, rfl, rfl, rfl, rfl, rfl, rfl, rfl, trivial⟩, GLe.refl _, (St.pk [3, 2, 1, 0] 4 H3904 rfl (by decide)), hv3900⟩
       ·refine any_ops (m' := 1038) fun Q' hN => ?_
        refine wl_alloc H3706 zr29 ?_
        intro b3907 w3910 H3908
        refine wl_nil (hN _ _ ?_)
        refine any_alls [0, 4] ⟨?_, ?_, trivial⟩
        ·refine any_ops (m' := 1039) fun Q' hN => ?_
         refine wl_load H3908 (i := 2) rfl (Lens.id kTNego) ty29 rfl ?_
         intro v3911 hv3912
         refine wl_nil (hN _ _ ?_)
         exact hM3781 _ _ ⟨_, _, b3907, v3911, a3889, frame_eq _ ⟨rfl, rfl, rfl, rfl, rfl, rfl, rfl, rfl, rfl, rfl, rfl, trivial⟩, GLe.refl _, (St.pk [3, 2, 1, 0] 4 H3908 rfl (by decide)), hv3912, hp3890⟩
        ·refine any_ops (m' := 1054) fun Q' hN => ?_
         refine wl_loadp H3908 hp3890 ty32 rfl ?_
         intro v3913 hv3914
         refine wl_nil (hN _ _ ?_)
         exact hM3790 _ _ ⟨_, _, b3907, v3913, frame_eq _ ⟨rfl, rfl, rfl, rfl, rfl, rfl, rfl, rfl, rfl, rfl, trivial⟩, GLe.refl _, (St.pk [3, 2, 1, 0] 4 H3908 rfl (by decide)), hv3914⟩
      ·replace hF := ifF hF hb3675
       refine wc_false (vb hb3675) ?_
       refine wp_exit ?_
       iterate 2 refine then_e ?_
       replace hF := exitS hF hy3167
       refine blk_e ?_
       refine then_n ?_
       refine wp_seq (wc_region ?_)
       refine wl_rn (rn_pure (.slice none 0 0) rfl) ?_
       refine wl_nil (then_n ?_)
       refine wp_seq ?_
       refine wp_seq (wc_region ?_)
       refine wl_rn (rn_pure (.int .i64 0) rfl) ?_
       refine wl_nil (then_n ?_)
       refine wp_block ?_
       obtain ⟨G4345, hG4346, H4347, hs4348⟩ := H3672.stay (i := 0) rfl (H3672.capA (i := 0) rfl)
       have H4349 := H4347.nilrow kTPkt none 32
       refine wp_loopX (fun (s : ((List TPkt) × (List TPkt) × Int × TNego)) a w => ∃ (T0 : Fr) (G1 : Ghost) (g4087 : Option Nat) (A4088 : Option Addr) (c4089 : Nat) (A4092 : Option Addr) (c4093 : Nat), a = mk 95 (upds T0 [(2, (pt b1)), (3, (pt b5)), (5, (.int .i64 x2102)), (7, (.slice A4088 s.1.length c4089)), (10, (.slice A3156 x3155.length c3157)), (12, (.int .i64 x3159)), (13, (.slice A4092 s.2.1.length c4093)), (18, (.int .i64 s.2.2.1))]) ∧ GLe G3674 G1 ∧ St c G1 w ((.row kTPkt g4087 A4088 c4089 32 s.1) :: (.box b5 29 (kTNego.at_ x3670)) :: (.box b1 29 (kTNego.at_ s.2.2.2)) :: σ) ∧ SlR kTPkt G1 A4092 c4093 s.2.1) hF ?_ ?_
       ·exact ⟨_, _, none, none, 0, A3666, c3667, frame_eq _ ⟨rfl, rfl, rfl, rfl, rfl, rfl, rfl, rfl, trivial⟩, hG4346, H4349, hs4348⟩
       ·rintro ⟨x4086, x4091, x4095, x4096⟩ a w y4099 ⟨T0, G4100, g4087, A4088, c4089, A4092, c4093, rfl, hG4097, H4098, hs4094⟩ hF hy3915
        refine wp_seq ?_
        refine wp_seq (wc_region ?_)
        refine wl_rn (rn_pure (.int .i64 x4095) rfl) ?_
        refine wl_rn (rn_pure (.slice A3156 x3155.length c3157) rfl) ?_
        refine wl_rn (rn_len sl35 rfl) ?_
        refine wl_rn (rn_pure (.bool (decide (x4095 < (x3155.length : Int)))) rfl) ?_
        refine wl_nil (then_n ?_)
        rcases bcases (decide (x4095 < (x3155.length : Int))) with hb4101 | hb4101
        ·replace hF := ifT hF hb4101
         refine wc_true (vb hb4101) ?_
         refine wp_skip ?_
         refine then_n ?_
         refine wp_seq ?_
         refine wp_block ?_
         refine wp_seq ?_
         refine wc_anyS (f := 14) H4098 mixed ?_
         intro w4131 H4132
         refine any_pf (by repeat (first | exact PF.base | apply PF.then_ | apply PF.blk)) ?_
         intro hPF hns
         obtain ⟨x4135, hx4136, hF⟩ := bindS hF
         obtain ⟨r4141, hr4142, hF⟩ := bindS hF
         refine any_memo (fuel := 3) (m := 2047) (fun a w => ∃ (T0 : Fr) (G1 : Ghost) (b4253 : Nat) (v4254 : Value) (A4256 : Option Addr) (c4257 : Nat) (A4259 : Option Addr) (c4260 : Nat), a = mk 95 (upds T0 [(2, (pt b1)), (3, (pt b5)), (5, (.int .i64 x2102)), (7, (.slice A4088 x4086.length c4089)), (10, (.slice A3156 x3155.length c3157)), (12, (.int .i64 x3159)), (13, (.slice A4092 x4091.length c4093)), (18, (.int .i64 x4095)), (19, (pt b4253)), (77, v4254), (78, (.slice A4256 r4141.2.1.length c4257)), (79, (.slice A4259 r4141.2.2.length c4260))]) ∧ GLe G4100 G1 ∧ St c G1 w ((.box b1 29 (kTNego.at_ x4096)) :: (.box b5 29 (kTNego.at_ x3670)) :: (.row kTPkt g4087 A4088 c4089 32 x4086) :: (.box b4253 29 (kTNego.at_ zTNego)) :: σ) ∧ kTNego.V G1 v4254 r4141.1 ∧ SlR kTPkt G1 A4256 c4257 r4141.2.1 ∧ SlR kI G1 A4259 c4260 r4141.2.2) ?_ ?_
         ·rintro a w ⟨T0, G4252, b4253, v4254, A4256, c4257, A4259, c4260, rfl, hG4250, H4251, hv4255, hs4258, hs4261⟩
          refine any_alls [11] ⟨any_ops (m' := 4095) fun Q' hN => ?_, trivial⟩
          refine wl_store (z := r4141.1) H4251 (i := 3) rfl (Lens.id kTNego) ty29 rfl rfl hv4255 ?_
          intro w4265 H4264
          refine wl_nil (hN _ _ ?_)
          refine any_rn (i := 12) (m' := 8191) rfl (rn_pure (.slice A4256 r4141.2.1.length c4257) rfl) hPF hns ?_
          refine any_rn (i := 13) (m' := 16383) rfl (rn_pure (.slice A4259 r4141.2.2.length c4260) rfl) hPF hns ?_
          refine any_end ?_
          refine then_n ?_
          refine wp_seq (wc_region ?_)
          refine wl_load H4264 (i := 3) rfl (Lens.id kTNego) ty29 rfl ?_
          intro v4266 hv4267
          refine wl_store (z := r4141.1) H4264 (i := 0) rfl (Lens.id kTNego) ty29 rfl rfl hv4267 ?_
          intro w4269 H4268
          refine wl_nil (then_n ?_)
          refine wc_region ?_
          refine wl_rn (rn_pure (.slice A4088 x4086.length c4089) rfl) ?_
          refine wl_rn (rn_pure (.slice A4256 r4141.2.1.length c4257) rfl) ?_
          obtain ⟨r4270, hr4271, hF⟩ := bindS hF
          refine wl_append H4268 sl35 el32 (i := 2) rfl rfl rfl (hs4258.src H4268.ag) hr4271 ?_
          intro g4272 A4273 c4274 w4275 H4276
          refine wl_rn (rn_pure (.slice A4273 r4270.length c4274) rfl) ?_
          refine wl_nil (blk_n ?_)
          refine then_n ?_
          refine wc_region ?_
          refine wl_rn (rn_pure (.int .i64 x4095) rfl) ?_
          iterate 2 refine wl_rn (rn_pure (.int .i64 (IntKind.i64.wrap (x4095 + 1))) rfl) ?_
          refine wl_nil (then_n ?_)
          exact ⟨_, (Option.some.inj hF).symm, _, _, g4272, A4273, c4274, A4092, c4093, frame_eq _ ⟨rfl, rfl, rfl, rfl, rfl, rfl, rfl, rfl, trivial⟩, (hG4097.trans hG4250), (St.pk [2, 1, 0] 4 H4276 rfl (by decide)), (hs4094.mono hG4250)⟩
         intro hM4249
         refine any_memo (fuel := 8) (m := 1055) (fun a w => ∃ (T0 : Fr) (G1 : Ghost) (b4227 : Nat) (v4228 : Value) (v4230 : Value), a = mk 95 (upds T0 [(2, (pt b1)), (3, (pt b5)), (5, (.int .i64 x2102)), (7, (.slice A4088 x4086.length c4089)), (10, (.slice A3156 x3155.length c3157)), (12, (.int .i64 x3159)), (13, (.slice A4092 x4091.length c4093)), (18, (.int .i64 x4095)), (19, (pt b4227)), (71, v4228), (75, v4230)]) ∧ GLe G4100 G1 ∧ St c G1 w ((.box b1 29 (kTNego.at_ x4096)) :: (.box b5 29 (kTNego.at_ x3670)) :: (.row kTPkt g4087 A4088 c4089 32 x4086) :: (.box b4227 29 (kTNego.at_ zTNego)) :: σ) ∧ kTNego.V G1 v4228 x4096 ∧ kTPkt.V G1 v4230 x4135) ?_ ?_
         ·rintro a w ⟨T0, G4226, b4227, v4228, v4230, rfl, hG4224, H4225, hv4229, hv4231⟩
          refine any_alls [5] ⟨any_ops (m' := 1087) fun Q' hN => ?_, trivial⟩
          refine wl_call (vs := [v4228, v4230]) en13 rfl (nego_Take_ok hc hv4229 hv4231 H4225 hr4142) ?_
          rintro v4281 w4280 ⟨G4277, v4282, A4284, c4285, A4287, c4288, hG4278, rfl, H4279, hv4283, hs4286, hs4289⟩
          refine wl_nil (hN _ _ ?_)
          refine any_rn (i := 6) (m' := 1151) rfl (rn_pure (.tuple #[v4282, (.slice A4284 r4141.2.1.length c4285), (.slice A4287 r4141.2.2.length c4288)]) rfl) hPF hns ?_
          refine any_rn (i := 7) (m' := 1279) rfl (rn_pure v4282 rfl) hPF hns ?_
          refine any_rn (i := 8) (m' := 1535) rfl (rn_pure (.slice A4284 r4141.2.1.length c4285) rfl) hPF hns ?_
          refine any_rn (i := 9) (m' := 2047) rfl (rn_pure (.slice A4287 r4141.2.2.length c4288) rfl) hPF hns ?_
          exact hM4249 _ _ ⟨_, _, b4227, v4282, A4284, c4285, A4287, c4288, frame_eq _ ⟨rfl, rfl, rfl, rfl, rfl, rfl, rfl, rfl, rfl, rfl, rfl, rfl, trivial⟩, (hG4224.trans hG4278), H4279, hv4283, hs4286, hs4289⟩
         intro hM4223
         refine any_memo (fuel := 9) (m := 1054) (fun a w => ∃ (T0 : Fr) (G1 : Ghost) (b4220 : Nat) (v4221 : Value), a = mk 95 (upds T0 [(2, (pt b1)), (3, (pt b5)), (5, (.int .i64 x2102)), (7, (.slice A4088 x4086.length c4089)), (10, (.slice A3156 x3155.length c3157)), (12, (.int .i64 x3159)), (13, (.slice A4092 x4091.length c4093)), (18, (.int .i64 x4095)), (19, (pt b4220)), (75, v4221)]) ∧ GLe G4100 G1 ∧ St c G1 w ((.box b1 29 (kTNego.at_ x4096)) :: (.box b5 29 (kTNego.at_ x3670)) :: (.row kTPkt g4087 A4088 c4089 32 x4086) :: (.box b4220 29 (kTNego.at_ zTNego)) :: σ) ∧ kTPkt.V G1 v4221 x4135) ?_ ?_
         ·rintro a w ⟨T0, G4219, b4220, v4221, rfl, hG4217, H4218, hv4222⟩
          refine any_alls [0] ⟨any_ops (m' := 1055) fun Q' hN => ?_, trivial⟩
          refine wl_load H4218 (i := 0) rfl (Lens.id kTNego) ty29 rfl ?_
          intro v4290 hv4291
          refine wl_nil (hN _ _ ?_)
          exact hM4223 _ _ ⟨_, _, b4220, v4290, v4221, frame_eq _ ⟨rfl, rfl, rfl, rfl, rfl, rfl, rfl, rfl, rfl, rfl, rfl, trivial⟩, hG4217, H4218, hv4291, hv4222⟩
         intro hM4216
         refine any_memo (fuel := 9) (m := 1039) (fun a w => ∃ (T0 : Fr) (G1 : Ghost) (b4211 : Nat) (v4212 : Value) (a4214 : Addr), a = mk 95 (upds T0 [(2, (pt b1)), (3, (pt b5)), (5, (.int .i64 x2102)), (7, (.slice A4088 x4086.length c4089)), (10, (.slice A3156 x3155.length c3157)), (12, (.int .i64 x3159)), (13, (.slice A4092 x4091.length c4093)), (18, (.int .i64 x4095)), (19, (pt b4211)), (71, v4212), (74, (.pointer (some a4214)))]) ∧ GLe G4100 G1 ∧ St c G1 w ((.box b1 29 (kTNego.at_ x4096)) :: (.box b5 29 (kTNego.at_ x3670)) :: (.row kTPkt g4087 A4088 c4089 32 x4086) :: (.box b4211 29 (kTNego.at_ zTNego)) :: σ) ∧ kTNego.V G1 v4212 x4096 ∧ PtR kTPkt G1 a4214 x4135) ?_ ?_
         ·rintro a w ⟨T0, G4210, b4211, v4212, a4214, rfl, hG4208, H4209, hv4213, hp4215⟩
          refine any_alls [4] ⟨any_ops (m' := 1055) fun Q' hN => ?_, trivial⟩
          refine wl_loadp H4209 hp4215 ty32 rfl ?_
          intro v4292 hv4293
          refine wl_nil (hN _ _ ?_)
          exact hM4223 _ _ ⟨_, _, b4211, v4212, v4292, frame_eq _ ⟨rfl, rfl, rfl, rfl, rfl, rfl, rfl, rfl, rfl, rfl, rfl, trivial⟩, hG4208, H4209, hv4213, hv4293⟩
         intro hM4207
         refine any_memo (fuel := 9) (m := 31) (fun a w => ∃ (T0 : Fr) (G1 : Ghost) (v4186 : Value) (v4188 : Value), a = mk 95 (upds T0 [(2, (pt b1)), (3, (pt b5)), (5, (.int .i64 x2102)), (7, (.slice A4088 x4086.length c4089)), (10, (.slice A3156 x3155.length c3157)), (12, (.int .i64 x3159)), (13, (.slice A4092 x4091.length c4093)), (18, (.int .i64 x4095)), (71, v4186), (75, v4188)]) ∧ GLe G4100 G1 ∧ St c G1 w ((.box b1 29 (kTNego.at_ x4096)) :: (.box b5 29 (kTNego.at_ x3670)) :: (.row kTPkt g4087 A4088 c4089 32 x4086) :: σ) ∧ kTNego.V G1 v4186 x4096 ∧ kTPkt.V G1 v4188 x4135) ?_ ?_
         ·rintro a w ⟨T0, G4185, v4186, v4188, rfl, hG4183, H4184, hv4187, hv4189⟩
          refine any_alls [5, 10] ⟨?_, ?_, trivial⟩
          ·refine any_ops (m' := 63) fun Q' hN => ?_
           refine wl_call (vs := [v4186, v4188]) en13 rfl (nego_Take_ok hc hv4187 hv4189 H4184 hr4142) ?_
           rintro v4298 w4297 ⟨G4294, v4299, A4301, c4302, A4304, c4305, hG4295, rfl, H4296, hv4300, hs4303, hs4306⟩
           refine wl_nil (hN _ _ ?_)
           refine any_rn (i := 6) (m' := 127) rfl (rn_pure (.tuple #[v4299, (.slice A4301 r4141.2.1.length c4302), (.slice A4304 r4141.2.2.length c4305)]) rfl) hPF hns ?_
           refine any_rn (i := 7) (m' := 255) rfl (rn_pure v4299 rfl) hPF hns ?_
           refine any_rn (i := 8) (m' := 511) rfl (rn_pure (.slice A4301 r4141.2.1.length c4302) rfl) hPF hns ?_
           refine any_rn (i := 9) (m' := 1023) rfl (rn_pure (.slice A4304 r4141.2.2.length c4305) rfl) hPF hns ?_
           refine any_alls [10] ⟨any_ops (m' := 2047) fun Q' hN => ?_, trivial⟩
           refine wl_alloc H4296 zr29 ?_
           intro b4307 w4310 H4308
           refine wl_nil (hN _ _ ?_)
           exact hM4249 _ _ ⟨_, _, b4307, v4299, A4301, c4302, A4304, c4305, frame_eq _ ⟨rfl, rfl, rfl, rfl, rfl, rfl, rfl, rfl, rfl, rfl, rfl, rfl, trivial⟩, (hG4183.trans hG4295), (St.pk [1, 2, 3, 0] 4 H4308 rfl (by decide)), hv4300, hs4303, hs4306⟩
          ·refine any_ops (m' := 1055) fun Q' hN => ?_
           refine wl_alloc H4184 zr29 ?_
           intro b4311 w4314 H4312
           refine wl_nil (hN _ _ ?_)
           exact hM4223 _ _ ⟨_, _, b4311, v4186, v4188, frame_eq _ ⟨rfl, rfl, rfl, rfl, rfl, rfl, rfl, rfl, rfl, rfl, rfl, trivial⟩, hG4183, (St.pk [1, 2, 3, 0] 4 H4312 rfl (by decide)), hv4187, hv4189⟩
         intro hM4182
         refine any_rn (i := 1) (m' := 2) rfl (rn_pure (.slice A3156 x3155.length c3157) rfl) hPF hns ?_
         refine any_rn (i := 2) (m' := 6) rfl (rn_pure (.int .i64 x4095) rfl) hPF hns ?_
         refine any_rnE (i := 3) (m' := 14) rfl (rn_index (hs3158.mono (hG3671.trans hG4097)) sl35 ty32 rfl rfl hx4136) hPF hns ?_
         intro a4315 hp4316
         refine any_alls [0, 4, 10] ⟨?_, ?_, ?_, trivial⟩
         ·refine any_ops (m' := 15) fun Q' hN => ?_
          refine wl_load H4132 (i := 2) rfl (Lens.id kTNego) ty29 rfl ?_
          intro v4317 hv4318
          refine wl_nil (hN _ _ ?_)
          refine any_alls [4, 10] ⟨?_, ?_, trivial⟩
          ·refine any_ops (m' := 31) fun Q' hN => ?_
           refine wl_loadp H4132 hp4316 ty32 rfl ?_
           intro v4319 hv4320
           refine wl_nil (hN _ _ ?_)
           exact hM4182 _ _ ⟨_, _, v4317, v4319, frame_eq _ ⟨rfl, rfl, rfl, rfl, rfl, rfl, rfl, rfl, rfl, rfl, trivial⟩, GLe.refl _, (St.pk [2, 1, 0] 3 H4132 rfl (by decide)), hv4318, hv4320⟩
          ·refine any_ops (m' := 1039) fun Q' hN => ?_
           refine wl_alloc H4132 zr29 ?_
           intro b4321 w4324 H4322
           refine wl_nil (hN _ _ ?_)
           exact hM4207 _ _ ⟨_, _, b4321, v4317, a4315, frame_eq _ ⟨rfl, rfl, rfl, rfl, rfl, rfl, rfl, rfl, rfl, rfl, rfl, trivial⟩, GLe.refl _, (St.pk [3, 2, 1, 0] 4 H4322 rfl (by decide)), hv4318, hp4316⟩
         ·refine any_ops (m' := 30) fun Q' hN => ?_
          refine wl_loadp H4132 hp4316 ty32 rfl ?_
          intro v4325 hv4326
          refine wl_nil (hN _ _ ?_)
          refine any_alls [0, 10] ⟨?_, ?_, trivial⟩
          ·refine any_ops (m' := 31) fun Q' hN => ?_
           refine wl_load H4132 (i := 2) rfl (Lens.id kTNego) ty29 rfl ?_
           intro v4327 hv4328
           refine wl_nil (hN _ _ ?_)
           exact hM4182 _ _ ⟨_, _, v4327, v4325, frame_eq _ ⟨rfl, rfl, rfl, rfl, rfl, rfl, rfl, rfl, rfl, rfl, trivial⟩, GLe.refl _, (St.pk [2, 1, 0] 3 H4132 rfl (by decide)), hv4328, hv4326⟩
          ·refine any_ops (m' := 1054) fun Q' hN => ?_
           refine wl_alloc H4132 zr29 ?_
           intro b4329 w4332 H4330
           refine wl_nil (hN _ _ ?_)
           exact hM4216 _ _ ⟨_, _, b4329, v4325, frame_eq _ ⟨rfl, rfl, rfl, rfl, rfl, rfl, rfl, rfl, rfl, rfl, trivial⟩, GLe.refl _, (St.pk [3, 2, 1, 0] 4 H4330 rfl (by decide)), hv4326⟩
         ·refine any_ops (m' := 1038) fun Q' hN => ?_
          refine wl_alloc H4132 zr29 ?_
          intro b4333 w4336 H4334
          refine wl_nil (hN _ _ ?_)
          refine any_alls [0, 4] ⟨?_, ?_, trivial⟩
          ·refine any_ops (m' := 1039) fun Q' hN => ?_
           refine wl_load H4334 (i := 3) rfl (Lens.id kTNego) ty29 rfl ?_
           intro v4337 hv4338
           refine wl_nil (hN _ _ ?_)
           exact hM4207 _ _ ⟨_, _, b4333, v4337, a4315, frame_eq _ ⟨rfl, rfl, rfl, rfl, rfl, rfl, rfl, rfl, rfl, rfl, rfl, trivial⟩, GLe.refl _, (St.pk [3, 2, 1, 0] 4 H4334 rfl (by decide)), hv4338, hp4316⟩
          ·refine any_ops (m' := 1054) fun Q' hN => ?_
           refine wl_loadp H4334 hp4316 ty32 rfl ?_
           intro v4339 hv4340
           refine wl_nil (hN _ _ ?_)
           exact hM4216 _ _ ⟨_, _, b4333, v4339, frame_eq _ ⟨rfl, rfl, rfl, rfl, rfl, rfl, rfl, rfl, rfl, rfl, trivial⟩, GLe.refl _, (St.pk [3, 2, 1, 0] 4 H4334 rfl (by decide)), hv4340⟩
        ·replace hF := ifF hF hb4101
         refine wc_false (vb hb4101) ?_
         refine wp_exit ?_
         iterate 2 refine then_e ?_
         replace hF := exitS hF hy3915
         refine blk_e ?_
         refine then_n ?_
         refine wc_region ?_
         iterate 2 refine wl_rn (rn_pure (.slice A4092 x4091.length c4093) rfl) ?_
         refine wl_nil (blk_n ?_)
         refine then_n ?_
         refine wc_region ?_
         refine wl_rn (rn_pure (.int .i64 x3159) rfl) ?_
         iterate 2 refine wl_rn (rn_pure (.int .i64 (IntKind.i64.wrap (x3159 + 1))) rfl) ?_
         refine wl_nil ?_
         obtain ⟨G4341, hG4342, H4343, hs4344⟩ := H4098.stay (i := 0) rfl (H4098.capA (i := 0) rfl)
         refine then_n ?_
         exact ⟨_, (Option.some.inj hF).symm, _, _, A4088, c4089, A4092, c4093, frame_eq _ ⟨rfl, rfl, rfl, rfl, rfl, rfl, trivial⟩, (((hG3162.trans hG3671).trans hG4097).trans hG4342), H4343, hs4344, (hs4094.mono hG4342)⟩
    ·replace hF := ifF hF hb3166
     refine wc_false (vb hb3166) ?_
     refine wp_exit ?_
     iterate 2 refine then_e ?_
     replace hF := exitS hF hy2164
     refine blk_e ?_
     refine blk_n ?_
     refine then_n ?_
     refine wc_region ?_
     refine wl_rn (rn_pure (.int .i64 x2102) rfl) ?_
     iterate 2 refine wl_rn (rn_pure (.int .i64 (IntKind.i64.wrap (x2102 + 1))) rfl) ?_
     refine wl_nil (then_n ?_)
     exact ⟨_, (Option.some.inj hF).symm, _, _, frame_eq _ ⟨rfl, rfl, rfl, trivial⟩, (((hG2105.trans hG2115).trans hG2138).trans hG3162), H3163⟩
  ·replace hF := ifF hF hb2109
   refine wc_false (vb hb2109) ?_
   refine wp_exit ?_
   iterate 2 refine then_e ?_
   replace hF := exitS hF hy9
   refine blk_e ?_
   refine then_n ?_
   refine wp_seq (wc_region ?_)
   refine wl_rn (rn_field fo29_0 rfl) ?_
   refine wl_rn (rn_field fo23_0 rfl) ?_
   refine wl_loadd H2106 (i := 1) rfl (Lens.then lTNego_A lTAuto_State) (dInt .i64) ty3 rfl ?_
   iterate 2 refine wl_rn (rn_pure (.bool (x2104.A.State == 9)) rfl) ?_
   rcases bcases (x2104.A.State == 9) with hb4353 | hb4353
   ·replace hF := ifT hF hb4353
    refine wl_yes rfl rfl rfl (vb hb4353) ?_
    refine wl_rn (rn_field fo29_0 rfl) ?_
    refine wl_yes rfl rfl rfl (vb hb4353) ?_
    refine wl_rn (rn_field fo23_0 rfl) ?_
    refine wl_yes rfl rfl rfl (vb hb4353) ?_
    refine wl_loadd H2106 (i := 0) rfl (Lens.then lTNego_A lTAuto_State) (dInt .i64) ty3 rfl ?_
    refine wl_yes rfl rfl rfl (vb hb4353) ?_
    refine wl_rn (rn_pure (.bool (x2103.A.State == 9)) rfl) ?_
    refine wl_rn (rn_pickT (.bool (x2103.A.State == 9)) (vb hb4353) rfl) ?_
    refine wl_rn (rn_pure (.bool (x2103.A.State == 9)) rfl) ?_
    refine wl_nil (then_n ?_)
    refine wp_ret ?_
    have hF := Option.some.inj hF
    subst hF
    exact ret_mk rfl (RV.tmp rfl RV.nil) ⟨_, hG2105, rfl, (St.pk [] 2 H2106 rfl (by decide))⟩
   ·replace hF := ifF hF hb4353
    iterate 4 refine wl_no rfl rfl rfl (vb hb4353) ?_
    refine wl_rn (rn_pickF (.bool false) (vb hb4353) rfl) ?_
    refine wl_rn (rn_pure (.bool false) rfl) ?_
    refine wl_nil (then_n ?_)
    refine wp_ret ?_
    have hF := Option.some.inj hF
    subst hF
    exact ret_mk rfl (RV.tmp rfl RV.nil) ⟨_, hG2105, rfl, (St.pk [] 2 H2106 rfl (by decide))⟩

theorem portreevelaw14_NegoPeer_ok {c : World} (hc : Hc c) {G : Ghost} {w : World} {σ : List Ent} {a0 : Int} {a1 : Int} {a2 : Int}  (H : St c G w (σ)) {r : Bool} (hF : portreevelaw14_NegoPeer a0 a1 a2 = some r) :
  Calls Tryd.prog 5 ([(.int .u32 a0), (.int .u32 a1), (.int .u32 a2)] : List Value).toArray w (Ends fun v w' => ∃ (G' : Ghost), GLe G G' ∧ tup [(.bool r)] = v ∧ St c G' w' (σ)) := by
 unfold portreevelaw14_NegoPeer at hF
 refine calls_mk Tryd.func5 rfl rfl rfl ?_
 refine wp_seq (wc_region ?_)
 refine wl_rn (rn_pure (.bool false) rfl) ?_
 refine wl_nil (then_n (wp_seq (wc_region ?_)))
 obtain ⟨r1, hr2, hF⟩ := bindS hF
 refine wl_call (vs := []) en8 rfl (portreevelaw14_shown_ok hc H hr2) ?_
 rintro v7 w6 ⟨G3, hG4, rfl, H5⟩
 refine wl_rn (rn_pure (.bool r1) rfl) ?_
 refine wl_nil (then_n ?_)
 refine wp_seq ?_
 refine wp_seq (join (fun a w => ∃ (T0 : Fr) (G1 : Ghost) (x13 : Bool), a = mk 77 (upds T0 [(0, (.int .u32 a0)), (1, (.int .u32 a1)), (2, (.int .u32 a2)), (7, (.bool r1)), (41, (.bool x13))]) ∧ GLe G3 G1 ∧ St c G1 w (σ) ∧ portreevelaw14_NegoPeer_j1 a0 a1 a2 r1 x13 = some r) ?_ ?_)
 ·rintro a w ⟨T0, G16, x13, rfl, hG14, H15, hF⟩
  rcases bcases x13 with hb17 | hb17
  ·replace hF := ifT hF hb17
   refine wc_true (vb hb17) ?_
   refine wp_seq (wc_region ?_)
   iterate 2 refine wl_rn (rn_pure (.bool r1) rfl) ?_
   refine wl_nil (then_n ?_)
   refine wp_ret ?_
   refine then_r ?_
   have hF := Option.some.inj hF
   subst hF
   exact ret_mk rfl (RV.tmp rfl RV.nil) ⟨_, (hG4.trans hG14), rfl, H15⟩
  ·replace hF := ifF hF hb17
   refine wc_false (vb hb17) ?_
   refine wp_skip ?_
   refine then_n ?_
   refine wp_seq (wc_region ?_)
   refine wl_rn (rn_pure (.int .u32 a0) rfl) ?_
   refine wl_rn (rn_pure (.int .u32 a2) rfl) ?_
   refine wl_rnE (rn_build (G := G16) zr26 rfl bs26 rfl (Parts.cons fo26_1 lTRule_Magic ((dInt .u32).toV _ _) (Parts.cons fo26_2 lTRule_Other ((dInt .u32).toV _ _) (Parts.nil _)))) ?_
   intro v18 hv19
   obtain ⟨r20, hr21, hF⟩ := bindS hF
   refine wl_call (vs := [v18]) en18 rfl (nego_New_ok hc hv19 H15 hr21) ?_
   rintro v26 w25 ⟨G22, v27, hG23, rfl, H24, hv28⟩
   refine wl_alloc H24 zr29 ?_
   intro b29 w32 H30
   refine wl_store (z := r20) H30 (i := 0) rfl (Lens.id kTNego) ty29 rfl rfl hv28 ?_
   intro w34 H33
   refine wl_nil (then_n (wp_seq (wc_region ?_)))
   refine wl_rn (rn_pure (.int .u32 a1) rfl) ?_
   refine wl_rn (rn_pure (.int .u32 a2) rfl) ?_
   refine wl_rnE (rn_build (G := G22) zr26 rfl bs26 rfl (Parts.cons fo26_1 lTRule_Magic ((dInt .u32).toV _ _) (Parts.cons fo26_2 lTRule_Other ((dInt .u32).toV _ _) (Parts.nil _)))) ?_
   intro v35 hv36
   obtain ⟨r37, hr38, hF⟩ := bindS hF
   refine wl_call (vs := [v35]) en18 rfl (nego_New_ok hc hv36 H33 hr38) ?_
   rintro v43 w42 ⟨G39, v44, hG40, rfl, H41, hv45⟩
   refine wl_alloc H41 zr29 ?_
   intro b46 w49 H47
   refine wl_store (z := r37) H47 (i := 0) rfl (Lens.id kTNego) ty29 rfl rfl hv45 ?_
   intro w51 H50
   refine wl_nil (then_n (wp_seq (wc_region ?_)))
   refine wl_load H50 (i := 1) rfl (Lens.id kTNego) ty29 rfl ?_
   intro v52 hv53
   obtain ⟨r54, hr55, hF⟩ := bindS hF
   refine wl_call (vs := [v52]) en19 rfl (portreevelaw14_opened_ok hc hv53 H50 hr55) ?_
   rintro v60 w59 ⟨G56, v61, A63, c64, A66, c67, hG57, rfl, H58, hv62, hs65, hs68⟩
   refine wl_rn (rn_pure (.tuple #[v61, (.slice A63 r54.2.1.length c64), (.slice A66 r54.2.2.length c67)]) rfl) ?_
   refine wl_rn (rn_pure v61 rfl) ?_
   refine wl_rn (rn_pure (.slice A63 r54.2.1.length c64) rfl) ?_
   refine wl_rn (rn_pure (.slice A66 r54.2.2.length c67) rfl) ?_
   refine wl_alloc H58 zr29 ?_
   intro b69 w72 H70
   refine wl_store (z := r54.1) H70 (i := 0) rfl (Lens.id kTNego) ty29 rfl rfl hv62 ?_
   intro w74 H73
   refine wl_rn (rn_pure (.slice A63 r54.2.1.length c64) rfl) ?_
   refine wl_rn (rn_pure (.slice A66 r54.2.2.length c67) rfl) ?_
   refine wl_nil (then_n (wp_seq (wc_region ?_)))
   refine wl_load H73 (i := 1) rfl (Lens.id kTNego) ty29 rfl ?_
   intro v75 hv76
   obtain ⟨r77, hr78, hF⟩ := bindS hF
   refine wl_call (vs := [v75]) en19 rfl (portreevelaw14_opened_ok hc hv76 H73 hr78) ?_
   rintro v83 w82 ⟨G79, v84, A86, c87, A89, c90, hG80, rfl, H81, hv85, hs88, hs91⟩
   refine wl_rn (rn_pure (.tuple #[v84, (.slice A86 r77.2.1.length c87), (.slice A89 r77.2.2.length c90)]) rfl) ?_
   refine wl_rn (rn_pure v84 rfl) ?_
   refine wl_rn (rn_pure (.slice A86 r77.2.1.length c87) rfl) ?_
   refine wl_rn (rn_pure (.slice A89 r77.2.2.length c90) rfl) ?_
   refine wl_alloc H81 zr29 ?_
   intro b92 w95 H93
   refine wl_store (z := r77.1) H93 (i := 0) rfl (Lens.id kTNego) ty29 rfl rfl hv85 ?_
   intro w97 H96
   refine wl_rn (rn_pure (.slice A86 r77.2.1.length c87) rfl) ?_
   refine wl_rn (rn_pure (.slice A89 r77.2.2.length c90) rfl) ?_
   refine wl_nil (then_n (wp_seq (wc_region ?_)))
   refine wl_rn (rn_field fo29_2 rfl) ?_
   refine wl_load H96 (i := 1) rfl lTNego_Ours ty27 rfl ?_
   intro v98 hv99
   obtain ⟨A100, c101, rfl, hs102⟩ := slice_V hv99
   obtain ⟨r103, hr104, hF⟩ := bindS hF
   refine wl_call (vs := [(.slice A100 r54.1.Ours.length c101), (.int .u8 3)]) en20 rfl (portreeveref10_Drop_ok hc hs102 H96 hr104) ?_
   rintro v109 w108 ⟨G105, A110, c111, hG106, rfl, H107, hs112⟩
   refine wl_rn (rn_field fo29_2 rfl) ?_
   refine wl_store (z := r103) H107 (i := 1) rfl lTNego_Ours ty27 rfl rfl (slice_toV hs112) ?_
   intro w114 H113
   refine wl_nil (then_n (wp_seq (wc_region ?_)))
   refine wl_rn (rn_field fo29_2 rfl) ?_
   refine wl_load H113 (i := 0) rfl lTNego_Ours ty27 rfl ?_
   intro v115 hv116
   obtain ⟨A117, c118, rfl, hs119⟩ := slice_V hv116
   obtain ⟨r120, hr121, hF⟩ := bindS hF
   refine wl_call (vs := [(.slice A117 r77.1.Ours.length c118), (.int .u8 3)]) en20 rfl (portreeveref10_Drop_ok hc hs119 H113 hr121) ?_
   rintro v126 w125 ⟨G122, A127, c128, hG123, rfl, H124, hs129⟩
   refine wl_rn (rn_field fo29_2 rfl) ?_
   refine wl_store (z := r120) H124 (i := 0) rfl lTNego_Ours ty27 rfl rfl (slice_toV hs129) ?_
   intro w131 H130
   refine wl_nil (then_n (wp_seq (wc_region ?_)))
   iterate 2 refine wl_rn (rn_pure (.bool r1) rfl) ?_
   rcases bcases r1 with hb132 | hb132
   ·replace hF := ifT hF hb132
    refine wl_yes rfl rfl rfl (vb hb132) ?_
    refine wl_load H130 (i := 1) rfl (Lens.id kTNego) ty29 rfl ?_
    intro v133 hv134
    refine wl_yes rfl rfl rfl (vb hb132) ?_
    refine wl_load H130 (i := 0) rfl (Lens.id kTNego) ty29 rfl ?_
    intro v135 hv136
    refine wl_yes rfl rfl rfl (vb hb132) ?_
    obtain ⟨r137, hr138, hF⟩ := bindS hF
    refine wl_call (vs := [v133, v135]) en21 rfl (portreevelaw14_agree_ok hc hv134 hv136 H130 hr138) ?_
    rintro v143 w142 ⟨G139, hG140, rfl, H141⟩
    refine wl_rn (rn_pickT (.bool r137) (vb hb132) rfl) ?_
    refine wl_rn (rn_pure (.bool r137) rfl) ?_
    refine wl_nil (then_n ?_)
    refine wp_ret ?_
    have hF := Option.some.inj hF
    subst hF
    exact ret_mk rfl (RV.tmp rfl RV.nil) ⟨_, ((((((((hG4.trans hG14).trans hG23).trans hG40).trans hG57).trans hG80).trans hG106).trans hG123).trans hG140), rfl, (St.pk [] 4 H141 rfl (by decide))⟩
   ·replace hF := ifF hF hb132
    iterate 3 refine wl_no rfl rfl rfl (vb hb132) ?_
    refine wl_rn (rn_pickF (.bool false) (vb hb132) rfl) ?_
    refine wl_rn (rn_pure (.bool false) rfl) ?_
    refine wl_nil (then_n ?_)
    refine wp_ret ?_
    have hF := Option.some.inj hF
    subst hF
    exact ret_mk rfl (RV.tmp rfl RV.nil) ⟨_, (((((((hG4.trans hG14).trans hG23).trans hG40).trans hG57).trans hG80).trans hG106).trans hG123), rfl, (St.pk [] 4 H130 rfl (by decide))⟩
 ·refine wc_region ?_
  refine wl_rn (rn_pure (.int .u32 a0) rfl) ?_
  refine wl_rn (rn_pure (.int .u32 a1) rfl) ?_
  iterate 2 refine wl_rn (rn_pure (.bool (a0 == a1)) rfl) ?_
  rcases bcases (a0 == a1) with hb144 | hb144
  ·replace hF := ifT hF hb144
   iterate 2 refine wl_no rfl rfl rfl (vb hb144) ?_
   refine wl_rn (rn_pickT (.bool true) (vb hb144) rfl) ?_
   refine wl_rn (rn_pure (.bool true) rfl) ?_
   iterate 2 refine wl_no rfl rfl rfl rfl ?_
   refine wl_rn (rn_pickT (.bool true) rfl rfl) ?_
   refine wl_rn (rn_pure (.bool true) rfl) ?_
   iterate 2 refine wl_no rfl rfl rfl rfl ?_
   refine wl_rn (rn_pickT (.bool true) rfl rfl) ?_
   refine wl_rn (rn_pure (.bool true) rfl) ?_
   iterate 3 refine wl_no rfl rfl rfl rfl ?_
   refine wl_rn (rn_pickT (.bool true) rfl rfl) ?_
   refine wl_rn (rn_pure (.bool true) rfl) ?_
   iterate 3 refine wl_no rfl rfl rfl rfl ?_
   refine wl_rn (rn_pickT (.bool true) rfl rfl) ?_
   refine wl_nil (then_n ?_)
   exact ⟨_, _, true, frame_eq _ ⟨rfl, rfl, rfl, rfl, rfl, trivial⟩, GLe.refl _, H5, hF⟩
  ·replace hF := ifF hF hb144
   refine wl_yes rfl rfl rfl (vb hb144) ?_
   refine wl_rn (rn_pure (.int .u32 a0) rfl) ?_
   refine wl_yes rfl rfl rfl (vb hb144) ?_
   refine wl_rn (rn_pure (.bool (a0 == 0)) rfl) ?_
   refine wl_rn (rn_pickF (.bool (a0 == 0)) (vb hb144) rfl) ?_
   refine wl_rn (rn_pure (.bool (a0 == 0)) rfl) ?_
   rcases bcases (a0 == 0) with hb145 | hb145
   ·replace hF := ifT hF hb145
    iterate 2 refine wl_no rfl rfl rfl (vb hb145) ?_
    refine wl_rn (rn_pickT (.bool true) (vb hb145) rfl) ?_
    refine wl_rn (rn_pure (.bool true) rfl) ?_
    iterate 2 refine wl_no rfl rfl rfl rfl ?_
    refine wl_rn (rn_pickT (.bool true) rfl rfl) ?_
    refine wl_rn (rn_pure (.bool true) rfl) ?_
    iterate 3 refine wl_no rfl rfl rfl rfl ?_
    refine wl_rn (rn_pickT (.bool true) rfl rfl) ?_
    refine wl_rn (rn_pure (.bool true) rfl) ?_
    iterate 3 refine wl_no rfl rfl rfl rfl ?_
    refine wl_rn (rn_pickT (.bool true) rfl rfl) ?_
    refine wl_nil (then_n ?_)
    exact ⟨_, _, true, frame_eq _ ⟨rfl, rfl, rfl, rfl, rfl, trivial⟩, GLe.refl _, H5, hF⟩
   ·replace hF := ifF hF hb145
    refine wl_yes rfl rfl rfl (vb hb145) ?_
    refine wl_rn (rn_pure (.int .u32 a1) rfl) ?_
    refine wl_yes rfl rfl rfl (vb hb145) ?_
    refine wl_rn (rn_pure (.bool (a1 == 0)) rfl) ?_
    refine wl_rn (rn_pickF (.bool (a1 == 0)) (vb hb145) rfl) ?_
    refine wl_rn (rn_pure (.bool (a1 == 0)) rfl) ?_
    rcases bcases (a1 == 0) with hb146 | hb146
    ·replace hF := ifT hF hb146
     iterate 2 refine wl_no rfl rfl rfl (vb hb146) ?_
     refine wl_rn (rn_pickT (.bool true) (vb hb146) rfl) ?_
     refine wl_rn (rn_pure (.bool true) rfl) ?_
     iterate 3 refine wl_no rfl rfl rfl rfl ?_
     refine wl_rn (rn_pickT (.bool true) rfl rfl) ?_
     refine wl_rn (rn_pure (.bool true) rfl) ?_
     iterate 3 refine wl_no rfl rfl rfl rfl ?_
     refine wl_rn (rn_pickT (.bool true) rfl rfl) ?_
     refine wl_nil (then_n ?_)
     exact ⟨_, _, true, frame_eq _ ⟨rfl, rfl, rfl, rfl, rfl, trivial⟩, GLe.refl _, H5, hF⟩
    ·replace hF := ifF hF hb146
     refine wl_yes rfl rfl rfl (vb hb146) ?_
     refine wl_rn (rn_pure (.int .u32 a2) rfl) ?_
     refine wl_yes rfl rfl rfl (vb hb146) ?_
     refine wl_rn (rn_pure (.bool (a2 == 0)) rfl) ?_
     refine wl_rn (rn_pickF (.bool (a2 == 0)) (vb hb146) rfl) ?_
     refine wl_rn (rn_pure (.bool (a2 == 0)) rfl) ?_
     rcases bcases (a2 == 0) with hb147 | hb147
     ·replace hF := ifT hF hb147
      iterate 3 refine wl_no rfl rfl rfl (vb hb147) ?_
      refine wl_rn (rn_pickT (.bool true) (vb hb147) rfl) ?_
      refine wl_rn (rn_pure (.bool true) rfl) ?_
      iterate 3 refine wl_no rfl rfl rfl rfl ?_
      refine wl_rn (rn_pickT (.bool true) rfl rfl) ?_
      refine wl_nil (then_n ?_)
      exact ⟨_, _, true, frame_eq _ ⟨rfl, rfl, rfl, rfl, rfl, trivial⟩, GLe.refl _, H5, hF⟩
     ·replace hF := ifF hF hb147
      refine wl_yes rfl rfl rfl (vb hb147) ?_
      refine wl_rn (rn_pure (.int .u32 a2) rfl) ?_
      refine wl_yes rfl rfl rfl (vb hb147) ?_
      refine wl_rn (rn_pure (.int .u32 a0) rfl) ?_
      refine wl_yes rfl rfl rfl (vb hb147) ?_
      refine wl_rn (rn_pure (.bool (a2 == a0)) rfl) ?_
      refine wl_rn (rn_pickF (.bool (a2 == a0)) (vb hb147) rfl) ?_
      refine wl_rn (rn_pure (.bool (a2 == a0)) rfl) ?_
      rcases bcases (a2 == a0) with hb148 | hb148
      ·replace hF := ifT hF hb148
       iterate 3 refine wl_no rfl rfl rfl (vb hb148) ?_
       refine wl_rn (rn_pickT (.bool true) (vb hb148) rfl) ?_
       refine wl_nil (then_n ?_)
       exact ⟨_, _, true, frame_eq _ ⟨rfl, rfl, rfl, rfl, rfl, trivial⟩, GLe.refl _, H5, hF⟩
      ·replace hF := ifF hF hb148
       refine wl_yes rfl rfl rfl (vb hb148) ?_
       refine wl_rn (rn_pure (.int .u32 a2) rfl) ?_
       refine wl_yes rfl rfl rfl (vb hb148) ?_
       refine wl_rn (rn_pure (.int .u32 a1) rfl) ?_
       refine wl_yes rfl rfl rfl (vb hb148) ?_
       refine wl_rn (rn_pure (.bool (a2 == a1)) rfl) ?_
       refine wl_rn (rn_pickF (.bool (a2 == a1)) (vb hb148) rfl) ?_
       refine wl_nil (then_n ?_)
       exact ⟨_, _, (a2 == a1), frame_eq _ ⟨rfl, rfl, rfl, rfl, rfl, trivial⟩, GLe.refl _, H5, hF⟩
end Go.Proofs.YtadlndnagfnlgaaDoor.W
