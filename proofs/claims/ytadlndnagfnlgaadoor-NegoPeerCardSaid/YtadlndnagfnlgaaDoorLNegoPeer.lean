/- portreeve/portreevelaw14.NegoPeer: the law's row and its tied card. Whatever the arguments, the call answers true, and each argument reads behind it as before. Conditions: none but the row's own (what the listed variables hold, tied to the program's text by the card). -/
import Derived.Test.YtadlndnagfnlgaaDoorRows
import Derived.Test.YtadlndnagfnlgaaDoorTie
import Derived.Test.YtadlndnagfnlgaaDoorCards
import Derived.Test.YtadlndnagfnlgaaDoorWO
import Derived.Test.YtadlndnagfnlgaaDoorVNegoPeer
import Derived.Test.YtadlndnagfnlgaaDoorF5
import Derived.Test.YtadlndnagfnlgaaDoorPPeer
import Derived.ProofKit
import Derived.LaidMore
import Derived.Stop.Joined
import Derived.SevenTiedAt
import Derived.WalkKit
import Derived.ShutString
import Derived.ChangeOld
set_option linter.unusedVariables false
set_option maxRecDepth 100000
namespace Go.Proofs.YtadlndnagfnlgaaDoor.W
open Go Go.RowKit
end Go.Proofs.YtadlndnagfnlgaaDoor.W
namespace Go.Proofs.YtadlndnagfnlgaaDoor.negoPeer
open Go Go.ChangeShapes Go.WideShapes Go.ChangeAt Go.RowKit Go.Proofs.YtadlndnagfnlgaaDoor.W
open Go.ChangeMaps (open_string shut_string)
theorem own : ownKnob Tryd.prog.godebug = none := by kernel_rfl
theorem laidOut : laidOutB Tryd.prog = true := by kernel_rfl
theorem door_met (os : Os) (args : Array Value) : laidMetH Tryd.prog Rows.negoPeerRow.laid ((World.doorLaid Tryd.prog 4000 os).forCall (fun _ _ => 0) ⟨#[], args, []⟩).memory :=
  laidMetH_of_parts3 (fuel := 8) (laidMet_of_run' 8 (by kernel_rfl) (by kernel_rfl)) (by kernel_rfl) (by kernel_rfl)
theorem tab {W : World} (h : laidMetH Tryd.prog Rows.negoPeerRow.laid W) : Hc W := by
  rw [MakeChecks.laidMetH_plain _ _ _ (by kernel_rfl)] at h
  have e : (Rows.laid_strings_asciiSpace : DataW Unit) = Lib.tabData .u8 Lib.asciiSpaceTab := by kernel_rfl
  have h2 : laidMet Tryd.prog [("unicode.White_Space", Rows.laid_unicode_White_Space), ("strings.asciiSpace", Rows.laid_strings_asciiSpace)] W := h
  rw [e] at h2
  exact tabIs_of_second (t := 138) (e := 5) (n := 256) (by kernel_rfl) (by kernel_rfl) (by kernel_rfl) (by kernel_rfl) (by kernel_rfl) h2
theorem lifted (os : Os) (started : os.Started) (H : Type) (enc : TypeId × Value → H) :
    ReturnsInHanded {} Tryd.checked os 5 .any (fun w args => (Rows.negoPeerSpec.pre enc Tryd.prog Tryd.f5 [] false w args ∧ laidMetH Tryd.prog Rows.negoPeerRow.laid w) ∧ sizedMet enc Tryd.prog Tryd.f5 (OpenSpec.ofChange Rows.negoPeerSpec) false w args)
      (Rows.negoPeerSpec.post enc Tryd.prog Tryd.f5 false true false false) := by
  refine returnsInHanded_of_change_and (C := Tryd.checked) (X := fun w _ => laidMetH Tryd.prog Rows.negoPeerRow.laid w) (fun _ _ _ hh h => h.of_heap hh) own started (by kernel_rfl) Tryd.func5
    (ChangeSpec.witness_shaped (enc := enc) (C := Tryd.checked) (os := os) (X := fun w _ => laidMetH Tryd.prog Rows.negoPeerRow.laid w) false (World.doorLaid Tryd.prog 4000 os) #[(.int .u32 0), (.int .u32 0), (.int .u32 0)] 8 rfl (World.shaped_of_RefB (by kernel_rfl) (by kernel_rfl)) (by kernel_rfl) (by kernel_rfl) (by kernel_rfl) (door_met os _)) ?_
  intro W base args ds gs before hval0 hW _ _ hL _
  have hval : ∀ (j : Nat) t v, Tryd.f5.params[j]? = some t → args[j]? = some v → Value.okWide Tryd.prog W .any base t v := hval0
  have hW' := hW
  obtain ⟨p, q, hA0, hV, rfl, hfz, hnd⟩ := hW
  have hA : DataW.TrodAll enc Tryd.prog W 0 (fun _ => true) true Tryd.f5.params.toList args.toList ds p := hA0
  rw [Tryd.params5] at hA hval
  obtain ⟨v0, vs0, d0, ds0, p0, q0, hargs, rfl, rfl, h0, r0⟩ := trodAll_cons hA
  obtain ⟨v1, vs1, d1, ds1, p1, q1, rfl, rfl, rfl, h1, r1⟩ := trodAll_cons r0
  obtain ⟨v2, vs2, d2, ds2, p2, q2, rfl, rfl, rfl, h2, r2⟩ := trodAll_cons r1
  obtain ⟨rfl, rfl, rfl⟩ := trodAll_nil r2
  obtain rfl : args = #[v0, v1, v2] := by cases args; simp_all
  obtain ⟨rfl, rfl⟩ := trodVars_none hV
  have hc := tab hL
  obtain ⟨y0, rfl, rfl, rfl, w0⟩ := open_int (show Tryd.prog.underlying 24 = some (.int .u32) by kernel_rfl) (hval 0 24 v0 rfl rfl) h0
  obtain ⟨y1, rfl, rfl, rfl, w1⟩ := open_int (show Tryd.prog.underlying 24 = some (.int .u32) by kernel_rfl) (hval 1 24 v1 rfl rfl) h1
  obtain ⟨y2, rfl, rfl, rfl, w2⟩ := open_int (show Tryd.prog.underlying 24 = some (.int .u32) by kernel_rfl) (hval 2 24 v2 rfl rfl) h2
  clear hA0 hval0
  refine (portreevelaw14_NegoPeer_ok (c := W) hc (G := ofW W) (w := W) (σ := [])  (St.start W) (negoPeer_true w0 w1 w2)).mono fun e W' he => ?_
  cases e with
  | panicked ch => exact he.elim
  | outgrown => exact he.elim
  | returned v =>
    obtain ⟨G', _, rfl, H'⟩ := he
    have bel := H'.below
    exact ⟨_, rfl, _, _, _, [], _, [], hW', trodAll_mk1 (shut_bool (show Tryd.prog.underlying 4 = some .bool by kernel_rfl) _), (trodAll_cons_mk (shut_int (show Tryd.prog.underlying 24 = some (.int .u32) by kernel_rfl) w0) (trodAll_cons_mk (shut_int (show Tryd.prog.underlying 24 = some (.int .u32) by kernel_rfl) w1) (trodAll_cons_mk (shut_int (show Tryd.prog.underlying 24 = some (.int .u32) by kernel_rfl) w2) trodAll_mk0))), rfl, bel.frame _, fun h => by cases h⟩
theorem row_holds : Rows.NegoPeerSaid :=
  OpenClaim.holds_of_wide 5 Tryd.f5 rfl rfl rfl rfl rfl rfl rfl ⟨rfl, rfl, rfl, rfl, rfl⟩ rfl rfl rfl rfl rfl (by kernel_rfl) Tryd.func5 (by kernel_rfl)
    (of_decide_eq_true (by kernel_rfl)) (by unfold Func.isWrapper; first | (rw [if_pos (by decide +kernel)]; kernel_rfl) | (rw [if_neg (by decide +kernel)]; exact ⟨rfl, rfl⟩))
    (fun os started H enc _ => lifted os started H enc)
theorem card_holds : Rows.NegoPeerCardSaid :=
  Claim7.holds_tied_plain_at .later [] [.listed, .data] true (true, "17513860bfd2e1a7c8681d4397f10b1ef564f10324ec62577607b0678db139ca") false
    row_holds (fun _ h => by cases h) (by kernel_rfl) (fun _ h => by cases h) negoPeer_row_tie rfl ⟨rfl, rfl⟩ (by kernel_rfl) rfl
    (fun f fn hf hfn => by
      obtain rfl : f = 5 := Option.some.inj ((show Tryd.prog.funcNamed "portreeve/portreevelaw14.NegoPeer" = some 5 by kernel_rfl).symm.trans hf) |>.symm
      obtain rfl : fn = Tryd.f5 := (Option.some.inj (Tryd.func5.symm.trans hfn)).symm
      exact ⟨by kernel_rfl, fun j t ht => by
        rw [Tryd.params5] at ht
        have hm : t ∈ [24, 24, 24] := by simpa using Array.mem_of_getElem? ht
        have hall : ([24, 24, 24].all fun u => !Tryd.prog.wantsStandIn u) = true := by kernel_rfl
        exact (show Tryd.prog.wantsStandIn t = false by simpa using List.all_eq_true.1 hall t hm)⟩)
    (by kernel_rfl)
#print axioms card_holds
end Go.Proofs.YtadlndnagfnlgaaDoor.negoPeer
