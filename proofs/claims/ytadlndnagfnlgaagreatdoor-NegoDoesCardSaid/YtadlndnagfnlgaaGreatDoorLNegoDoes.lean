/- portreeve/portreevelaw14.NegoDoes: the law's row and its tied card. Whatever the arguments, the call answers true, and each argument reads behind it as before. Conditions: none but the row's own (what the listed variables hold, tied to the program's text by the card). -/
import Derived.Test.YtadlndnagfnlgaaGreatDoorRows
import Derived.Test.YtadlndnagfnlgaaGreatDoorTie
import Derived.Test.YtadlndnagfnlgaaGreatDoorCards
import Derived.Test.YtadlndnagfnlgaaGreatDoorWO
import Derived.Test.YtadlndnagfnlgaaGreatDoorVNegoDoes
import Derived.Test.YtadlndnagfnlgaaGreatDoorF7
import Derived.Test.YtadlndnagfnlgaaGreatDoorPDoes
import Derived.ProofKit
import Derived.LaidMore
import Derived.Stop.Joined
import Derived.SevenTiedAt
import Derived.WalkKit
import Derived.ShutString
import Derived.ChangeOld
set_option linter.unusedVariables false
set_option maxRecDepth 100000
namespace Go.Proofs.YtadlndnagfnlgaaGreatDoor.W
open Go Go.RowKit
theorem o26 : Opn Tryz.prog 26 za wfTAuto := Opn.weak (Opn.struct (by kernel_rfl) (by kernel_rfl) (by kernel_rfl) (OpnF.iso (fun y => ⟨y.1, y.2.1, y.2.2.1, y.2.2.2⟩) (fun _ => rfl) (OpnF.cons (by kernel_rfl) (Opn.int (show Tryz.prog.underlying 3 = some (.int .i64) by kernel_rfl)) (OpnF.cons (by kernel_rfl) (Opn.int (show Tryz.prog.underlying 3 = some (.int .i64) by kernel_rfl)) (OpnF.cons (by kernel_rfl) (Opn.int (show Tryz.prog.underlying 3 = some (.int .i64) by kernel_rfl)) (OpnF.last (by kernel_rfl) (Opn.int (show Tryz.prog.underlying 5 = some (.int .u8) by kernel_rfl)))))))) (fun _ h => h)
theorem o29 : Opn Tryz.prog 29 qU wfTRule := Opn.weak (Opn.struct (by kernel_rfl) (by kernel_rfl) (by kernel_rfl) (OpnF.iso (fun y => ⟨y.1, y.2.1, y.2.2.1, y.2.2.2.1, y.2.2.2.2⟩) (fun _ => rfl) (OpnF.cons (by kernel_rfl) (Opn.bool (show Tryz.prog.underlying 4 = some (.bool) by kernel_rfl)) (OpnF.cons (by kernel_rfl) (Opn.int (show Tryz.prog.underlying 27 = some (.int .u32) by kernel_rfl)) (OpnF.cons (by kernel_rfl) (Opn.int (show Tryz.prog.underlying 27 = some (.int .u32) by kernel_rfl)) (OpnF.cons (by kernel_rfl) (Opn.int (show Tryz.prog.underlying 27 = some (.int .u32) by kernel_rfl)) (OpnF.last (by kernel_rfl) (Opn.int (show Tryz.prog.underlying 27 = some (.int .u32) by kernel_rfl))))))))) (fun _ h => h)
theorem o133 : Opn Tryz.prog 133 qx wfTOpt := Opn.weak (Opn.struct (by kernel_rfl) (by kernel_rfl) (by kernel_rfl) (OpnF.iso (fun y => ⟨y.1, y.2⟩) (fun _ => rfl) (OpnF.cons (by kernel_rfl) (Opn.int (show Tryz.prog.underlying 5 = some (.int .u8) by kernel_rfl)) (OpnF.last (by kernel_rfl) (Opn.slice (show Tryz.prog.underlying 22 = some (.slice 5) by kernel_rfl) (by kernel_rfl) (Opn.int (show Tryz.prog.underlying 5 = some (.int .u8) by kernel_rfl))))))) (fun _ h => h)
theorem o32 : Opn Tryz.prog 32 qv wfTNego := Opn.weak (Opn.struct (by kernel_rfl) (by kernel_rfl) (by kernel_rfl) (OpnF.iso (fun y => ⟨y.1, y.2.1, y.2.2.1, y.2.2.2.1, y.2.2.2.2⟩) (fun _ => rfl) (OpnF.cons (by kernel_rfl) o26 (OpnF.cons (by kernel_rfl) o29 (OpnF.cons (by kernel_rfl) (Opn.slice (show Tryz.prog.underlying 30 = some (.slice 133) by kernel_rfl) (by kernel_rfl) o133) (OpnF.cons (by kernel_rfl) (Opn.int (show Tryz.prog.underlying 3 = some (.int .i64) by kernel_rfl)) (OpnF.last (by kernel_rfl) (Opn.slice (show Tryz.prog.underlying 30 = some (.slice 133) by kernel_rfl) (by kernel_rfl) o133)))))))) (fun _ h => h)
theorem o46 : Opn Tryz.prog 46 qC wfTPkt := Opn.weak (Opn.struct (by kernel_rfl) (by kernel_rfl) (by kernel_rfl) (OpnF.iso (fun y => ⟨y.1, y.2.1, y.2.2⟩) (fun _ => rfl) (OpnF.cons (by kernel_rfl) (Opn.int (show Tryz.prog.underlying 5 = some (.int .u8) by kernel_rfl)) (OpnF.cons (by kernel_rfl) (Opn.int (show Tryz.prog.underlying 5 = some (.int .u8) by kernel_rfl)) (OpnF.last (by kernel_rfl) (Opn.slice (show Tryz.prog.underlying 22 = some (.slice 5) by kernel_rfl) (by kernel_rfl) (Opn.int (show Tryz.prog.underlying 5 = some (.int .u8) by kernel_rfl)))))))) (fun _ h => h)
end Go.Proofs.YtadlndnagfnlgaaGreatDoor.W
namespace Go.Proofs.YtadlndnagfnlgaaGreatDoor.negoDoes
open Go Go.ChangeShapes Go.WideShapes Go.ChangeAt Go.RowKit Go.Proofs.YtadlndnagfnlgaaGreatDoor.W
open Go.ChangeMaps (open_string shut_string)
theorem own : ownKnob Tryz.prog.godebug = none := by kernel_rfl
theorem laidOut : laidOutB Tryz.prog = true := by kernel_rfl
theorem door_met (os : Os) (args : Array Value) : laidMetH Tryz.prog Rows.negoDoesRow.laid ((World.doorLaid Tryz.prog 4000 os).forCall (fun _ _ => 0) ⟨#[], args, []⟩).memory :=
  laidMetH_of_parts3 (fuel := 8) (laidMet_of_run' 8 (by kernel_rfl) (by kernel_rfl)) (by kernel_rfl) (by kernel_rfl)
theorem tab {W : World} (h : laidMetH Tryz.prog Rows.negoDoesRow.laid W) : Hc W := by
  rw [MakeChecks.laidMetH_plain _ _ _ (by kernel_rfl)] at h
  have e : (Rows.laid_strings_asciiSpace : DataW Unit) = Lib.tabData .u8 Lib.asciiSpaceTab := by kernel_rfl
  have h2 : laidMet Tryz.prog [("unicode.White_Space", Rows.laid_unicode_White_Space), ("strings.asciiSpace", Rows.laid_strings_asciiSpace)] W := h
  rw [e] at h2
  exact tabIs_of_second (t := 271) (e := 5) (n := 256) (by kernel_rfl) (by kernel_rfl) (by kernel_rfl) (by kernel_rfl) (by kernel_rfl) h2
theorem lifted (os : Os) (started : os.Started) (H : Type) (enc : TypeId × Value → H) :
    ReturnsInHanded {} Tryz.checked os 6 .any (fun w args => (Rows.negoDoesSpec.pre enc Tryz.prog Tryz.f6 [] false w args ∧ laidMetH Tryz.prog Rows.negoDoesRow.laid w) ∧ sizedMet enc Tryz.prog Tryz.f6 (OpenSpec.ofChange Rows.negoDoesSpec) false w args)
      (Rows.negoDoesSpec.post enc Tryz.prog Tryz.f6 false true false false) := by
  refine returnsInHanded_of_change_and (C := Tryz.checked) (X := fun w _ => laidMetH Tryz.prog Rows.negoDoesRow.laid w) (fun _ _ _ hh h => h.of_heap hh) own started (by kernel_rfl) Tryz.func6
    (ChangeSpec.witness_shaped (enc := enc) (C := Tryz.checked) (os := os) (X := fun w _ => laidMetH Tryz.prog Rows.negoDoesRow.laid w) false (World.doorLaid Tryz.prog 4000 os) #[(.agg #[(.int .i64 0), (.int .i64 0), (.int .i64 0), (.int .u8 0), (.bool false), (.int .u32 0), (.int .u32 0), (.int .u32 0), (.int .u32 0), (.slice none 0 0), (.int .i64 0), (.slice none 0 0)]), (.int .i64 0), (.agg #[(.int .u8 0), (.int .u8 0), (.slice none 0 0)])] 8 rfl (World.shaped_of_RefB (by kernel_rfl) (by kernel_rfl)) (by kernel_rfl) (by kernel_rfl) (by kernel_rfl) (door_met os _)) ?_
  intro W base args ds gs before hval0 hW _ _ hL _
  have hval : ∀ (j : Nat) t v, Tryz.f6.params[j]? = some t → args[j]? = some v → Value.okWide Tryz.prog W .any base t v := hval0
  have hW' := hW
  obtain ⟨p, q, hA0, hV, rfl, hfz, hnd⟩ := hW
  have hA : DataW.TrodAll enc Tryz.prog W 0 (fun _ => true) true Tryz.f6.params.toList args.toList ds p := hA0
  rw [Tryz.params6] at hA hval
  obtain ⟨v0, vs0, d0, ds0, p0, q0, hargs, rfl, rfl, h0, r0⟩ := trodAll_cons hA
  obtain ⟨v1, vs1, d1, ds1, p1, q1, rfl, rfl, rfl, h1, r1⟩ := trodAll_cons r0
  obtain ⟨v2, vs2, d2, ds2, p2, q2, rfl, rfl, rfl, h2, r2⟩ := trodAll_cons r1
  obtain ⟨rfl, rfl, rfl⟩ := trodAll_nil r2
  obtain rfl : args = #[v0, v1, v2] := by cases args; simp_all
  obtain ⟨rfl, rfl⟩ := trodVars_none hV
  have hc := tab hL
  have k0 := h0
  have lt0 : ∀ x ∈ p0, x.block < W.heap.size := by obtain ⟨m, hm⟩ := k0; exact DataW.trod_lt m _ _ _ hm
  obtain ⟨y0, f0, w0⟩ := Opn.agg o32 (by kernel_rfl) rfl (hval 0 32 v0 rfl rfl) h0
  obtain ⟨y1, rfl, rfl, rfl, w1⟩ := open_int (show Tryz.prog.underlying 3 = some (.int .i64) by kernel_rfl) (hval 1 3 v1 rfl rfl) h1
  have k2 := h2
  have lt2 : ∀ x ∈ p2, x.block < W.heap.size := by obtain ⟨m, hm⟩ := k2; exact DataW.trod_lt m _ _ _ hm
  obtain ⟨y2, f2, w2⟩ := Opn.agg o46 (by kernel_rfl) rfl (hval 2 46 v2 rfl rfl) h2
  clear hA0 hval0
  refine (pl14_NegoDoes_ok (c := W) hc (G := ofW W) (w := W) (σ := []) f0 f2 (St.start W) (negoDoes_true w0 w1 w2)).mono fun e W' he => ?_
  cases e with
  | panicked ch => exact he.elim
  | outgrown => exact he.elim
  | returned v =>
    obtain ⟨G', _, rfl, H'⟩ := he
    have bel := H'.below
    exact ⟨_, rfl, _, _, _, [], _, [], hW', trodAll_mk1 (shut_bool (show Tryz.prog.underlying 4 = some .bool by kernel_rfl) _), (trodAll_cons_mk (Below.trod laidOut (by kernel_rfl) (of_decide_eq_true (by kernel_rfl)) k0 bel lt0) (trodAll_cons_mk (shut_int (show Tryz.prog.underlying 3 = some (.int .i64) by kernel_rfl) w1) (trodAll_cons_mk (Below.trod laidOut (by kernel_rfl) (of_decide_eq_true (by kernel_rfl)) k2 bel lt2) trodAll_mk0))), rfl, bel.frame _, fun h => by cases h⟩
theorem row_holds : Rows.NegoDoesSaid :=
  OpenClaim.holds_of_wide 6 Tryz.f6 rfl rfl rfl rfl rfl rfl rfl ⟨rfl, rfl, rfl, rfl, rfl⟩ rfl rfl rfl rfl rfl (by kernel_rfl) Tryz.func6 (by kernel_rfl)
    (of_decide_eq_true (by kernel_rfl)) (by unfold Func.isWrapper; first | (rw [if_pos (by decide +kernel)]; kernel_rfl) | (rw [if_neg (by decide +kernel)]; exact ⟨rfl, rfl⟩))
    (fun os started H enc _ => lifted os started H enc)
theorem card_holds : Rows.NegoDoesCardSaid :=
  Claim7.holds_tied_plain_at .later [] [.listed, .data] true (true, "c0a8c998641c89cad588d90fec08d04a5e256d923978a8ee92bd971b1ad12cd0") false
    row_holds (fun _ h => by cases h) (by kernel_rfl) (fun _ h => by cases h) negoDoes_row_tie rfl ⟨rfl, rfl⟩ (by kernel_rfl) rfl
    (fun f fn hf hfn => by
      obtain rfl : f = 6 := Option.some.inj ((show Tryz.prog.funcNamed "portreeve/portreevelaw14.NegoDoes" = some 6 by kernel_rfl).symm.trans hf) |>.symm
      obtain rfl : fn = Tryz.f6 := (Option.some.inj (Tryz.func6.symm.trans hfn)).symm
      exact ⟨by kernel_rfl, fun j t ht => by
        rw [Tryz.params6] at ht
        have hm : t ∈ [32, 3, 46] := by simpa using Array.mem_of_getElem? ht
        have hall : ([32, 3, 46].all fun u => !Tryz.prog.wantsStandIn u) = true := by kernel_rfl
        exact (show Tryz.prog.wantsStandIn t = false by simpa using List.all_eq_true.1 hall t hm)⟩)
    (by kernel_rfl)
#print axioms card_holds
end Go.Proofs.YtadlndnagfnlgaaGreatDoor.negoDoes
