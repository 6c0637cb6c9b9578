/- The program's functions as plain Lean functions (none: it panics, or goes on for ever, or passes a bound): written by a program (gen.py). -/
import Derived.Test.YtadlndnagfnlgaaDoorD
set_option linter.unusedVariables false
set_option maxRecDepth 20000
namespace Go.Proofs.YtadlndnagfnlgaaDoor.W
open Go
/-! portreeve/opts.Four -/
def opts_Four (a0 : Int) : Option (List Int) :=
  (some ([(IntKind.u8.wrap ((sShr .u32 a0 24))), (IntKind.u8.wrap ((sShr .u32 a0 16))), (IntKind.u8.wrap ((sShr .u32 a0 8))), (IntKind.u8.wrap (a0))] : (List Int)))
/-! portreeve/rules.number -/
def rules_number (a0 : Int) (a1 : Int) (a2 : Int) : Option TOpt :=
  ((opts_Four a2).bind fun r5 => ((cut r5 (some (IntKind.i64.wrap ((r5.length : Int) - a1))) none).bind fun r20 => (some (TOpt.mk a0 r20))))
/-! portreeve/rules.Ask -/
def rules_Ask (a0 : TRule) : Option (List TOpt) :=
  (if a0.Ip = true then ((rules_number 3 4 a0.Ours).bind fun r6 => (some ([r6] : (List TOpt)))) else ((rules_number 5 4 a0.Magic).bind fun r33 => (some ([(TOpt.mk 3 ([194, 35, 5] : (List Int))), r33] : (List TOpt)))))
/-! portreeve/nego.New -/
def nego_New (a0 : TRule) : Option TNego :=
  ((rules_Ask a0).bind fun r15 => (some (TNego.mk zTNego.A a0 r15 zTNego.Naks zTNego.Peer)))
/-! portreeve/fsm.letters -/
def fsm_letters  : Option Unit :=
  (some ())
/-! portreeve/fsm.table -/
def fsm_table  : Option (List ByteArray) :=
  (some ([(⟨#[50, 32, 105, 114, 54, 32, 45, 32, 45, 32, 45, 32, 45, 32, 45, 32, 45, 32, 45, 32, 45]⟩ : ByteArray), (⟨#[45, 32, 45, 32, 48, 32, 116, 49, 32, 48, 32, 49, 32, 49, 32, 49, 32, 49, 32, 100, 49]⟩ : ByteArray), (⟨#[116, 49, 32, 49, 32, 105, 114, 54, 32, 51, 32, 53, 32, 53, 32, 54, 32, 55, 32, 56, 32, 57]⟩ : ByteArray), (⟨#[48, 32, 102, 48, 32, 50, 32, 50, 32, 52, 32, 52, 32, 105, 115, 52, 32, 105, 115, 52, 32, 105, 115, 52, 32, 100, 105, 115, 52]⟩ : ByteArray), (⟨#[45, 32, 45, 32, 45, 32, 45, 32, 115, 52, 32, 115, 53, 32, 114, 54, 32, 114, 54, 32, 114, 56, 32, 45]⟩ : ByteArray), (⟨#[45, 32, 45, 32, 45, 32, 45, 32, 102, 50, 32, 102, 51, 32, 102, 51, 32, 102, 51, 32, 102, 51, 32, 45]⟩ : ByteArray), (⟨#[45, 32, 45, 32, 107, 50, 32, 105, 114, 97, 56, 32, 52, 32, 53, 32, 97, 56, 32, 97, 117, 57, 32, 97, 56, 32, 100, 114, 97, 56]⟩ : ByteArray), (⟨#[45, 32, 45, 32, 107, 50, 32, 105, 114, 110, 54, 32, 52, 32, 53, 32, 110, 54, 32, 110, 55, 32, 110, 54, 32, 100, 114, 110, 54]⟩ : ByteArray), (⟨#[45, 32, 45, 32, 107, 50, 32, 107, 51, 32, 52, 32, 53, 32, 105, 55, 32, 114, 54, 32, 105, 117, 57, 32, 100, 114, 54]⟩ : ByteArray), (⟨#[45, 32, 45, 32, 107, 50, 32, 107, 51, 32, 52, 32, 53, 32, 105, 114, 54, 32, 114, 54, 32, 105, 114, 56, 32, 100, 114, 54]⟩ : ByteArray), (⟨#[45, 32, 45, 32, 107, 50, 32, 107, 51, 32, 107, 52, 32, 107, 53, 32, 107, 54, 32, 107, 54, 32, 107, 54, 32, 100, 122, 107, 53]⟩ : ByteArray), (⟨#[45, 32, 45, 32, 50, 32, 51, 32, 102, 50, 32, 102, 51, 32, 54, 32, 54, 32, 56, 32, 100, 114, 54]⟩ : ByteArray), (⟨#[45, 32, 45, 32, 106, 50, 32, 106, 51, 32, 106, 52, 32, 106, 53, 32, 106, 54, 32, 106, 55, 32, 106, 56, 32, 106, 57]⟩ : ByteArray), (⟨#[45, 32, 45, 32, 50, 32, 51, 32, 52, 32, 53, 32, 54, 32, 54, 32, 56, 32, 57]⟩ : ByteArray), (⟨#[45, 32, 45, 32, 102, 50, 32, 102, 51, 32, 102, 50, 32, 102, 51, 32, 102, 51, 32, 102, 51, 32, 102, 51, 32, 100, 105, 115, 53]⟩ : ByteArray), (⟨#[45, 32, 45, 32, 50, 32, 51, 32, 52, 32, 53, 32, 54, 32, 55, 32, 56, 32, 101, 57]⟩ : ByteArray)] : (List ByteArray)))
/-! portreeve/fsm.Next -/
def fsm_Next_j3 (a0 : Int) (x41 : ByteArray) (x121 : Nat) (x130 : (List Int)) (x135 : Bool) : Option (((List Int) × Nat) ⊕ ((List Int) × Int × Bool)) :=
  (if x135 = true then (Option.map Sum.inr (some (x130, (IntKind.i64.wrap ((IntKind.i32.wrap ((nxt x41 x121).1 - 48)))), true))) else (if ((nxt x41 x121).1 == 45) = true then (Option.map Sum.inr (some (([] : (List Int)), a0, false))) else ((app x130 ([((lkI [(117, 1), (100, 2), (116, 3), (102, 4), (105, 5), (122, 6), (114, 7), (97, 8), (110, 9), (115, 10), (107, 11), (106, 12), (101, 13)] ((nxt x41 x121).1)).getD 0)] : (List Int))).bind fun r149 => (some (.inl (r149, (nxt x41 x121).2))))))
def fsm_Next_l2 (a0 : Int) (x41 : ByteArray) (x116 : (List Int)) (x121 : Nat) : Option (((List Int) × Nat) ⊕ ((List Int) × Int × Bool)) :=
  (if (decide (x121 < x41.size)) = true then (if (decide ((nxt x41 x121).1 ≥ 48)) = true then (fsm_Next_j3 a0 x41 x121 x116 (decide ((nxt x41 x121).1 ≤ 57))) else (fsm_Next_j3 a0 x41 x121 x116 false)) else (Option.map Sum.inr (some (([] : (List Int)), a0, false))))
def fsm_Next_j1 (a0 : Int) (a1 : Int) (x4 : Bool) : Option ((List Int) × Int × Bool) :=
  (if x4 = true then (some (([] : (List Int)), a0, false)) else ((fsm_letters).bind fun r9 => ((fsm_table).bind fun r18 => ((idx r18 a1).bind fun x27 => ((flds x27).bind fun r31 => ((idx r31 a0).bind fun x41 => (loopM (fun s => fsm_Next_l2 a0 x41 s.1 s.2) (([] : (List Int)), 0))))))))
def fsm_Next (a0 : Int) (a1 : Int) : Option ((List Int) × Int × Bool) :=
  (if (decide (a0 < 0)) = true then (fsm_Next_j1 a0 a1 true) else (if (decide (a0 ≥ 10)) = true then (fsm_Next_j1 a0 a1 true) else (if (decide (a1 < 0)) = true then (fsm_Next_j1 a0 a1 true) else (fsm_Next_j1 a0 a1 (decide (a1 ≥ 16))))))
/-! slices.Index[[]int,int] -/
def slices_Index_int_l1 (a0 : (List Int)) (a1 : Int) (x9 : Int) : Option (Int ⊕ Int) :=
  (if (decide (x9 < (a0.length : Int))) = true then ((idx a0 x9).bind fun x15 => (if (a1 == x15) = true then (Option.map Sum.inr (some x9)) else (some (.inl (IntKind.i64.wrap (x9 + 1)))))) else (Option.map Sum.inr (some (-1))))
def slices_Index_int (a0 : (List Int)) (a1 : Int) : Option Int :=
  (loopM (fun s => slices_Index_int_l1 a0 a1 s) 0)
/-! slices.Contains[[]int,int] -/
def slices_Contains_int (a0 : (List Int)) (a1 : Int) : Option Bool :=
  ((slices_Index_int a0 a1).bind fun r1 => (some (decide (r1 ≥ 0))))
/-! (*portreeve/auto.work).begin -/
def auto_work_begin (x2 : Tauto_work) : Option Tauto_work :=
  ((slices_Contains_int x2.L 10).bind fun r10 => (if r10 = true then (some (Tauto_work.mk (TAuto.mk x2.Auto.State 2 x2.Auto.Left x2.Auto.Id) x2.L)) else (some (Tauto_work.mk (TAuto.mk x2.Auto.State 5 x2.Auto.Left x2.Auto.Id) x2.L))))
/-! (*portreeve/auto.work).nought -/
def auto_work_nought (x2 : Tauto_work) : Option Tauto_work :=
  (some (Tauto_work.mk (TAuto.mk x2.Auto.State 0 3 x2.Auto.Id) x2.L))
/-! (*portreeve/auto.work).send -/
def auto_work_send (x2 : Tauto_work) : Option Tauto_work :=
  (some (Tauto_work.mk (TAuto.mk x2.Auto.State (if (IntKind.i64.wrap (x2.Auto.Count - 1)) < 0 then 0 else (IntKind.i64.wrap (x2.Auto.Count - 1))) 3 (IntKind.u8.wrap (x2.Auto.Id + 1))) x2.L))
/-! portreeve/fsm.Timed -/
def fsm_Timed (a0 : Int) : Option Bool :=
  (if (decide (a0 ≥ 4)) = true then (some (decide (a0 ≤ 8))) else (some false))
/-! portreeve/auto.Do -/
def auto_Do_j2 (x192 : Int) (x239 : Tauto_work) : Option ((Int × Tauto_work) ⊕ (TAuto × (List Int) × Int)) :=
  (some (.inl ((IntKind.i64.wrap (x192 + 1)), x239)))
def auto_Do_l1 (r9 : ((List Int) × Int × Bool)) (x192 : Int) (x193 : Tauto_work) : Option ((Int × Tauto_work) ⊕ (TAuto × (List Int) × Int)) :=
  (if (decide (x192 < (r9.1.length : Int))) = true then ((idx r9.1 x192).bind fun x243 => (if (x243 == 5) = true then ((auto_work_begin x193).bind fun r252 => (auto_Do_j2 x192 r252)) else (if (x243 == 6) = true then ((auto_work_nought x193).bind fun r260 => (auto_Do_j2 x192 r260)) else (if (x243 == 7) = true then ((auto_work_send x193).bind fun r268 => (auto_Do_j2 x192 r268)) else (if (x243 == 10) = true then ((auto_work_send x193).bind fun r276 => (auto_Do_j2 x192 r276)) else (auto_Do_j2 x192 x193)))))) else (Option.map Sum.inr ((fsm_Timed r9.2.1).bind fun r285 => (if (!r285) = true then (some ((TAuto.mk r9.2.1 x193.Auto.Count 0 x193.Auto.Id), r9.1, 0)) else (some ((TAuto.mk r9.2.1 x193.Auto.Count x193.Auto.Left x193.Auto.Id), r9.1, 0))))))
def auto_Do (a0 : TAuto) (a1 : Int) : Option (TAuto × (List Int) × Int) :=
  ((fsm_Next a0.State a1).bind fun r9 => (if (!r9.2.2) = true then (some (a0, ([] : (List Int)), 1)) else (loopM (fun s => auto_Do_l1 r9 s.1 s.2) (0, (Tauto_work.mk a0 r9.1)))))
/-! portreeve/opts.Bytes -/
def opts_Bytes_l1 (a0 : (List TOpt)) (x106 : (List Int)) (x111 : Int) : Option (((List Int) × Int) ⊕ ((List Int) × Int)) :=
  (if (decide (x111 < (a0.length : Int))) = true then ((idx a0 x111).bind fun x163 => (if (decide ((x163.Data.length : Int) > 253)) = true then (Option.map Sum.inr (some (([] : (List Int)), 1))) else ((app x106 ([x163.Typ, (IntKind.u8.wrap ((IntKind.i64.wrap ((x163.Data.length : Int) + 2))))] : (List Int))).bind fun r192 => ((app r192 x163.Data).bind fun r204 => (some (.inl (r204, (IntKind.i64.wrap (x111 + 1))))))))) else (Option.map Sum.inr (if (decide ((x106.length : Int) > 1496)) = true then (some (([] : (List Int)), 1)) else (some (x106, 0)))))
def opts_Bytes (a0 : (List TOpt)) : Option ((List Int) × Int) :=
  (loopM (fun s => opts_Bytes_l1 a0 s.1 s.2) (([] : (List Int)), 0))
/-! (*portreeve/nego.work).acts -/
def nego_work_acts_j3 (x413 : Int) (x570 : TNego) (x571 : (List TPkt)) (x576 : (List Int)) (x581 : TPkt) : Option ((Int × TNego × (List TPkt) × (List Int) × TPkt) ⊕ (TNego × (List TPkt) × (List Int) × TPkt)) :=
  (some (.inl ((IntKind.i64.wrap (x413 + 1)), x570, x571, x576, x581)))
def nego_work_acts_j5 (x413 : Int) (x585 : Int) (x942 : Bool) (x943 : TNego) (x944 : (List TPkt)) (x949 : (List Int)) (x954 : TPkt) : Option ((Int × TNego × (List TPkt) × (List Int) × TPkt) ⊕ (TNego × (List TPkt) × (List Int) × TPkt)) :=
  (if x942 = true then ((app x949 ([x585] : (List Int))).bind fun r965 => (nego_work_acts_j3 x413 x943 x944 r965 x954)) else (nego_work_acts_j3 x413 x943 x944 x949 x954))
def nego_work_acts_j4 (a3 : TPkt) (x413 : Int) (x585 : Int) (x844 : Bool) (x845 : TNego) (x846 : (List TPkt)) (x851 : (List Int)) (x856 : TPkt) : Option ((Int × TNego × (List TPkt) × (List Int) × TPkt) ⊕ (TNego × (List TPkt) × (List Int) × TPkt)) :=
  (if x844 = true then ((app x846 ([a3] : (List TPkt))).bind fun r871 => (nego_work_acts_j3 x413 x845 r871 x851 x856)) else (if (x585 == 1) = true then (nego_work_acts_j5 x413 x585 (x585 == 1) x845 x846 x851 x856) else (if (x585 == 2) = true then (nego_work_acts_j5 x413 x585 (x585 == 2) x845 x846 x851 x856) else (if (x585 == 3) = true then (nego_work_acts_j5 x413 x585 (x585 == 3) x845 x846 x851 x856) else (nego_work_acts_j5 x413 x585 (x585 == 4) x845 x846 x851 x856)))))
def nego_work_acts_l2 (a2 : (List Int)) (a3 : TPkt) (x413 : Int) (x414 : TNego) (x415 : (List TPkt)) (x420 : (List Int)) (x425 : TPkt) : Option ((Int × TNego × (List TPkt) × (List Int) × TPkt) ⊕ (TNego × (List TPkt) × (List Int) × TPkt)) :=
  (if (decide (x413 < (a2.length : Int))) = true then ((idx a2 x413).bind fun x585 => (if (x585 == 7) = true then ((opts_Bytes x414.Ours).bind fun r595 => ((app x415 ([(TPkt.mk 1 x414.A.Id r595.1)] : (List TPkt))).bind fun r615 => (nego_work_acts_j3 x413 x414 r615 x420 x425))) else (if (x585 == 10) = true then ((app x415 ([(TPkt.mk 5 x414.A.Id zTPkt.Data)] : (List TPkt))).bind fun r694 => (nego_work_acts_j3 x413 x414 r694 x420 x425)) else (if (x585 == 11) = true then ((app x415 ([(TPkt.mk 6 x425.Id zTPkt.Data)] : (List TPkt))).bind fun r773 => (nego_work_acts_j3 x413 x414 r773 x420 x425)) else (if (x585 == 8) = true then (nego_work_acts_j4 a3 x413 x585 (x585 == 8) x414 x415 x420 x425) else (if (x585 == 9) = true then (nego_work_acts_j4 a3 x413 x585 (x585 == 9) x414 x415 x420 x425) else (if (x585 == 12) = true then (nego_work_acts_j4 a3 x413 x585 (x585 == 12) x414 x415 x420 x425) else (nego_work_acts_j4 a3 x413 x585 (x585 == 13) x414 x415 x420 x425)))))))) else (Option.map Sum.inr (some (x414, x415, x420, x425))))
def nego_work_acts_j1 (a2 : (List Int)) (a3 : TPkt) (x66 : TNego) (x67 : (List TPkt)) (x72 : (List Int)) (x77 : TPkt) : Option (TNego × (List TPkt) × (List Int) × TPkt) :=
  (loopM (fun s => nego_work_acts_l2 a2 a3 s.1 s.2.1 s.2.2.1 s.2.2.2.1 s.2.2.2.2) (0, x66, x67, x72, x77))
def nego_work_acts_j6 (a2 : (List Int)) (a3 : TPkt) (x996 : Bool) (x997 : TNego) (x998 : (List TPkt)) (x1003 : (List Int)) (x1008 : TPkt) : Option (TNego × (List TPkt) × (List Int) × TPkt) :=
  (if x996 = true then ((rules_Ask x997.R).bind fun r1015 => (nego_work_acts_j1 a2 a3 (TNego.mk x997.A x997.R r1015 0 []) x998 x1003 x1008)) else (nego_work_acts_j1 a2 a3 x997 x998 x1003 x1008))
def nego_work_acts (x2 : TNego) (x3 : (List TPkt)) (x8 : (List Int)) (x13 : TPkt) (a1 : Int) (a2 : (List Int)) (a3 : TPkt) : Option (TNego × (List TPkt) × (List Int) × TPkt) :=
  (if (decide (a1 ≤ 3)) = true then ((slices_Contains_int a2 5).bind fun r1032 => (if r1032 = true then ((slices_Contains_int a2 7).bind fun r1040 => (nego_work_acts_j6 a2 a3 r1040 x2 x3 x8 x13)) else (nego_work_acts_j6 a2 a3 false x2 x3 x8 x13))) else (nego_work_acts_j6 a2 a3 false x2 x3 x8 x13))
/-! (*portreeve/nego.work).event -/
def nego_work_event (x2 : TNego) (x3 : (List TPkt)) (x8 : (List Int)) (x13 : TPkt) (a1 : Int) (a2 : TPkt) : Option ((List Int) × TNego × (List TPkt) × (List Int) × TPkt) :=
  ((auto_Do x2.A a1).bind fun r20 => (if (r20.2.2 != 0) = true then (some (([] : (List Int)), x2, x3, x8, x13)) else ((nego_work_acts (TNego.mk r20.1 x2.R x2.Ours x2.Naks x2.Peer) x3 x8 x13 x2.A.State r20.2.1 a2).bind fun r45 => (some (r20.2.1, r45.1, r45.2.1, r45.2.2.1, r45.2.2.2)))))
/-! (*portreeve/nego.work).told -/
def nego_work_told (x2 : TNego) (x3 : (List TPkt)) (x8 : (List Int)) (x13 : TPkt) : Option (TNego × (List TPkt) × (List Int)) :=
  (some (x2, x3, x8))
/-! portreeve/nego.Do -/
def nego_Do_j1  (x50 : TNego) (x51 : (List TPkt)) (x56 : (List Int)) (x61 : TPkt) : Option (TNego × (List TPkt) × (List Int)) :=
  ((nego_work_told x50 x51 x56 x61).bind fun r65 => (some (r65.1, r65.2.1, r65.2.2)))
def nego_Do_j2 (a1 : Int) (x86 : Bool) (x87 : TNego) (x88 : (List TPkt)) (x93 : (List Int)) (x98 : TPkt) : Option (TNego × (List TPkt) × (List Int)) :=
  (if x86 = true then ((nego_work_event x87 x88 x93 x98 a1 zTPkt).bind fun r105 => (nego_Do_j1 r105.2.1 r105.2.2.1 r105.2.2.2.1 r105.2.2.2.2)) else (nego_Do_j1 x87 x88 x93 x98))
def nego_Do (a0 : TNego) (a1 : Int) : Option (TNego × (List TPkt) × (List Int)) :=
  (if (decide (a1 ≥ 0)) = true then (nego_Do_j2 a1 (decide (a1 ≤ 3)) a0 ([] : (List TPkt)) ([] : (List Int)) zTPkt) else (nego_Do_j2 a1 false a0 ([] : (List TPkt)) ([] : (List Int)) zTPkt))
/-! portreeve/pack.codes -/
def pack_codes  : Option Unit :=
  (some ())
/-! portreeve/pack.Known -/
def pack_Known (a0 : Int) (a1 : Int) : Option Bool :=
  ((pack_codes).bind fun r24 => (if (lkK ([(49185, ([1, 11] : (List Int))), (49699, ([1, 4] : (List Int))), (32801, ([1, 7] : (List Int)))] : List (Int × (List Int))) a0).isSome = true then (if (decide (a1 ≥ (((lkK ([(49185, ([1, 11] : (List Int))), (49699, ([1, 4] : (List Int))), (32801, ([1, 7] : (List Int)))] : List (Int × (List Int))) a0).getD (List.replicate 2 0)).getD 0 0))) = true then (some (decide (a1 ≤ (((lkK ([(49185, ([1, 11] : (List Int))), (49699, ([1, 4] : (List Int))), (32801, ([1, 7] : (List Int)))] : List (Int × (List Int))) a0).getD (List.replicate 2 0)).getD 1 0)))) else (some false)) else (some false)))
/-! portreeve/pack.Bytes -/
def pack_Bytes (a0 : TPkt) : Option ((List Int) × Int) :=
  (if (decide ((IntKind.i64.wrap ((a0.Data.length : Int) + 4)) > 1500)) = true then (some (([] : (List Int)), 1)) else ((app ([a0.Code, a0.Id, (IntKind.u8.wrap ((sShr .i64 (IntKind.i64.wrap ((a0.Data.length : Int) + 4)) 8))), (IntKind.u8.wrap ((IntKind.i64.wrap ((a0.Data.length : Int) + 4))))] : (List Int)) a0.Data).bind fun r20 => (some (r20, 0))))
/-! portreeve/pack.short -/
def pack_short (a0 : (List Int)) : Option (List Int) :=
  ((cut a0 none (some (if 1496 < (a0.length : Int) then 1496 else (a0.length : Int)))).bind fun r1 => (some r1))
/-! portreeve/pack.Reject -/
def pack_Reject (a0 : TPkt) (a1 : Int) : Option TPkt :=
  ((pack_Bytes a0).bind fun r11 => ((pack_short r11.1).bind fun r21 => (some (TPkt.mk 7 a1 r21))))
/-! portreeve/nego.codes -/
def nego_codes  : Option Unit :=
  (some ())
/-! portreeve/opts.parts -/
def opts_parts (a0 : (List Int)) : Option (List Int) :=
  (some a0)
def rd_opts_Read_t (o : TOpt) (x : (List TOpt)) (y0 : (List TOpt)) (y1 : Int) : Option ((List TOpt) × (List TOpt) × Int) :=
  ((app x ([o] : (List TOpt))).bind fun r45 => (some (r45, y0, y1)))
def rd_opts_Read_f (o : TOpt) (x : (List TOpt)) (y0 : (List TOpt)) (y1 : Int) : Option ((List TOpt) × (List TOpt) × Int) :=
  (some (x, [], 2))
/-! portreeve/opts.parts$1 -/
def opts_parts_1_yld_j2 (x307 : (List TOpt)) (x308 : Int) (x309 : (List Int)) (x350 : Bool) (x351 : (List TOpt)) : Option (((List TOpt) × (List TOpt) × Int × (List Int)) ⊕ (Bool × (List TOpt) × (List TOpt) × Int × (List Int))) :=
  (if x350 = true then ((rd_opts_Read_f zTOpt x351 x307 x308).bind fun r363 => (Option.map Sum.inr (some (false, r363.1, r363.2.1, r363.2.2, x309)))) else ((idx x309 1).bind fun x378 => ((idx x309 0).bind fun x420 => ((cut x309 (some 2) (some (IntKind.i64.wrap (x378)))).bind fun r429 => ((rd_opts_Read_t (TOpt.mk x420 r429) x351 x307 x308).bind fun r436 => ((cut x309 (some (IntKind.i64.wrap (x378))) none).bind fun r522 => (some (.inl (r436.1, r436.2.1, r436.2.2, r522)))))))))
def opts_parts_1_yld_l1  (x302 : (List TOpt)) (x307 : (List TOpt)) (x308 : Int) (x309 : (List Int)) : Option (((List TOpt) × (List TOpt) × Int × (List Int)) ⊕ (Bool × (List TOpt) × (List TOpt) × Int × (List Int))) :=
  (if (decide ((x309.length : Int) > 0)) = true then (if (decide ((x309.length : Int) < 2)) = true then (opts_parts_1_yld_j2 x307 x308 x309 true x302) else ((idx x309 1).bind fun x586 => (if (decide (x586 < 2)) = true then (opts_parts_1_yld_j2 x307 x308 x309 true x302) else ((idx x309 1).bind fun x620 => (opts_parts_1_yld_j2 x307 x308 x309 (decide ((IntKind.i64.wrap (x620)) > (x309.length : Int))) x302))))) else (Option.map Sum.inr (some (true, x302, x307, x308, x309))))
def opts_parts_1_yld (a0x : (List TOpt)) (a0y : (List TOpt)) (a0z : Int) (x7 : (List Int)) : Option (Bool × (List TOpt) × (List TOpt) × Int × (List Int)) :=
  (loopM (fun s => opts_parts_1_yld_l1 s.1 s.2.1 s.2.2.1 s.2.2.2) (a0x, a0y, a0z, x7))
/-! portreeve/opts.Read -/
def opts_Read (a0 : (List Int)) : Option ((List TOpt) × Int) :=
  ((opts_parts a0).bind fun r13 => ((opts_parts_1_yld ([] : (List TOpt)) [] 0 r13).bind fun r31 => (if r31.1 = true then (some (r31.2.1, 0)) else (some (r31.2.2.1, r31.2.2.2.1)))))
/-! portreeve/rules.kinds -/
def rules_kinds_k1 (a0 : TRule) : Option Unit :=
  (some ())
/-! portreeve/rules.kinds -/
def rules_kinds_k0 (a0 : TRule) : Option Unit :=
  (some ())
/-! portreeve/rules.of -/
def rules_of_j1 (a1 : TOpt) (x68 : Trules_kind) (x71 : Bool) : Option (Trules_kind × Bool) :=
  (if x71 = true then (some (x68, (x68.Long == (a1.Data.length : Int)))) else (some (x68, false)))
def rules_of (a0 : TRule) (a1 : TOpt) : Option (Trules_kind × Bool) :=
  (if a0.Ip = true then ((rules_kinds_k1 a0).bind fun r238 => (if (a1.Typ == 3) = true then (rules_of_j1 a1 (Trules_kind.mk 4 (FV.rules_kinds_1 a0) a0.Addr) true) else (rules_of_j1 a1 zTrules_kind false))) else ((rules_kinds_k0 a0).bind fun r607 => (rules_of_j1 a1 ((lkK ([(1, (Trules_kind.mk 2 FV.rules_kinds_2 64)), (2, (Trules_kind.mk 4 FV.rules_never 0)), (5, (Trules_kind.mk 4 (FV.rules_kinds_3 a0) a0.Other)), (7, (Trules_kind.mk 0 FV.rules_never 0)), (8, (Trules_kind.mk 0 FV.rules_never 0))] : List (Int × Trules_kind)) a1.Typ).getD zTrules_kind) ((lkK ([(1, (Trules_kind.mk 2 FV.rules_kinds_2 64)), (2, (Trules_kind.mk 4 FV.rules_never 0)), (5, (Trules_kind.mk 4 (FV.rules_kinds_3 a0) a0.Other)), (7, (Trules_kind.mk 0 FV.rules_never 0)), (8, (Trules_kind.mk 0 FV.rules_never 0))] : List (Int × Trules_kind)) a1.Typ).isSome))))
/-! portreeve/opts.Number -/
def opts_Number_l1 (a0 : (List Int)) (x9 : Int) (x10 : Int) : Option ((Int × Int) ⊕ Int) :=
  (if (decide (x10 < (a0.length : Int))) = true then ((idx a0 x10).bind fun x16 => (some (.inl ((bOr .u32 (sShl .u32 x9 8) (IntKind.u32.wrap (x16))), (IntKind.i64.wrap (x10 + 1)))))) else (Option.map Sum.inr (some x9)))
def opts_Number (a0 : (List Int)) : Option Int :=
  (loopM (fun s => opts_Number_l1 a0 s.1 s.2) (0, 0))
/-! portreeve/rules.kinds$1 -/
def rules_kinds_1 (a0 : Int) (a1 : TRule) : Option Bool :=
  (some (a0 != a1.Addr))
/-! portreeve/rules.kinds$2 -/
def rules_kinds_2 (a0 : Int) : Option Bool :=
  (some (decide (a0 < 64)))
/-! portreeve/rules.never -/
def rules_never (a0 : Int) : Option Bool :=
  (some false)
/-! portreeve/rules.kinds$3 -/
def rules_kinds_3 (a0 : Int) (a1 : TRule) : Option Bool :=
  (if (a0 == 0) = true then (some true) else (some (a0 == a1.Magic)))
def ap (x : FV) (a0 : Int) : Option Bool :=
  match x with
  | .nil => none
  | .rules_kinds_1 r => rules_kinds_1 a0 r
  | .rules_kinds_2 => rules_kinds_2 a0
  | .rules_never => rules_never a0
  | .rules_kinds_3 r => rules_kinds_3 a0 r
/-! portreeve/rules.Address$1 -/
def rules_Address_1 (a0 : TOpt) : Option Bool :=
  ((rules_of (TRule.mk true zTRule.Magic zTRule.Other zTRule.Addr zTRule.Ours) a0).bind fun r9 => (some r9.2))
/-! slices.IndexFunc[[]portreeve/api.Opt,portreeve/api.Opt] -/
def slices_IndexFunc_Opt_rules_Address_1_l1 (a0 : (List TOpt)) (x18 : Int) : Option (Int ⊕ Int) :=
  (if (decide (x18 < (a0.length : Int))) = true then ((idx a0 x18).bind fun x24 => ((rules_Address_1 x24).bind fun r30 => (if r30 = true then (Option.map Sum.inr (some x18)) else (some (.inl (IntKind.i64.wrap (x18 + 1))))))) else (Option.map Sum.inr (some (-1))))
def slices_IndexFunc_Opt_rules_Address_1 (a0 : (List TOpt)) : Option Int :=
  (loopM (fun s => slices_IndexFunc_Opt_rules_Address_1_l1 a0 s) 0)
/-! portreeve/rules.Address -/
def rules_Address (a0 : (List TOpt)) : Option (Int × Bool) :=
  ((slices_IndexFunc_Opt_rules_Address_1 a0).bind fun r1 => (if (decide (r1 < 0)) = true then (some (0, false)) else ((idx a0 r1).bind fun x9 => ((opts_Number x9.Data).bind fun r18 => (some (r18, true))))))
/-! portreeve/rules.Answer -/
def rules_Answer_j2 (x239 : Int) (x364 : (List TOpt)) (x369 : (List TOpt)) (x374 : (List TOpt)) : Option (((List TOpt) × (List TOpt) × (List TOpt) × Int) ⊕ (Int × (List TOpt))) :=
  (some (.inl (x364, x369, x374, (IntKind.i64.wrap (x239 + 1)))))
def rules_Answer_j4 (a1 : (List TOpt)) (x634 : (List TOpt)) (x638 : (List TOpt)) : Option (Int × (List TOpt)) :=
  (if (decide ((x634.length : Int) > 0)) = true then (some (4, x634)) else (if (decide ((x638.length : Int) > 0)) = true then (some (3, x638)) else (some (2, a1))))
def rules_Answer_j3 (a1 : (List TOpt)) (a2 : Int) (x617 : (List TOpt)) (x621 : (List TOpt)) (x625 : (List TOpt)) : Option (Int × (List TOpt)) :=
  (if (decide (a2 ≥ 3)) = true then (if ((x617.length : Int) == 0) = true then (rules_Answer_j4 a1 x621 ([] : (List TOpt))) else (rules_Answer_j4 a1 x617 ([] : (List TOpt)))) else (rules_Answer_j4 a1 x617 x625))
def rules_Answer_j5 (a0 : TRule) (a1 : (List TOpt)) (a2 : Int) (x657 : (List TOpt)) (x661 : (List TOpt)) (x665 : (List TOpt)) (x670 : Bool) : Option (Int × (List TOpt)) :=
  (if x670 = true then ((rules_number 3 4 a0.Addr).bind fun r675 => ((app x665 ([r675] : (List TOpt))).bind fun r688 => (rules_Answer_j3 a1 a2 x657 x661 r688))) else (rules_Answer_j3 a1 a2 x657 x661 x665))
def rules_Answer_l1 (a0 : TRule) (a1 : (List TOpt)) (a2 : Int) (x224 : (List TOpt)) (x229 : (List TOpt)) (x234 : (List TOpt)) (x239 : Int) : Option (((List TOpt) × (List TOpt) × (List TOpt) × Int) ⊕ (Int × (List TOpt))) :=
  (if (decide (x239 < (a1.length : Int))) = true then ((idx a1 x239).bind fun x382 => ((rules_of a0 x382).bind fun r398 => (if (!r398.2) = true then ((app x224 ([x382] : (List TOpt))).bind fun r420 => (rules_Answer_j2 x239 r420 x229 x234)) else ((opts_Number x382.Data).bind fun r456 => ((ap r398.1.Not r456).bind fun r463 => (if r463 = true then ((app x229 ([x382] : (List TOpt))).bind fun r521 => ((rules_number x382.Typ r398.1.Long r398.1.Should).bind fun r528 => ((app x234 ([r528] : (List TOpt))).bind fun r541 => (rules_Answer_j2 x239 x224 r521 r541)))) else (rules_Answer_j2 x239 x224 x229 x234))))))) else (Option.map Sum.inr ((rules_Address a1).bind fun r649 => (if a0.Ip = true then (rules_Answer_j5 a0 a1 a2 x224 x229 x234 (!r649.2)) else (rules_Answer_j5 a0 a1 a2 x224 x229 x234 false)))))
def rules_Answer (a0 : TRule) (a1 : (List TOpt)) (a2 : Int) : Option (Int × (List TOpt)) :=
  (loopM (fun s => rules_Answer_l1 a0 a1 a2 s.1 s.2.1 s.2.2.1 s.2.2.2) (([] : (List TOpt)), ([] : (List TOpt)), ([] : (List TOpt)), 0))
/-! (*portreeve/nego.work).reply -/
def nego_work_reply (x2 : TNego) (x3 : (List TPkt)) (x8 : (List Int)) (x13 : TPkt) (a1 : Int) (a2 : (List Int)) : Option (TPkt × TNego × (List TPkt) × (List Int) × TPkt) :=
  (some ((TPkt.mk a1 x13.Id a2), x2, x3, x8, x13))
/-! portreeve/nego.answers -/
def nego_answers (a0 : (List Int)) : Option Bool :=
  ((slices_Contains_int a0 8).bind fun r1 => (if r1 = true then (some true) else ((slices_Contains_int a0 9).bind fun r9 => (some r9))))
/-! (*portreeve/nego.work).request -/
def nego_work_request_j2 (r19 : ((List TOpt) × Int)) (r64 : (Int × (List TOpt))) (r101 : ((List Int) × Int)) (x112 : Int) (x113 : TNego) (x114 : (List TPkt)) (x119 : (List Int)) (x124 : TPkt) : Option (TNego × (List TPkt) × (List Int) × TPkt) :=
  ((nego_work_reply x113 x114 x119 x124 r64.1 r101.1).bind fun r128 => ((nego_work_event r128.2.1 r128.2.2.1 r128.2.2.2.1 r128.2.2.2.2 x112 r128.1).bind fun r143 => ((nego_answers r143.1).bind fun r159 => (if (!r159) = true then (some (r143.2.1, r143.2.2.1, r143.2.2.2.1, r143.2.2.2.2)) else (if (r64.1 == 2) = true then (some ((TNego.mk r143.2.1.A r143.2.1.R r143.2.1.Ours 0 r19.1), r143.2.2.1, r143.2.2.2.1, r143.2.2.2.2)) else (if (r64.1 == 3) = true then (some ((TNego.mk r143.2.1.A r143.2.1.R r143.2.1.Ours (if 3 < (IntKind.i64.wrap (r143.2.1.Naks + 1)) then 3 else (IntKind.i64.wrap (r143.2.1.Naks + 1))) r143.2.1.Peer), r143.2.2.1, r143.2.2.2.1, r143.2.2.2.2)) else (some (r143.2.1, r143.2.2.1, r143.2.2.2.1, r143.2.2.2.2))))))))
def nego_work_request_j1 (r19 : ((List TOpt) × Int)) (x33 : TNego) (x34 : (List TPkt)) (x39 : (List Int)) (x44 : TPkt) : Option (TNego × (List TPkt) × (List Int) × TPkt) :=
  ((rules_Answer x33.R r19.1 x33.Naks).bind fun r64 => ((opts_Bytes r64.2).bind fun r101 => (if (r64.1 == 2) = true then (nego_work_request_j2 r19 r64 r101 6 x33 x34 x39 x44) else (nego_work_request_j2 r19 r64 r101 7 x33 x34 x39 x44))))
def nego_work_request (x2 : TNego) (x3 : (List TPkt)) (x8 : (List Int)) (x13 : TPkt) : Option (TNego × (List TPkt) × (List Int) × TPkt) :=
  ((opts_Read x13.Data).bind fun r19 => (if (r19.2 != 0) = true then (some (x2, x3, x8, x13)) else (if (x2.A.State == 3) = true then (nego_work_request_j1 r19 (TNego.mk x2.A x2.R x2.Ours 0 x2.Peer) x3 x8 x13) else (nego_work_request_j1 r19 x2 x3 x8 x13))))
/-! bytes.Equal -/
def bytes_Equal (a0 : (List Int)) (a1 : (List Int)) : Option Bool :=
  (some (streq (bstr a0) (bstr a1)))
/-! (*portreeve/nego.work).ack -/
def nego_work_ack_j1  (x42 : Bool) (x43 : TNego) (x44 : (List TPkt)) (x49 : (List Int)) (x54 : TPkt) : Option (TNego × (List TPkt) × (List Int) × TPkt) :=
  (if x42 = true then ((nego_work_event x43 x44 x49 x54 8 zTPkt).bind fun r61 => (some (r61.2.1, r61.2.2.1, r61.2.2.2.1, r61.2.2.2.2))) else (some (x43, x44, x49, x54)))
def nego_work_ack (x2 : TNego) (x3 : (List TPkt)) (x8 : (List Int)) (x13 : TPkt) : Option (TNego × (List TPkt) × (List Int) × TPkt) :=
  ((opts_Bytes x2.Ours).bind fun r19 => (if (x13.Id == x2.A.Id) = true then ((bytes_Equal r19.1 x13.Data).bind fun r85 => (nego_work_ack_j1 r85 x2 x3 x8 x13)) else (nego_work_ack_j1 false x2 x3 x8 x13)))
/-! portreeve/opts.of -/
def opts_of (a0 : Int) : Option Int :=
  (some a0)
/-! portreeve/opts.of$1 -/
def opts_of_1 (a0 : TOpt) (x2 : Int) : Option (Bool × Int) :=
  (some ((a0.Typ == x2), x2))
/-! slices.IndexFunc[[]portreeve/api.Opt,portreeve/api.Opt] -/
def slices_IndexFunc_Opt_opts_of_1_l1 (a0 : (List TOpt)) (x38 : Int) (x39 : Int) : Option ((Int × Int) ⊕ (Int × Int)) :=
  (if (decide (x38 < (a0.length : Int))) = true then ((idx a0 x38).bind fun x45 => ((opts_of_1 x45 x39).bind fun r51 => (if r51.1 = true then (Option.map Sum.inr (some (x38, r51.2))) else (some (.inl ((IntKind.i64.wrap (x38 + 1)), r51.2)))))) else (Option.map Sum.inr (some ((-1), x39))))
def slices_IndexFunc_Opt_opts_of_1 (a0 : (List TOpt)) (x2 : Int) : Option (Int × Int) :=
  (loopM (fun s => slices_IndexFunc_Opt_opts_of_1_l1 a0 s.1 s.2) (0, x2))
/-! portreeve/opts.first[portreeve/api.Opt] -/
def opts_first_Opt_opts_of_1 (a0 : (List TOpt)) (x2 : Int) : Option (TOpt × Int × Int) :=
  ((slices_IndexFunc_Opt_opts_of_1 a0 x2).bind fun r11 => (if (decide (r11.1 < 0)) = true then (some (zTOpt, r11.1, r11.2)) else ((idx a0 r11.1).bind fun x26 => (some (x26, r11.1, r11.2)))))
/-! portreeve/opts.Find -/
def opts_Find (a0 : (List TOpt)) (a1 : Int) : Option (TOpt × Bool) :=
  ((opts_of a1).bind fun r5 => ((opts_first_Opt_opts_of_1 a0 r5).bind fun r14 => (some (r14.1, (decide (r14.2.1 ≥ 0))))))
/-! slices.Clone[[]portreeve/api.Opt,portreeve/api.Opt] -/
def slices_Clone_Opt (a0 : (List TOpt)) : Option (List TOpt) :=
  ((app ([] : (List TOpt)) a0).bind fun r8 => (some r8))
/-! portreeve/rules.Turn$1 -/
def rules_Turn_1 (a0 : TOpt) (x2 : (List TOpt)) : Option (Bool × (List TOpt)) :=
  ((opts_Find x2 a0.Typ).bind fun r12 => (some (r12.2, x2)))
/-! slices.IndexFunc[[]portreeve/api.Opt,portreeve/api.Opt] -/
def slices_IndexFunc_Opt_rules_Turn_1_ownR_l1 (a0 : (List TOpt)) (x39 : Int) (x40 : (List TOpt)) : Option ((Int × (List TOpt)) ⊕ (Int × (List TOpt))) :=
  (if (decide (x39 < (a0.length : Int))) = true then ((idx a0 x39).bind fun x46 => ((rules_Turn_1 x46 x40).bind fun r52 => (if r52.1 = true then (Option.map Sum.inr (some (x39, r52.2))) else (some (.inl ((IntKind.i64.wrap (x39 + 1)), r52.2)))))) else (Option.map Sum.inr (some ((-1), x40))))
def slices_IndexFunc_Opt_rules_Turn_1_ownR (a0 : (List TOpt)) (x3 : (List TOpt)) : Option (Int × (List TOpt)) :=
  (loopM (fun s => slices_IndexFunc_Opt_rules_Turn_1_ownR_l1 a0 s.1 s.2) (0, x3))
/-! slices.DeleteFunc[[]portreeve/api.Opt,portreeve/api.Opt] -/
def slices_DeleteFunc_Opt_rules_Turn_1_j2 (x119 : Int) (x156 : (List TOpt)) (x161 : Int) (x162 : (List TOpt)) : Option (((List TOpt) × Int × Int × (List TOpt)) ⊕ ((List TOpt) × (List TOpt))) :=
  (some (.inl (x156, x161, (IntKind.i64.wrap (x119 + 1)), x162)))
def slices_DeleteFunc_Opt_rules_Turn_1_l1  (x113 : (List TOpt)) (x118 : Int) (x119 : Int) (x120 : (List TOpt)) : Option (((List TOpt) × Int × Int × (List TOpt)) ⊕ ((List TOpt) × (List TOpt))) :=
  (if (decide (x119 < (x113.length : Int))) = true then ((idx x113 x119).bind fun x166 => ((rules_Turn_1 x166 x120).bind fun r180 => (if (!r180.1) = true then ((idx x113 x118).bind fun x190 => (slices_DeleteFunc_Opt_rules_Turn_1_j2 x119 (x113.set (x118).toNat x166) (IntKind.i64.wrap (x118 + 1)) r180.2)) else (slices_DeleteFunc_Opt_rules_Turn_1_j2 x119 x113 x118 r180.2)))) else (Option.map Sum.inr ((cut x113 none (some x118)).bind fun r196 => (some (r196, x120)))))
def slices_DeleteFunc_Opt_rules_Turn_1 (a0 : (List TOpt)) (x3 : (List TOpt)) : Option ((List TOpt) × (List TOpt)) :=
  ((slices_IndexFunc_Opt_rules_Turn_1_ownR a0 x3).bind fun r4 => (if (r4.1 == (-1)) = true then (some (a0, r4.2)) else (loopM (fun s => slices_DeleteFunc_Opt_rules_Turn_1_l1 s.1 s.2.1 s.2.2.1 s.2.2.2) (a0, r4.1, (IntKind.i64.wrap (r4.1 + 1)), r4.2))))
/-! portreeve/opts.Put -/
def opts_Put (a0 : (List TOpt)) (a1 : TOpt) : Option (List TOpt) :=
  ((slices_Clone_Opt a0).bind fun r5 => ((opts_of a1.Typ).bind fun r16 => ((opts_first_Opt_opts_of_1 a0 r16).bind fun r25 => (if (decide (r25.2.1 < 0)) = true then ((app r5 ([a1] : (List TOpt))).bind fun r47 => (some r47)) else ((idx r5 r25.2.1).bind fun x60 => (some (r5.set (r25.2.1).toNat a1)))))))
/-! portreeve/rules.Turn -/
def rules_Turn_j2 (a0 : TRule) (a1 : (List TOpt)) (x100 : Bool) : Option ((List TOpt) × Bool) :=
  (if x100 = true then ((rules_number 5 4 a0.Other).bind fun r105 => ((opts_Put a1 r105).bind fun r114 => (some (r114, true)))) else (some (a1, true)))
def rules_Turn_j1 (a0 : TRule) (a1 : (List TOpt)) (a2 : Int) (a3 : (List TOpt)) (r34 : (TOpt × Bool)) (r49 : (TOpt × Bool)) (x65 : Bool) : Option ((List TOpt) × Bool) :=
  (if x65 = true then (some (a1, false)) else (if (a2 == 4) = true then ((slices_Clone_Opt a1).bind fun r71 => ((slices_DeleteFunc_Opt_rules_Turn_1 r71 a3).bind fun r82 => (some (r82.1, true)))) else (if (a2 != 3) = true then (some (a1, false)) else (if (!a0.Ip) = true then (if r34.2 = true then (rules_Turn_j2 a0 a1 r49.2) else (rules_Turn_j2 a0 a1 false)) else (rules_Turn_j2 a0 a1 false)))))
def rules_Turn (a0 : TRule) (a1 : (List TOpt)) (a2 : Int) (a3 : (List TOpt)) : Option ((List TOpt) × Bool) :=
  ((opts_Find a3 3).bind fun r14 => ((opts_Find a3 5).bind fun r34 => ((opts_Find a1 5).bind fun r49 => (if (!a0.Ip) = true then (rules_Turn_j1 a0 a1 a2 a3 r34 r49 r14.2) else (rules_Turn_j1 a0 a1 a2 a3 r34 r49 false)))))
/-! (*portreeve/nego.work).nak -/
def nego_work_nak_j1 (r19 : ((List TOpt) × Int)) (x30 : Bool) (x31 : TNego) (x32 : (List TPkt)) (x37 : (List Int)) (x42 : TPkt) : Option (TNego × (List TPkt) × (List Int) × TPkt) :=
  (if x30 = true then (some (x31, x32, x37, x42)) else ((rules_Turn x31.R x31.Ours x42.Code r19.1).bind fun r73 => (if (!r73.2) = true then ((nego_work_event x31 x32 x37 x42 3 zTPkt).bind fun r157 => (some (r157.2.1, r157.2.2.1, r157.2.2.2.1, r157.2.2.2.2))) else ((nego_work_event (TNego.mk x31.A x31.R r73.1 x31.Naks x31.Peer) x32 x37 x42 9 zTPkt).bind fun r177 => (some (r177.2.1, r177.2.2.1, r177.2.2.2.1, r177.2.2.2.2))))))
def nego_work_nak (x2 : TNego) (x3 : (List TPkt)) (x8 : (List Int)) (x13 : TPkt) : Option (TNego × (List TPkt) × (List Int) × TPkt) :=
  ((opts_Read x13.Data).bind fun r19 => (if (x13.Id != x2.A.Id) = true then (nego_work_nak_j1 r19 true x2 x3 x8 x13) else (nego_work_nak_j1 r19 (r19.2 != 0) x2 x3 x8 x13)))
/-! (*portreeve/nego.work).term -/
def nego_work_term (x2 : TNego) (x3 : (List TPkt)) (x8 : (List Int)) (x13 : TPkt) : Option (TNego × (List TPkt) × (List Int) × TPkt) :=
  ((nego_work_event x2 x3 x8 x13 10 zTPkt).bind fun r16 => (some (r16.2.1, r16.2.2.1, r16.2.2.2.1, r16.2.2.2.2)))
/-! (*portreeve/nego.work).termed -/
def nego_work_termed (x2 : TNego) (x3 : (List TPkt)) (x8 : (List Int)) (x13 : TPkt) : Option (TNego × (List TPkt) × (List Int) × TPkt) :=
  ((nego_work_event x2 x3 x8 x13 11 zTPkt).bind fun r16 => (some (r16.2.1, r16.2.2.1, r16.2.2.2.1, r16.2.2.2.2)))
/-! (*portreeve/nego.work).rejected -/
def nego_work_rejected (x2 : TNego) (x3 : (List TPkt)) (x8 : (List Int)) (x13 : TPkt) (a1 : Bool) : Option (TNego × (List TPkt) × (List Int) × TPkt) :=
  (if a1 = true then ((nego_work_event x2 x3 x8 x13 13 zTPkt).bind fun r17 => (some (r17.2.1, r17.2.2.1, r17.2.2.2.1, r17.2.2.2.2))) else ((nego_work_event x2 x3 x8 x13 14 zTPkt).bind fun r35 => (some (r35.2.1, r35.2.2.1, r35.2.2.2.1, r35.2.2.2.2))))
/-! (*portreeve/nego.work).code -/
def nego_work_code (x2 : TNego) (x3 : (List TPkt)) (x8 : (List Int)) (x13 : TPkt) : Option (TNego × (List TPkt) × (List Int) × TPkt) :=
  (if ((x13.Data.length : Int) == 0) = true then ((nego_work_rejected x2 x3 x8 x13 true).bind fun r20 => (some (r20.1, r20.2.1, r20.2.2.1, r20.2.2.2))) else ((idx x13.Data 0).bind fun x33 => (if (decide (x33 < 1)) = true then ((nego_work_rejected x2 x3 x8 x13 true).bind fun r38 => (some (r38.1, r38.2.1, r38.2.2.1, r38.2.2.2))) else ((idx x13.Data 0).bind fun x51 => ((nego_work_rejected x2 x3 x8 x13 (decide (x51 > 7))).bind fun r55 => (some (r55.1, r55.2.1, r55.2.2.1, r55.2.2.2)))))))
/-! bytes.HasPrefix -/
def bytes_HasPrefix (a0 : (List Int)) (a1 : (List Int)) : Option Bool :=
  (if (decide ((a0.length : Int) ≥ (a1.length : Int))) = true then ((cut a0 none (some (a1.length : Int))).bind fun r2 => ((bytes_Equal r2 a1).bind fun r6 => (some r6))) else (some false))
/-! (*portreeve/nego.work).proto -/
def nego_work_proto (x2 : TNego) (x3 : (List TPkt)) (x8 : (List Int)) (x13 : TPkt) : Option (TNego × (List TPkt) × (List Int) × TPkt) :=
  ((bytes_HasPrefix x13.Data ([192, 33] : (List Int))).bind fun r27 => ((nego_work_rejected x2 x3 x8 x13 (!r27)).bind fun r34 => (some (r34.1, r34.2.1, r34.2.2.1, r34.2.2.2))))
/-! portreeve/nego.Magic -/
def nego_Magic (a0 : TNego) : Option Int :=
  ((opts_Find a0.Ours 5).bind fun r10 => (if a0.R.Ip = true then (some 0) else ((opts_Number r10.1.Data).bind fun r31 => (some r31))))
/-! (*portreeve/nego.work).echo -/
def nego_work_echo (x2 : TNego) (x3 : (List TPkt)) (x8 : (List Int)) (x13 : TPkt) : Option (TNego × (List TPkt) × (List Int) × TPkt) :=
  (if (decide ((x13.Data.length : Int) ≥ 4)) = true then ((nego_Magic x2).bind fun r24 => ((opts_Four r24).bind fun r31 => ((cut x13.Data (some 4) none).bind fun r47 => ((app r31 r47).bind fun r51 => ((nego_work_reply x2 x3 x8 x13 10 r51).bind fun r62 => ((nego_work_event r62.2.1 r62.2.2.1 r62.2.2.2.1 r62.2.2.2.2 15 r62.1).bind fun r77 => (some (r77.2.1, r77.2.2.1, r77.2.2.2.1, r77.2.2.2.2)))))))) else (some (x2, x3, x8, x13)))
/-! (*portreeve/nego.work).nothing -/
def nego_work_nothing (x2 : TNego) (x3 : (List TPkt)) (x8 : (List Int)) (x13 : TPkt) : Option (TNego × (List TPkt) × (List Int) × TPkt) :=
  (some (x2, x3, x8, x13))
/-! portreeve/nego.Take -/
def nego_Take_j2  (x239 : TNego) (x240 : (List TPkt)) (x245 : (List Int)) (x250 : TPkt) : Option (TNego × (List TPkt) × (List Int)) :=
  ((nego_work_told x239 x240 x245 x250).bind fun r254 => (some (r254.1, r254.2.1, r254.2.2)))
def nego_Take_j1 (a0 : TNego) (a1 : TPkt) (x24 : Int) (x25 : TNego) (x26 : (List TPkt)) (x31 : (List Int)) (x36 : TPkt) : Option (TNego × (List TPkt) × (List Int)) :=
  (if (decide (a0.A.State ≤ 1)) = true then (nego_Take_j2 x25 x26 x31 x36) else ((pack_Known x24 a1.Code).bind fun r275 => (if (!r275) = true then ((pack_Reject a1 a0.A.Id).bind fun r285 => ((nego_work_event x25 x26 x31 x36 12 r285).bind fun r294 => (nego_Take_j2 r294.2.1 r294.2.2.1 r294.2.2.2.1 r294.2.2.2.2))) else ((nego_codes).bind fun r312 => (if (a1.Code == 1) = true then ((nego_work_request x25 x26 x31 x36).bind fun r322 => (nego_Take_j2 r322.1 r322.2.1 r322.2.2.1 r322.2.2.2)) else (if (a1.Code == 2) = true then ((nego_work_ack x25 x26 x31 x36).bind fun r384 => (nego_Take_j2 r384.1 r384.2.1 r384.2.2.1 r384.2.2.2)) else (if (a1.Code == 3) = true then ((nego_work_nak x25 x26 x31 x36).bind fun r446 => (nego_Take_j2 r446.1 r446.2.1 r446.2.2.1 r446.2.2.2)) else (if (a1.Code == 4) = true then ((nego_work_nak x25 x26 x31 x36).bind fun r508 => (nego_Take_j2 r508.1 r508.2.1 r508.2.2.1 r508.2.2.2)) else (if (a1.Code == 5) = true then ((nego_work_term x25 x26 x31 x36).bind fun r570 => (nego_Take_j2 r570.1 r570.2.1 r570.2.2.1 r570.2.2.2)) else (if (a1.Code == 6) = true then ((nego_work_termed x25 x26 x31 x36).bind fun r632 => (nego_Take_j2 r632.1 r632.2.1 r632.2.2.1 r632.2.2.2)) else (if (a1.Code == 7) = true then ((nego_work_code x25 x26 x31 x36).bind fun r694 => (nego_Take_j2 r694.1 r694.2.1 r694.2.2.1 r694.2.2.2)) else (if (a1.Code == 8) = true then ((nego_work_proto x25 x26 x31 x36).bind fun r756 => (nego_Take_j2 r756.1 r756.2.1 r756.2.2.1 r756.2.2.2)) else (if (a1.Code == 9) = true then ((nego_work_echo x25 x26 x31 x36).bind fun r818 => (nego_Take_j2 r818.1 r818.2.1 r818.2.2.1 r818.2.2.2)) else (if (a1.Code == 10) = true then ((nego_work_nothing x25 x26 x31 x36).bind fun r880 => (nego_Take_j2 r880.1 r880.2.1 r880.2.2.1 r880.2.2.2)) else (if (a1.Code == 11) = true then ((nego_work_nothing x25 x26 x31 x36).bind fun r942 => (nego_Take_j2 r942.1 r942.2.1 r942.2.2.1 r942.2.2.2)) else none)))))))))))))))
def nego_Take (a0 : TNego) (a1 : TPkt) : Option (TNego × (List TPkt) × (List Int)) :=
  (if a0.R.Ip = true then (nego_Take_j1 a0 a1 32801 a0 ([] : (List TPkt)) ([] : (List Int)) a1) else (nego_Take_j1 a0 a1 49185 a0 ([] : (List TPkt)) ([] : (List Int)) a1))
/-! portreeve/auto.Tick -/
def auto_Tick_j1 (a0 : TAuto) (x28 : Int) : Option (TAuto × (List Int)) :=
  ((auto_Do (TAuto.mk a0.State a0.Count (IntKind.i64.wrap (a0.Left - 1)) a0.Id) x28).bind fun r34 => (some (r34.1, r34.2.1)))
def auto_Tick (a0 : TAuto) : Option (TAuto × (List Int)) :=
  (if (a0.Left == 0) = true then (some (a0, ([] : (List Int)))) else (if (decide ((IntKind.i64.wrap (a0.Left - 1)) > 0)) = true then (some ((TAuto.mk a0.State a0.Count (IntKind.i64.wrap (a0.Left - 1)) a0.Id), ([] : (List Int)))) else (if (decide (a0.Count > 0)) = true then (auto_Tick_j1 a0 4) else (auto_Tick_j1 a0 5))))
/-! portreeve/nego.Tick -/
def nego_Tick (a0 : TNego) : Option (TNego × (List TPkt) × (List Int)) :=
  ((auto_Tick a0.A).bind fun r19 => ((nego_work_acts (TNego.mk r19.1 a0.R a0.Ours a0.Naks a0.Peer) ([] : (List TPkt)) ([] : (List Int)) zTPkt a0.A.State r19.2 zTPkt).bind fun r47 => ((nego_work_told r47.1 r47.2.1 r47.2.2.1 r47.2.2.2).bind fun r60 => (some (r60.1, r60.2.1, r60.2.2)))))
/-! portreeve/auto.Right -/
def auto_Right_j1 (a0 : TAuto) (x8 : Bool) : Option Bool :=
  (if x8 = true then (some false) else ((fsm_Timed a0.State).bind fun r13 => (if r13 = true then (if (decide (a0.Left ≥ 1)) = true then (some (decide (a0.Left ≤ 3))) else (some false)) else (some (a0.Left == 0)))))
def auto_Right (a0 : TAuto) : Option Bool :=
  (if (decide (a0.State < 0)) = true then (auto_Right_j1 a0 true) else (if (decide (a0.State ≥ 10)) = true then (auto_Right_j1 a0 true) else (if (decide (a0.Count < 0)) = true then (auto_Right_j1 a0 true) else (auto_Right_j1 a0 (decide (a0.Count > 5))))))
/-! portreeve/nego.Right$1 -/
def nego_Right_1 (a0 : TOpt) : Option Bool :=
  (if (a0.Typ == 5) = true then (some ((a0.Data.length : Int) != 4)) else (some false))
/-! slices.IndexFunc[[]portreeve/api.Opt,portreeve/api.Opt] -/
def slices_IndexFunc_Opt_nego_Right_1_l1 (a0 : (List TOpt)) (x18 : Int) : Option (Int ⊕ Int) :=
  (if (decide (x18 < (a0.length : Int))) = true then ((idx a0 x18).bind fun x24 => ((nego_Right_1 x24).bind fun r30 => (if r30 = true then (Option.map Sum.inr (some x18)) else (some (.inl (IntKind.i64.wrap (x18 + 1))))))) else (Option.map Sum.inr (some (-1))))
def slices_IndexFunc_Opt_nego_Right_1 (a0 : (List TOpt)) : Option Int :=
  (loopM (fun s => slices_IndexFunc_Opt_nego_Right_1_l1 a0 s) 0)
/-! slices.ContainsFunc[[]portreeve/api.Opt,portreeve/api.Opt] -/
def slices_ContainsFunc_Opt_nego_Right_1 (a0 : (List TOpt)) : Option Bool :=
  ((slices_IndexFunc_Opt_nego_Right_1 a0).bind fun r1 => (some (decide (r1 ≥ 0))))
/-! portreeve/nego.Right -/
def nego_Right (a0 : TNego) : Option Bool :=
  ((opts_Bytes a0.Ours).bind fun r10 => ((auto_Right a0.A).bind fun r22 => (if r22 = true then (if (decide (a0.Naks ≥ 0)) = true then (if (decide (a0.Naks ≤ 3)) = true then (if (r10.2 == 0) = true then ((slices_ContainsFunc_Opt_nego_Right_1 a0.Ours).bind fun r38 => (some (!r38))) else (some false)) else (some false)) else (some false)) else (some false))))
/-! portreeve/opts.Same$1 -/
def opts_Same_1 (a0 : TOpt) (a1 : TOpt) : Option Bool :=
  (if (a0.Typ == a1.Typ) = true then ((bytes_Equal a0.Data a1.Data).bind fun r20 => (some r20)) else (some false))
/-! slices.EqualFunc[[]portreeve/api.Opt,[]portreeve/api.Opt,portreeve/api.Opt,portreeve/api.Opt] -/
def slices_EqualFunc_Opt_opts_Same_1_l1 (a0 : (List TOpt)) (a1 : (List TOpt)) (x41 : Int) : Option (Int ⊕ Bool) :=
  (if (decide (x41 < (a0.length : Int))) = true then ((idx a0 x41).bind fun x47 => ((idx a1 x41).bind fun x59 => ((opts_Same_1 x47 x59).bind fun r75 => (if (!r75) = true then (Option.map Sum.inr (some false)) else (some (.inl (IntKind.i64.wrap (x41 + 1)))))))) else (Option.map Sum.inr (some true)))
def slices_EqualFunc_Opt_opts_Same_1 (a0 : (List TOpt)) (a1 : (List TOpt)) : Option Bool :=
  (if ((a0.length : Int) != (a1.length : Int)) = true then (some false) else (loopM (fun s => slices_EqualFunc_Opt_opts_Same_1_l1 a0 a1 s) 0))
/-! portreeve/opts.Same -/
def opts_Same (a0 : (List TOpt)) (a1 : (List TOpt)) : Option Bool :=
  ((slices_EqualFunc_Opt_opts_Same_1 a0 a1).bind fun r1 => (some r1))
/-! portreeve/nego.Same -/
def nego_Same (a0 : TNego) (a1 : TNego) : Option Bool :=
  (if (eTAuto a0.A a1.A) = true then (if (eTRule a0.R a1.R) = true then (if (a0.Naks == a1.Naks) = true then ((opts_Same a0.Ours a1.Ours).bind fun r30 => (if r30 = true then ((opts_Same a0.Peer a1.Peer).bind fun r48 => (some r48)) else (some false))) else (some false)) else (some false)) else (some false))
/-! portreeve/portreevelaw14.shown -/
def portreevelaw14_shown  : Option Bool :=
  ((nego_New (TRule.mk zTRule.Ip 7 zTRule.Other zTRule.Addr zTRule.Ours)).bind fun r3 => ((nego_Do r3 2).bind fun r12 => ((nego_Do r12.1 0).bind fun r35 => ((nego_Take r35.1 (TPkt.mk 1 9 zTPkt.Data)).bind fun r60 => ((nego_Tick r60.1).bind fun r83 => (if ((r12.2.2.length : Int) == 1) = true then ((idx r12.2.2 0).bind fun x105 => (if (x105 == 3) = true then (if ((r35.2.1.length : Int) == 1) = true then ((idx r35.2.1 0).bind fun x111 => (if (x111.Code == 1) = true then ((idx r35.2.1 0).bind fun x116 => (if (x116.Id == 1) = true then (if ((r60.2.1.length : Int) == 1) = true then ((idx r60.2.1 0).bind fun x122 => (if (x122.Code == 2) = true then ((idx r60.2.1 0).bind fun x127 => (if (x127.Id == 9) = true then (if (r60.1.A.State == 8) = true then (if (r83.1.A.Left == 2) = true then ((nego_Magic r35.1).bind fun r136 => (if (r136 == 7) = true then ((nego_Right r35.1).bind fun r146 => (if r146 = true then ((nego_Same r12.1 r12.1).bind fun r158 => (some r158)) else (some false))) else (some false))) else (some false)) else (some false)) else (some false))) else (some false))) else (some false)) else (some false))) else (some false))) else (some false)) else (some false))) else (some false)))))))
/-! portreeve/portreeveref10.Few -/
def portreeveref10_Few_j2 (x16 : Int) (x32 : Bool) : Option (Int ⊕ Bool) :=
  (if x32 = true then (Option.map Sum.inr (some false)) else (some (.inl (IntKind.i64.wrap (x16 + 1)))))
def portreeveref10_Few_l1 (a0 : (List TOpt)) (x16 : Int) : Option (Int ⊕ Bool) :=
  (if (decide (x16 < (a0.length : Int))) = true then (if (decide (x16 ≥ 30)) = true then (portreeveref10_Few_j2 x16 true) else ((idx a0 x16).bind fun x38 => (portreeveref10_Few_j2 x16 (decide ((x38.Data.length : Int) > 253))))) else (Option.map Sum.inr (some true)))
def portreeveref10_Few (a0 : (List TOpt)) : Option Bool :=
  (loopM (fun s => portreeveref10_Few_l1 a0 s) 0)
/-! portreeve/portreeveref14.Small -/
def portreeveref14_Small (a0 : TNego) : Option Bool :=
  ((portreeveref10_Few a0.Ours).bind fun r10 => ((portreeveref10_Few a0.Peer).bind fun r22 => (if r10 = true then (some r22) else (some false))))
/-! portreeve/portreeveref11.Timed -/
def portreeveref11_Timed (a0 : Int) : Option Bool :=
  (if (decide (a0 ≥ 4)) = true then (some (decide (a0 ≤ 8))) else (some false))
/-! portreeve/portreeveref12.Right -/
def portreeveref12_Right_j1 (a0 : TAuto) (x8 : Bool) : Option Bool :=
  (if x8 = true then (some false) else ((portreeveref11_Timed a0.State).bind fun r13 => (if r13 = true then (if (decide (a0.Left ≥ 1)) = true then (if (decide (a0.Left ≤ 3)) = true then (some true) else (if (!r13) = true then (some (a0.Left == 0)) else (some false))) else (if (!r13) = true then (some (a0.Left == 0)) else (some false))) else (if (!r13) = true then (some (a0.Left == 0)) else (some false)))))
def portreeveref12_Right (a0 : TAuto) : Option Bool :=
  (if (decide (a0.State < 0)) = true then (portreeveref12_Right_j1 a0 true) else (if (decide (a0.State > 9)) = true then (portreeveref12_Right_j1 a0 true) else (if (decide (a0.Count < 0)) = true then (portreeveref12_Right_j1 a0 true) else (portreeveref12_Right_j1 a0 (decide (a0.Count > 5))))))
/-! portreeve/portreeveref10.Bytes -/
def portreeveref10_Bytes_l1 (a0 : (List TOpt)) (x88 : (List Int)) (x93 : Int) : Option (((List Int) × Int) ⊕ ((List Int) × Int)) :=
  (if (decide (x93 < (a0.length : Int))) = true then ((idx a0 x93).bind fun x99 => (if (decide ((x99.Data.length : Int) > 253)) = true then (Option.map Sum.inr (some (([] : (List Int)), 1))) else ((idx a0 x93).bind fun x135 => ((idx a0 x93).bind fun x139 => ((app x88 ([x135.Typ, (IntKind.u8.wrap ((IntKind.i64.wrap (2 + (x139.Data.length : Int)))))] : (List Int))).bind fun r152 => ((idx a0 x93).bind fun x195 => ((app r152 x195.Data).bind fun r204 => (some (.inl (r204, (IntKind.i64.wrap (x93 + 1)))))))))))) else (Option.map Sum.inr (if (decide ((x88.length : Int) > 1496)) = true then (some (([] : (List Int)), 1)) else (some (x88, 0)))))
def portreeveref10_Bytes (a0 : (List TOpt)) : Option ((List Int) × Int) :=
  (loopM (fun s => portreeveref10_Bytes_l1 a0 s.1 s.2) (([] : (List Int)), 0))
/-! portreeve/portreeveref14.Right -/
def portreeveref14_Right_j2 (x66 : Int) (x101 : Bool) : Option (Int ⊕ Bool) :=
  (if x101 = true then (Option.map Sum.inr (some false)) else (some (.inl (IntKind.i64.wrap (x66 + 1)))))
def portreeveref14_Right_l1 (a0 : TNego) (r7 : Bool) (r19 : ((List Int) × Int)) (x66 : Int) : Option (Int ⊕ Bool) :=
  (if (decide (x66 < (a0.Ours.length : Int))) = true then ((idx a0.Ours x66).bind fun x111 => (if (x111.Typ == 5) = true then ((idx a0.Ours x66).bind fun x121 => (portreeveref14_Right_j2 x66 ((x121.Data.length : Int) != 4))) else (portreeveref14_Right_j2 x66 false))) else (Option.map Sum.inr (if r7 = true then (if (decide (a0.Naks ≥ 0)) = true then (if (decide (a0.Naks ≤ 3)) = true then (some (r19.2 == 0)) else (some false)) else (some false)) else (some false))))
def portreeveref14_Right (a0 : TNego) : Option Bool :=
  ((portreeveref12_Right a0.A).bind fun r7 => ((portreeveref10_Bytes a0.Ours).bind fun r19 => (loopM (fun s => portreeveref14_Right_l1 a0 r7 r19 s) 0)))
/-! portreeve/portreevelaw14.up2 -/
def portreevelaw14_up2_j2 (x30 : Int) (x47 : Bool) (x48 : Bool) : Option ((Bool × Bool × Int) ⊕ Bool) :=
  (some (.inl (x47, x48, (IntKind.i64.wrap (x30 + 1)))))
def portreevelaw14_up2_j3 (a2 : (List Int)) (x29 : Bool) (x30 : Int) (x57 : Bool) : Option ((Bool × Bool × Int) ⊕ Bool) :=
  (if x29 = true then (portreevelaw14_up2_j2 x30 x57 true) else ((idx a2 x30).bind fun x62 => (portreevelaw14_up2_j2 x30 x57 (x62 == 2))))
def portreevelaw14_up2_l1 (a0 : Bool) (a1 : TNego) (a2 : (List Int)) (x28 : Bool) (x29 : Bool) (x30 : Int) : Option ((Bool × Bool × Int) ⊕ Bool) :=
  (if (decide (x30 < (a2.length : Int))) = true then (if x28 = true then (portreevelaw14_up2_j3 a2 x29 x30 true) else ((idx a2 x30).bind fun x67 => (portreevelaw14_up2_j3 a2 x29 x30 (x67 == 1)))) else (Option.map Sum.inr (if (a1.A.State == 9) = true then (if (eqB x28 (!a0)) = true then (if a0 = true then (some (eqB x29 (!(a1.A.State == 9)))) else (some (eqB x29 false))) else (some false)) else (if (eqB x28 false) = true then (if a0 = true then (some (eqB x29 (!(a1.A.State == 9)))) else (some (eqB x29 false))) else (some false)))))
def portreevelaw14_up2 (a0 : Bool) (a1 : TNego) (a2 : (List Int)) : Option Bool :=
  (loopM (fun s => portreevelaw14_up2_l1 a0 a1 a2 s.1 s.2.1 s.2.2) (false, false, 0))
/-! portreeve/portreevelaw14.NegoRight -/
def portreevelaw14_NegoRight_j1 (a0 : TNego) (a1 : Int) (a2 : TPkt) (r9 : Bool) (x41 : Bool) : Option Bool :=
  (if x41 = true then (some r9) else ((nego_Do a0 a1).bind fun r48 => ((nego_Tick a0).bind fun r71 => ((nego_Take a0 a2).bind fun r96 => (if r9 = true then ((portreeveref14_Right r48.1).bind fun r120 => (if r120 = true then ((portreeveref14_Right r71.1).bind fun r130 => (if r130 = true then ((portreeveref14_Right r96.1).bind fun r140 => (if r140 = true then ((portreevelaw14_up2 (a0.A.State == 9) r48.1 r48.2.2).bind fun r150 => (if r150 = true then ((portreevelaw14_up2 (a0.A.State == 9) r71.1 r71.2.2).bind fun r160 => (if r160 = true then ((portreevelaw14_up2 (a0.A.State == 9) r96.1 r96.2.2).bind fun r170 => (some r170)) else (some false))) else (some false))) else (some false))) else (some false))) else (some false))) else (some false))))))
def portreevelaw14_NegoRight (a0 : TNego) (a1 : Int) (a2 : TPkt) : Option Bool :=
  ((portreevelaw14_shown).bind fun r9 => ((portreeveref14_Small a0).bind fun r179 => (if (!r179) = true then (portreevelaw14_NegoRight_j1 a0 a1 a2 r9 true) else ((portreeveref14_Right a0).bind fun r189 => (if (!r189) = true then (portreevelaw14_NegoRight_j1 a0 a1 a2 r9 true) else (portreevelaw14_NegoRight_j1 a0 a1 a2 r9 (decide ((a2.Data.length : Int) > 1496))))))))
/-! portreeve/portreeveref01.Row -/
def portreeveref01_Row_l1 (a0 : (List Int)) (a1 : (List Int)) (x22 : Int) : Option (Int ⊕ Bool) :=
  (if (decide (x22 < (a0.length : Int))) = true then ((idx a0 x22).bind fun x38 => ((idx a1 x22).bind fun x42 => (if (x38 != x42) = true then (Option.map Sum.inr (some false)) else (some (.inl (IntKind.i64.wrap (x22 + 1))))))) else (Option.map Sum.inr (some true)))
def portreeveref01_Row (a0 : (List Int)) (a1 : (List Int)) : Option Bool :=
  (if ((a0.length : Int) != (a1.length : Int)) = true then (some false) else (loopM (fun s => portreeveref01_Row_l1 a0 a1 s) 0))
/-! portreeve/portreeveref10.Read -/
def portreeveref10_Read_j2 (a0 : (List Int)) (x73 : Int) (x80 : Int) (x85 : (List TOpt)) (x90 : Bool) : Option (((List TOpt) × Int) ⊕ ((List TOpt) × Int)) :=
  (if x90 = true then (Option.map Sum.inr (some (([] : (List TOpt)), 2))) else ((idx a0 x73).bind fun x118 => ((cut a0 (some (IntKind.i64.wrap (x73 + 2))) (some (IntKind.i64.wrap (x73 + (IntKind.i64.wrap (x80)))))).bind fun r122 => ((app x85 ([(TOpt.mk x118 r122)] : (List TOpt))).bind fun r132 => (some (.inl (r132, (IntKind.i64.wrap (x73 + (IntKind.i64.wrap (x80)))))))))))
def portreeveref10_Read_l1 (a0 : (List Int)) (x68 : (List TOpt)) (x73 : Int) : Option (((List TOpt) × Int) ⊕ ((List TOpt) × Int)) :=
  (if (decide (x73 < (a0.length : Int))) = true then (if ((IntKind.i64.wrap (x73 + 1)) == (a0.length : Int)) = true then (Option.map Sum.inr (some (([] : (List TOpt)), 2))) else ((idx a0 (IntKind.i64.wrap (x73 + 1))).bind fun x80 => (if (decide ((IntKind.i64.wrap (x80)) < 2)) = true then (portreeveref10_Read_j2 a0 x73 x80 x68 true) else (portreeveref10_Read_j2 a0 x73 x80 x68 (decide ((IntKind.i64.wrap (x73 + (IntKind.i64.wrap (x80)))) > (a0.length : Int))))))) else (Option.map Sum.inr (some (x68, 0))))
def portreeveref10_Read (a0 : (List Int)) : Option ((List TOpt) × Int) :=
  (loopM (fun s => portreeveref10_Read_l1 a0 s.1 s.2) (([] : (List TOpt)), 0))
/-! portreeve/portreeveref10.One -/
def portreeveref10_One (a0 : TOpt) (a1 : TOpt) : Option Bool :=
  ((portreeveref01_Row a0.Data a1.Data).bind fun r19 => (if r19 = true then (some (a0.Typ == a1.Typ)) else (some false)))
/-! portreeve/portreeveref10.Same -/
def portreeveref10_Same_l1 (a0 : (List TOpt)) (a1 : (List TOpt)) (x44 : Int) : Option (Int ⊕ Bool) :=
  (if (decide (x44 < (a0.length : Int))) = true then ((idx a0 x44).bind fun x71 => ((idx a1 x44).bind fun x77 => ((portreeveref10_One x71 x77).bind fun r83 => (if (!r83) = true then (Option.map Sum.inr (some false)) else (some (.inl (IntKind.i64.wrap (x44 + 1)))))))) else (Option.map Sum.inr (some true)))
def portreeveref10_Same (a0 : (List TOpt)) (a1 : (List TOpt)) : Option Bool :=
  (if ((a0.length : Int) != (a1.length : Int)) = true then (some false) else (loopM (fun s => portreeveref10_Same_l1 a0 a1 s) 0))
/-! portreeve/portreevelaw14.NegoAcks -/
def portreevelaw14_NegoAcks_j3 (x153 : Int) (x159 : TPkt)  : Option (Int ⊕ Bool) :=
  (if (decide ((x159.Data.length : Int) > 1496)) = true then (Option.map Sum.inr (some false)) else (some (.inl (IntKind.i64.wrap (x153 + 1)))))
def portreevelaw14_NegoAcks_j4 (x153 : Int) (x159 : TPkt) (x260 : Bool) : Option (Int ⊕ Bool) :=
  (if x260 = true then (Option.map Sum.inr (some false)) else (portreevelaw14_NegoAcks_j3 x153 x159))
def portreevelaw14_NegoAcks_j5 (x153 : Int) (x159 : TPkt) (x314 : Bool) : Option (Int ⊕ Bool) :=
  (if x314 = true then (Option.map Sum.inr (some false)) else (portreevelaw14_NegoAcks_j3 x153 x159))
def portreevelaw14_NegoAcks_j6 (a1 : TPkt) (x153 : Int) (x159 : TPkt) (x336 : Bool) : Option (Int ⊕ Bool) :=
  (if x336 = true then (if (x159.Id != a1.Id) = true then (Option.map Sum.inr (some false)) else (portreevelaw14_NegoAcks_j3 x153 x159)) else (portreevelaw14_NegoAcks_j3 x153 x159))
def portreevelaw14_NegoAcks_l2 (a1 : TPkt) (r9 : Bool) (r50 : (TNego × (List TPkt) × (List Int))) (x153 : Int) : Option (Int ⊕ Bool) :=
  (if (decide (x153 < (r50.2.1.length : Int))) = true then ((idx r50.2.1 x153).bind fun x159 => (if (x159.Code == 2) = true then (if (a1.Code != 1) = true then (portreevelaw14_NegoAcks_j4 x153 x159 true) else (if (x159.Id != a1.Id) = true then (portreevelaw14_NegoAcks_j4 x153 x159 true) else ((portreeveref01_Row x159.Data a1.Data).bind fun r277 => (portreevelaw14_NegoAcks_j4 x153 x159 (!r277))))) else (if (x159.Code == 1) = true then ((portreeveref10_Read x159.Data).bind fun r290 => (if (x159.Id != r50.1.A.Id) = true then (portreevelaw14_NegoAcks_j5 x153 x159 true) else (if (r290.2 != 0) = true then (portreevelaw14_NegoAcks_j5 x153 x159 true) else ((portreeveref10_Same r290.1 r50.1.Ours).bind fun r326 => (portreevelaw14_NegoAcks_j5 x153 x159 (!r326)))))) else (if (x159.Code == 6) = true then (portreevelaw14_NegoAcks_j6 a1 x153 x159 (x159.Code == 6)) else (if (x159.Code == 10) = true then (portreevelaw14_NegoAcks_j6 a1 x153 x159 (x159.Code == 10)) else (if (x159.Code == 3) = true then (portreevelaw14_NegoAcks_j6 a1 x153 x159 (x159.Code == 3)) else (portreevelaw14_NegoAcks_j6 a1 x153 x159 (x159.Code == 4)))))))) else (Option.map Sum.inr (if r9 = true then (some (decide ((r50.2.1.length : Int) ≤ 2))) else (some false))))
def portreevelaw14_NegoAcks_j1 (a0 : TNego) (a1 : TPkt) (r9 : Bool) (x41 : Bool) : Option Bool :=
  (if x41 = true then (some r9) else ((nego_Take a0 a1).bind fun r50 => (loopM (fun s => portreevelaw14_NegoAcks_l2 a1 r9 r50 s) 0)))
def portreevelaw14_NegoAcks (a0 : TNego) (a1 : TPkt) : Option Bool :=
  ((portreevelaw14_shown).bind fun r9 => ((portreeveref14_Small a0).bind fun r348 => (if (!r348) = true then (portreevelaw14_NegoAcks_j1 a0 a1 r9 true) else ((portreeveref14_Right a0).bind fun r358 => (if (!r358) = true then (portreevelaw14_NegoAcks_j1 a0 a1 r9 true) else (portreevelaw14_NegoAcks_j1 a0 a1 r9 (decide ((a1.Data.length : Int) > 1496))))))))
/-! portreeve/portreevelaw14.opened -/
def portreevelaw14_opened (a0 : TNego) : Option (TNego × (List TPkt) × (List Int)) :=
  ((nego_Do a0 2).bind fun r11 => ((nego_Do r11.1 0).bind fun r34 => (some (r34.1, r34.2.1, r34.2.2))))
/-! portreeve/portreeveref10.Drop -/
def portreeveref10_Drop_j2 (x45 : Int) (x73 : (List TOpt)) : Option (((List TOpt) × Int) ⊕ (List TOpt)) :=
  (some (.inl (x73, (IntKind.i64.wrap (x45 + 1)))))
def portreeveref10_Drop_l1 (a0 : (List TOpt)) (a1 : Int) (x40 : (List TOpt)) (x45 : Int) : Option (((List TOpt) × Int) ⊕ (List TOpt)) :=
  (if (decide (x45 < (a0.length : Int))) = true then ((idx a0 x45).bind fun x81 => (if (x81.Typ != a1) = true then ((idx a0 x45).bind fun x86 => ((app x40 ([x86] : (List TOpt))).bind fun r96 => (portreeveref10_Drop_j2 x45 r96))) else (portreeveref10_Drop_j2 x45 x40))) else (Option.map Sum.inr (some x40)))
def portreeveref10_Drop (a0 : (List TOpt)) (a1 : Int) : Option (List TOpt) :=
  (loopM (fun s => portreeveref10_Drop_l1 a0 a1 s.1 s.2) (([] : (List TOpt)), 0))
/-! portreeve/portreevelaw14.agree -/
def portreevelaw14_agree_l4 (x3155 : (List TPkt)) (x3159 : Int) (x3670 : TNego) (x4086 : (List TPkt)) (x4091 : (List TPkt)) (x4095 : Int) (x4096 : TNego) : Option (((List TPkt) × (List TPkt) × Int × TNego) ⊕ (((List TPkt) × (List TPkt) × Int × TNego × TNego) ⊕ ((Int × TNego × TNego) ⊕ Bool))) :=
  (if (decide (x4095 < (x3155.length : Int))) = true then ((idx x3155 x4095).bind fun x4135 => ((nego_Take x4096 x4135).bind fun r4141 => ((app x4086 r4141.2.1).bind fun r4270 => (some (.inl (r4270, x4091, (IntKind.i64.wrap (x4095 + 1)), r4141.1)))))) else (Option.map Sum.inr (some (.inl (x4086, x4091, (IntKind.i64.wrap (x3159 + 1)), x3670, x4096)))))
def portreevelaw14_agree_l3 (x3151 : (List TPkt)) (x3155 : (List TPkt)) (x3159 : Int) (x3161 : TNego) (x3664 : (List TPkt)) (x3669 : Int) (x3670 : TNego) : Option (((List TPkt) × Int × TNego) ⊕ (((List TPkt) × (List TPkt) × Int × TNego × TNego) ⊕ ((Int × TNego × TNego) ⊕ Bool))) :=
  (if (decide (x3669 < (x3151.length : Int))) = true then ((idx x3151 x3669).bind fun x3709 => ((nego_Take x3670 x3709).bind fun r3715 => ((app x3664 r3715.2.1).bind fun r3844 => (some (.inl (r3844, (IntKind.i64.wrap (x3669 + 1)), r3715.1)))))) else (Option.map Sum.inr (loopM (fun s => portreevelaw14_agree_l4 x3155 x3159 x3670 s.1 s.2.1 s.2.2.1 s.2.2.2) (([] : (List TPkt)), x3664, 0, x3161))))
def portreevelaw14_agree_l2 (x2102 : Int) (x3151 : (List TPkt)) (x3155 : (List TPkt)) (x3159 : Int) (x3160 : TNego) (x3161 : TNego) : Option (((List TPkt) × (List TPkt) × Int × TNego × TNego) ⊕ ((Int × TNego × TNego) ⊕ Bool)) :=
  (if (decide (x3159 < 6)) = true then (loopM (fun s => portreevelaw14_agree_l3 x3151 x3155 x3159 x3161 s.1 s.2.1 s.2.2) (([] : (List TPkt)), 0, x3160)) else (Option.map Sum.inr (some (.inl ((IntKind.i64.wrap (x2102 + 1)), x3160, x3161)))))
def portreevelaw14_agree_l1  (x2102 : Int) (x2103 : TNego) (x2104 : TNego) : Option ((Int × TNego × TNego) ⊕ Bool) :=
  (if (decide (x2102 < 12)) = true then ((nego_Tick x2104).bind fun r2112 => ((nego_Tick x2103).bind fun r2135 => (loopM (fun s => portreevelaw14_agree_l2 x2102 s.1 s.2.1 s.2.2.1 s.2.2.2.1 s.2.2.2.2) (r2112.2.1, r2135.2.1, 0, r2135.1, r2112.1)))) else (Option.map Sum.inr (if (x2104.A.State == 9) = true then (some (x2103.A.State == 9)) else (some false))))
def portreevelaw14_agree (a0 : TNego) (a1 : TNego) : Option Bool :=
  (loopM (fun s => portreevelaw14_agree_l1 s.1 s.2.1 s.2.2) (0, a1, a0))
/-! portreeve/portreevelaw14.NegoPeer -/
def portreevelaw14_NegoPeer_j1 (a0 : Int) (a1 : Int) (a2 : Int) (r1 : Bool) (x13 : Bool) : Option Bool :=
  (if x13 = true then (some r1) else ((nego_New (TRule.mk zTRule.Ip a0 a2 zTRule.Addr zTRule.Ours)).bind fun r20 => ((nego_New (TRule.mk zTRule.Ip a1 a2 zTRule.Addr zTRule.Ours)).bind fun r37 => ((portreevelaw14_opened r20).bind fun r54 => ((portreevelaw14_opened r37).bind fun r77 => ((portreeveref10_Drop r54.1.Ours 3).bind fun r103 => ((portreeveref10_Drop r77.1.Ours 3).bind fun r120 => (if r1 = true then ((portreevelaw14_agree (TNego.mk r54.1.A r54.1.R r103 r54.1.Naks r54.1.Peer) (TNego.mk r77.1.A r77.1.R r120 r77.1.Naks r77.1.Peer)).bind fun r137 => (some r137)) else (some false)))))))))
def portreevelaw14_NegoPeer (a0 : Int) (a1 : Int) (a2 : Int) : Option Bool :=
  ((portreevelaw14_shown).bind fun r1 => (if (a0 == a1) = true then (portreevelaw14_NegoPeer_j1 a0 a1 a2 r1 true) else (if (a0 == 0) = true then (portreevelaw14_NegoPeer_j1 a0 a1 a2 r1 true) else (if (a1 == 0) = true then (portreevelaw14_NegoPeer_j1 a0 a1 a2 r1 true) else (if (a2 == 0) = true then (portreevelaw14_NegoPeer_j1 a0 a1 a2 r1 true) else (if (a2 == a0) = true then (portreevelaw14_NegoPeer_j1 a0 a1 a2 r1 true) else (portreevelaw14_NegoPeer_j1 a0 a1 a2 r1 (a2 == a1))))))))
end Go.Proofs.YtadlndnagfnlgaaDoor.W
