/- The program's functions as plain Lean functions (none: it panics, or goes on for ever, or passes a bound): written by a program (gen.py). -/
import Derived.Test.YtadlndnagfnlgaaGreatDoorD
set_option linter.unusedVariables false
set_option maxRecDepth 20000
namespace Go.Proofs.YtadlndnagfnlgaaGreatDoor.W
open Go
def opts_Four (a0 : Int) : Option (List Int) :=
  (some ([(IntKind.u8.wrap ((sShr .u32 a0 24))), (IntKind.u8.wrap ((sShr .u32 a0 16))), (IntKind.u8.wrap ((sShr .u32 a0 8))), (IntKind.u8.wrap (a0))] : (List Int)))
def rules_number (a0 : Int) (a1 : Int) (a2 : Int) : Option TOpt :=
  ((opts_Four a2).bind fun r5 => ((cut r5 (some (IntKind.i64.wrap ((r5.length : Int) - a1))) none).bind fun r20 => (some (TOpt.mk a0 r20))))
def rules_Ask (a0 : TRule) : Option (List TOpt) :=
  (if a0.Ip = true then ((rules_number 3 4 a0.Ours).bind fun r6 => (some ([r6] : (List TOpt)))) else ((rules_number 5 4 a0.Magic).bind fun r33 => (some ([(TOpt.mk 3 ([194, 35, 5] : (List Int))), r33] : (List TOpt)))))
def nego_New (a0 : TRule) : Option TNego :=
  ((rules_Ask a0).bind fun r15 => (some (TNego.mk xT.A a0 r15 xT.Naks xT.Peer)))
def fsm_letters  : Option Unit :=
  (some ())
def fsm_table  : Option (List ByteArray) :=
  (some ([(⟨#[50, 32, 105, 114, 54, 32, 45, 32, 45, 32, 45, 32, 45, 32, 45, 32, 45, 32, 45, 32, 45]⟩ : ByteArray), (⟨#[45, 32, 45, 32, 48, 32, 116, 49, 32, 48, 32, 49, 32, 49, 32, 49, 32, 49, 32, 100, 49]⟩ : ByteArray), (⟨#[116, 49, 32, 49, 32, 105, 114, 54, 32, 51, 32, 53, 32, 53, 32, 54, 32, 55, 32, 56, 32, 57]⟩ : ByteArray), (⟨#[48, 32, 102, 48, 32, 50, 32, 50, 32, 52, 32, 52, 32, 105, 115, 52, 32, 105, 115, 52, 32, 105, 115, 52, 32, 100, 105, 115, 52]⟩ : ByteArray), (⟨#[45, 32, 45, 32, 45, 32, 45, 32, 115, 52, 32, 115, 53, 32, 114, 54, 32, 114, 54, 32, 114, 56, 32, 45]⟩ : ByteArray), (⟨#[45, 32, 45, 32, 45, 32, 45, 32, 102, 50, 32, 102, 51, 32, 102, 51, 32, 102, 51, 32, 102, 51, 32, 45]⟩ : ByteArray), (⟨#[45, 32, 45, 32, 107, 50, 32, 105, 114, 97, 56, 32, 52, 32, 53, 32, 97, 56, 32, 97, 117, 57, 32, 97, 56, 32, 100, 114, 97, 56]⟩ : ByteArray), (⟨#[45, 32, 45, 32, 107, 50, 32, 105, 114, 110, 54, 32, 52, 32, 53, 32, 110, 54, 32, 110, 55, 32, 110, 54, 32, 100, 114, 110, 54]⟩ : ByteArray), (⟨#[45, 32, 45, 32, 107, 50, 32, 107, 51, 32, 52, 32, 53, 32, 105, 55, 32, 114, 54, 32, 105, 117, 57, 32, 100, 114, 54]⟩ : ByteArray), (⟨#[45, 32, 45, 32, 107, 50, 32, 107, 51, 32, 52, 32, 53, 32, 105, 114, 54, 32, 114, 54, 32, 105, 114, 56, 32, 100, 114, 54]⟩ : ByteArray), (⟨#[45, 32, 45, 32, 107, 50, 32, 107, 51, 32, 107, 52, 32, 107, 53, 32, 107, 54, 32, 107, 54, 32, 107, 54, 32, 100, 122, 107, 53]⟩ : ByteArray), (⟨#[45, 32, 45, 32, 50, 32, 51, 32, 102, 50, 32, 102, 51, 32, 54, 32, 54, 32, 56, 32, 100, 114, 54]⟩ : ByteArray), (⟨#[45, 32, 45, 32, 106, 50, 32, 106, 51, 32, 106, 52, 32, 106, 53, 32, 106, 54, 32, 106, 55, 32, 106, 56, 32, 106, 57]⟩ : ByteArray), (⟨#[45, 32, 45, 32, 50, 32, 51, 32, 52, 32, 53, 32, 54, 32, 54, 32, 56, 32, 57]⟩ : ByteArray), (⟨#[45, 32, 45, 32, 102, 50, 32, 102, 51, 32, 102, 50, 32, 102, 51, 32, 102, 51, 32, 102, 51, 32, 102, 51, 32, 100, 105, 115, 53]⟩ : ByteArray), (⟨#[45, 32, 45, 32, 50, 32, 51, 32, 52, 32, 53, 32, 54, 32, 55, 32, 56, 32, 101, 57]⟩ : ByteArray)] : (List ByteArray)))
def fsm_Next_j3 (a0 : Int) (x41 : ByteArray) (x121 : Nat) (x130 : (List Int)) (x135 : Bool) : Option (((List Int) × Nat) ⊕ ((List Int) × Int × Bool)) :=
  (if x135 = true then (Option.map Sum.inr (some (x130, (IntKind.i64.wrap ((IntKind.i32.wrap ((nxt x41 x121).1 - 48)))), true))) else (if ((nxt x41 x121).1 == 45) = true then (Option.map Sum.inr (some (([] : (List Int)), a0, false))) else ((app x130 ([((lkI [(117, 1), (100, 2), (116, 3), (102, 4), (105, 5), (122, 6), (114, 7), (97, 8), (110, 9), (115, 10), (107, 11), (106, 12), (101, 13)] ((nxt x41 x121).1)).getD 0)] : (List Int))).bind fun r149 => (some (.inl (r149, (nxt x41 x121).2))))))
def fsm_Next_l2 (a0 : Int) (x41 : ByteArray) (x116 : (List Int)) (x121 : Nat) : Option (((List Int) × Nat) ⊕ ((List Int) × Int × Bool)) :=
  (if (decide (x121 < x41.size)) = true then (if (decide ((nxt x41 x121).1 ≥ 48)) = true then (fsm_Next_j3 a0 x41 x121 x116 (decide ((nxt x41 x121).1 ≤ 57))) else (fsm_Next_j3 a0 x41 x121 x116 false)) else (Option.map Sum.inr (some (([] : (List Int)), a0, false))))
def fsm_Next_j1 (a0 : Int) (a1 : Int) (x4 : Bool) : Option ((List Int) × Int × Bool) :=
  (if x4 = true then (some (([] : (List Int)), a0, false)) else ((fsm_letters).bind fun r9 => ((fsm_table).bind fun r18 => ((idx r18 a1).bind fun x27 => ((flds x27).bind fun r31 => ((idx r31 a0).bind fun x41 => (xL (fun s => fsm_Next_l2 a0 x41 s.1 s.2) (([] : (List Int)), 0))))))))
def fsm_Next (a0 : Int) (a1 : Int) : Option ((List Int) × Int × Bool) :=
  (if (decide (a0 < 0)) = true then (fsm_Next_j1 a0 a1 true) else (if (decide (a0 ≥ 10)) = true then (fsm_Next_j1 a0 a1 true) else (if (decide (a1 < 0)) = true then (fsm_Next_j1 a0 a1 true) else (fsm_Next_j1 a0 a1 (decide (a1 ≥ 16))))))
def slices_Index_int_l1 (a0 : (List Int)) (a1 : Int) (x9 : Int) : Option (Int ⊕ Int) :=
  (if (decide (x9 < (a0.length : Int))) = true then ((idx a0 x9).bind fun x15 => (if (a1 == x15) = true then (Option.map Sum.inr (some x9)) else (some (.inl (IntKind.i64.wrap (x9 + 1)))))) else (Option.map Sum.inr (some (-1))))
def slices_Index_int (a0 : (List Int)) (a1 : Int) : Option Int :=
  (xL (fun s => slices_Index_int_l1 a0 a1 s) 0)
def jC (a0 : (List Int)) (a1 : Int) : Option Bool :=
  ((slices_Index_int a0 a1).bind fun r1 => (some (decide (r1 ≥ 0))))
def auto_work_begin (x2 : Tauto_work) : Option Tauto_work :=
  ((jC x2.L 10).bind fun r10 => (if r10 = true then (some (Tauto_work.mk (TAuto.mk x2.Auto.State 2 x2.Auto.Left x2.Auto.Id) x2.L)) else (some (Tauto_work.mk (TAuto.mk x2.Auto.State 5 x2.Auto.Left x2.Auto.Id) x2.L))))
def auto_work_nought (x2 : Tauto_work) : Option Tauto_work :=
  (some (Tauto_work.mk (TAuto.mk x2.Auto.State 0 3 x2.Auto.Id) x2.L))
def auto_work_send (x2 : Tauto_work) : Option Tauto_work :=
  (some (Tauto_work.mk (TAuto.mk x2.Auto.State (if (IntKind.i64.wrap (x2.Auto.Count - 1)) < 0 then 0 else (IntKind.i64.wrap (x2.Auto.Count - 1))) 3 (IntKind.u8.wrap (x2.Auto.Id + 1))) x2.L))
def fsm_Timed (a0 : Int) : Option Bool :=
  (if (decide (a0 ≥ 4)) = true then (some (decide (a0 ≤ 8))) else (some false))
def auto_Do_j2 (x192 : Int) (x239 : Tauto_work) : Option ((Int × Tauto_work) ⊕ (TAuto × (List Int) × Int)) :=
  (some (.inl ((IntKind.i64.wrap (x192 + 1)), x239)))
def auto_Do_l1 (r9 : ((List Int) × Int × Bool)) (x192 : Int) (x193 : Tauto_work) : Option ((Int × Tauto_work) ⊕ (TAuto × (List Int) × Int)) :=
  (if (decide (x192 < (r9.1.length : Int))) = true then ((idx r9.1 x192).bind fun x243 => (if (x243 == 5) = true then ((auto_work_begin x193).bind fun r252 => (auto_Do_j2 x192 r252)) else (if (x243 == 6) = true then ((auto_work_nought x193).bind fun r260 => (auto_Do_j2 x192 r260)) else (if (x243 == 7) = true then ((auto_work_send x193).bind fun r268 => (auto_Do_j2 x192 r268)) else (if (x243 == 10) = true then ((auto_work_send x193).bind fun r276 => (auto_Do_j2 x192 r276)) else (auto_Do_j2 x192 x193)))))) else (Option.map Sum.inr ((fsm_Timed r9.2.1).bind fun r285 => (if (!r285) = true then (some ((TAuto.mk r9.2.1 x193.Auto.Count 0 x193.Auto.Id), r9.1, 0)) else (some ((TAuto.mk r9.2.1 x193.Auto.Count x193.Auto.Left x193.Auto.Id), r9.1, 0))))))
def auto_Do (a0 : TAuto) (a1 : Int) : Option (TAuto × (List Int) × Int) :=
  ((fsm_Next a0.State a1).bind fun r9 => (if (!r9.2.2) = true then (some (a0, ([] : (List Int)), 1)) else (xL (fun s => auto_Do_l1 r9 s.1 s.2) (0, (Tauto_work.mk a0 r9.1)))))
def opts_Bytes_l1 (a0 : (List TOpt)) (x106 : (List Int)) (x111 : Int) : Option (((List Int) × Int) ⊕ ((List Int) × Int)) :=
  (if (decide (x111 < (a0.length : Int))) = true then ((idx a0 x111).bind fun x163 => (if (decide ((x163.Data.length : Int) > 253)) = true then (Option.map Sum.inr (some (([] : (List Int)), 1))) else ((app x106 ([x163.Typ, (IntKind.u8.wrap ((IntKind.i64.wrap ((x163.Data.length : Int) + 2))))] : (List Int))).bind fun r192 => ((app r192 x163.Data).bind fun r204 => (some (.inl (r204, (IntKind.i64.wrap (x111 + 1))))))))) else (Option.map Sum.inr (if (decide ((x106.length : Int) > 1496)) = true then (some (([] : (List Int)), 1)) else (some (x106, 0)))))
def opts_Bytes (a0 : (List TOpt)) : Option ((List Int) × Int) :=
  (xL (fun s => opts_Bytes_l1 a0 s.1 s.2) (([] : (List Int)), 0))
def jm (x413 : Int) (x570 : TNego) (x571 : (List TPkt)) (x576 : (List Int)) (x581 : TPkt) : Option ((Int × TNego × (List TPkt) × (List Int) × TPkt) ⊕ (TNego × (List TPkt) × (List Int) × TPkt)) :=
  (some (.inl ((IntKind.i64.wrap (x413 + 1)), x570, x571, x576, x581)))
def xH (x413 : Int) (x585 : Int) (x942 : Bool) (x943 : TNego) (x944 : (List TPkt)) (x949 : (List Int)) (x954 : TPkt) : Option ((Int × TNego × (List TPkt) × (List Int) × TPkt) ⊕ (TNego × (List TPkt) × (List Int) × TPkt)) :=
  (if x942 = true then ((app x949 ([x585] : (List Int))).bind fun r965 => (jm x413 x943 x944 r965 x954)) else (jm x413 x943 x944 x949 x954))
def xd (a3 : TPkt) (x413 : Int) (x585 : Int) (x844 : Bool) (x845 : TNego) (x846 : (List TPkt)) (x851 : (List Int)) (x856 : TPkt) : Option ((Int × TNego × (List TPkt) × (List Int) × TPkt) ⊕ (TNego × (List TPkt) × (List Int) × TPkt)) :=
  (if x844 = true then ((app x846 ([a3] : (List TPkt))).bind fun r871 => (jm x413 x845 r871 x851 x856)) else (if (x585 == 1) = true then (xH x413 x585 (x585 == 1) x845 x846 x851 x856) else (if (x585 == 2) = true then (xH x413 x585 (x585 == 2) x845 x846 x851 x856) else (if (x585 == 3) = true then (xH x413 x585 (x585 == 3) x845 x846 x851 x856) else (xH x413 x585 (x585 == 4) x845 x846 x851 x856)))))
def nego_work_acts_l2 (a2 : (List Int)) (a3 : TPkt) (x413 : Int) (x414 : TNego) (x415 : (List TPkt)) (x420 : (List Int)) (x425 : TPkt) : Option ((Int × TNego × (List TPkt) × (List Int) × TPkt) ⊕ (TNego × (List TPkt) × (List Int) × TPkt)) :=
  (if (decide (x413 < (a2.length : Int))) = true then ((idx a2 x413).bind fun x585 => (if (x585 == 7) = true then ((opts_Bytes x414.Ours).bind fun r595 => ((app x415 ([(TPkt.mk 1 x414.A.Id r595.1)] : (List TPkt))).bind fun r615 => (jm x413 x414 r615 x420 x425))) else (if (x585 == 10) = true then ((app x415 ([(TPkt.mk 5 x414.A.Id zj.Data)] : (List TPkt))).bind fun r694 => (jm x413 x414 r694 x420 x425)) else (if (x585 == 11) = true then ((app x415 ([(TPkt.mk 6 x425.Id zj.Data)] : (List TPkt))).bind fun r773 => (jm x413 x414 r773 x420 x425)) else (if (x585 == 8) = true then (xd a3 x413 x585 (x585 == 8) x414 x415 x420 x425) else (if (x585 == 9) = true then (xd a3 x413 x585 (x585 == 9) x414 x415 x420 x425) else (if (x585 == 12) = true then (xd a3 x413 x585 (x585 == 12) x414 x415 x420 x425) else (xd a3 x413 x585 (x585 == 13) x414 x415 x420 x425)))))))) else (Option.map Sum.inr (some (x414, x415, x420, x425))))
def nego_work_acts_j1 (a2 : (List Int)) (a3 : TPkt) (x66 : TNego) (x67 : (List TPkt)) (x72 : (List Int)) (x77 : TPkt) : Option (TNego × (List TPkt) × (List Int) × TPkt) :=
  (xL (fun s => nego_work_acts_l2 a2 a3 s.1 s.2.1 s.2.2.1 s.2.2.2.1 s.2.2.2.2) (0, x66, x67, x72, x77))
def xJ (a2 : (List Int)) (a3 : TPkt) (x996 : Bool) (x997 : TNego) (x998 : (List TPkt)) (x1003 : (List Int)) (x1008 : TPkt) : Option (TNego × (List TPkt) × (List Int) × TPkt) :=
  (if x996 = true then ((rules_Ask x997.R).bind fun r1015 => (nego_work_acts_j1 a2 a3 (TNego.mk x997.A x997.R r1015 0 []) x998 x1003 x1008)) else (nego_work_acts_j1 a2 a3 x997 x998 x1003 x1008))
def xQ (x2 : TNego) (x3 : (List TPkt)) (x8 : (List Int)) (x13 : TPkt) (a1 : Int) (a2 : (List Int)) (a3 : TPkt) : Option (TNego × (List TPkt) × (List Int) × TPkt) :=
  (if (decide (a1 ≤ 3)) = true then ((jC a2 5).bind fun r1032 => (if r1032 = true then ((jC a2 7).bind fun r1040 => (xJ a2 a3 r1040 x2 x3 x8 x13)) else (xJ a2 a3 false x2 x3 x8 x13))) else (xJ a2 a3 false x2 x3 x8 x13))
def ze (x2 : TNego) (x3 : (List TPkt)) (x8 : (List Int)) (x13 : TPkt) (a1 : Int) (a2 : TPkt) : Option ((List Int) × TNego × (List TPkt) × (List Int) × TPkt) :=
  ((auto_Do x2.A a1).bind fun r20 => (if (r20.2.2 != 0) = true then (some (([] : (List Int)), x2, x3, x8, x13)) else ((xQ (TNego.mk r20.1 x2.R x2.Ours x2.Naks x2.Peer) x3 x8 x13 x2.A.State r20.2.1 a2).bind fun r45 => (some (r20.2.1, r45.1, r45.2.1, r45.2.2.1, r45.2.2.2)))))
def nego_work_told (x2 : TNego) (x3 : (List TPkt)) (x8 : (List Int)) (x13 : TPkt) : Option (TNego × (List TPkt) × (List Int)) :=
  (some (x2, x3, x8))
def nego_Do_j1  (x50 : TNego) (x51 : (List TPkt)) (x56 : (List Int)) (x61 : TPkt) : Option (TNego × (List TPkt) × (List Int)) :=
  ((nego_work_told x50 x51 x56 x61).bind fun r65 => (some (r65.1, r65.2.1, r65.2.2)))
def nego_Do_j2 (a1 : Int) (x86 : Bool) (x87 : TNego) (x88 : (List TPkt)) (x93 : (List Int)) (x98 : TPkt) : Option (TNego × (List TPkt) × (List Int)) :=
  (if x86 = true then ((ze x87 x88 x93 x98 a1 zj).bind fun r105 => (nego_Do_j1 r105.2.1 r105.2.2.1 r105.2.2.2.1 r105.2.2.2.2)) else (nego_Do_j1 x87 x88 x93 x98))
def nego_Do (a0 : TNego) (a1 : Int) : Option (TNego × (List TPkt) × (List Int)) :=
  (if (decide (a1 ≥ 0)) = true then (nego_Do_j2 a1 (decide (a1 ≤ 3)) a0 ([] : (List TPkt)) ([] : (List Int)) zj) else (nego_Do_j2 a1 false a0 ([] : (List TPkt)) ([] : (List Int)) zj))
def pack_codes  : Option Unit :=
  (some ())
def pack_Known (a0 : Int) (a1 : Int) : Option Bool :=
  ((pack_codes).bind fun r24 => (if (lkK ([(49185, ([1, 11] : (List Int))), (49699, ([1, 4] : (List Int))), (32801, ([1, 7] : (List Int)))] : List (Int × (List Int))) a0).isSome = true then (if (decide (a1 ≥ (((lkK ([(49185, ([1, 11] : (List Int))), (49699, ([1, 4] : (List Int))), (32801, ([1, 7] : (List Int)))] : List (Int × (List Int))) a0).getD (List.replicate 2 0)).getD 0 0))) = true then (some (decide (a1 ≤ (((lkK ([(49185, ([1, 11] : (List Int))), (49699, ([1, 4] : (List Int))), (32801, ([1, 7] : (List Int)))] : List (Int × (List Int))) a0).getD (List.replicate 2 0)).getD 1 0)))) else (some false)) else (some false)))
def pack_Bytes (a0 : TPkt) : Option ((List Int) × Int) :=
  (if (decide ((IntKind.i64.wrap ((a0.Data.length : Int) + 4)) > 1500)) = true then (some (([] : (List Int)), 1)) else ((app ([a0.Code, a0.Id, (IntKind.u8.wrap ((sShr .i64 (IntKind.i64.wrap ((a0.Data.length : Int) + 4)) 8))), (IntKind.u8.wrap ((IntKind.i64.wrap ((a0.Data.length : Int) + 4))))] : (List Int)) a0.Data).bind fun r20 => (some (r20, 0))))
def pack_short (a0 : (List Int)) : Option (List Int) :=
  ((cut a0 none (some (if 1496 < (a0.length : Int) then 1496 else (a0.length : Int)))).bind fun r1 => (some r1))
def pack_Reject (a0 : TPkt) (a1 : Int) : Option TPkt :=
  ((pack_Bytes a0).bind fun r11 => ((pack_short r11.1).bind fun r21 => (some (TPkt.mk 7 a1 r21))))
def nego_codes  : Option Unit :=
  (some ())
def opts_parts (a0 : (List Int)) : Option (List Int) :=
  (some a0)
def rd_opts_Read_t (o : TOpt) (x : (List TOpt)) (y0 : (List TOpt)) (y1 : Int) : Option ((List TOpt) × (List TOpt) × Int) :=
  ((app x ([o] : (List TOpt))).bind fun r45 => (some (r45, y0, y1)))
def rd_opts_Read_f (o : TOpt) (x : (List TOpt)) (y0 : (List TOpt)) (y1 : Int) : Option ((List TOpt) × (List TOpt) × Int) :=
  (some (x, [], 2))
def jX (x307 : (List TOpt)) (x308 : Int) (x309 : (List Int)) (x350 : Bool) (x351 : (List TOpt)) : Option (((List TOpt) × (List TOpt) × Int × (List Int)) ⊕ (Bool × (List TOpt) × (List TOpt) × Int × (List Int))) :=
  (if x350 = true then ((rd_opts_Read_f zTOpt x351 x307 x308).bind fun r363 => (Option.map Sum.inr (some (false, r363.1, r363.2.1, r363.2.2, x309)))) else ((idx x309 1).bind fun x378 => ((idx x309 0).bind fun x420 => ((cut x309 (some 2) (some (IntKind.i64.wrap (x378)))).bind fun r429 => ((rd_opts_Read_t (TOpt.mk x420 r429) x351 x307 x308).bind fun r436 => ((cut x309 (some (IntKind.i64.wrap (x378))) none).bind fun r522 => (some (.inl (r436.1, r436.2.1, r436.2.2, r522)))))))))
def jZ  (x302 : (List TOpt)) (x307 : (List TOpt)) (x308 : Int) (x309 : (List Int)) : Option (((List TOpt) × (List TOpt) × Int × (List Int)) ⊕ (Bool × (List TOpt) × (List TOpt) × Int × (List Int))) :=
  (if (decide ((x309.length : Int) > 0)) = true then (if (decide ((x309.length : Int) < 2)) = true then (jX x307 x308 x309 true x302) else ((idx x309 1).bind fun x586 => (if (decide (x586 < 2)) = true then (jX x307 x308 x309 true x302) else ((idx x309 1).bind fun x620 => (jX x307 x308 x309 (decide ((IntKind.i64.wrap (x620)) > (x309.length : Int))) x302))))) else (Option.map Sum.inr (some (true, x302, x307, x308, x309))))
def opts_parts_1_yld (a0x : (List TOpt)) (a0y : (List TOpt)) (a0z : Int) (x7 : (List Int)) : Option (Bool × (List TOpt) × (List TOpt) × Int × (List Int)) :=
  (xL (fun s => jZ s.1 s.2.1 s.2.2.1 s.2.2.2) (a0x, a0y, a0z, x7))
def opts_Read (a0 : (List Int)) : Option ((List TOpt) × Int) :=
  ((opts_parts a0).bind fun r13 => ((opts_parts_1_yld ([] : (List TOpt)) [] 0 r13).bind fun r31 => (if r31.1 = true then (some (r31.2.1, 0)) else (some (r31.2.2.1, r31.2.2.2.1)))))
def rules_kinds_k1 (a0 : TRule) : Option Unit :=
  (some ())
def rules_kinds_k0 (a0 : TRule) : Option Unit :=
  (some ())
def jB (a1 : TOpt) (x68 : Trules_kind) (x71 : Bool) : Option (Trules_kind × Bool) :=
  (if x71 = true then (some (x68, (x68.Long == (a1.Data.length : Int)))) else (some (x68, false)))
def rules_of (a0 : TRule) (a1 : TOpt) : Option (Trules_kind × Bool) :=
  (if a0.Ip = true then ((rules_kinds_k1 a0).bind fun r238 => (if (a1.Typ == 3) = true then (jB a1 (Trules_kind.mk 4 (FV.rules_kinds_1 a0) a0.Addr) true) else (jB a1 qL false))) else ((rules_kinds_k0 a0).bind fun r607 => (jB a1 ((lkK ([(1, (Trules_kind.mk 2 FV.rules_kinds_2 64)), (2, (Trules_kind.mk 4 FV.rules_never 0)), (5, (Trules_kind.mk 4 (FV.rules_kinds_3 a0) a0.Other)), (7, (Trules_kind.mk 0 FV.rules_never 0)), (8, (Trules_kind.mk 0 FV.rules_never 0))] : List (Int × Trules_kind)) a1.Typ).getD qL) ((lkK ([(1, (Trules_kind.mk 2 FV.rules_kinds_2 64)), (2, (Trules_kind.mk 4 FV.rules_never 0)), (5, (Trules_kind.mk 4 (FV.rules_kinds_3 a0) a0.Other)), (7, (Trules_kind.mk 0 FV.rules_never 0)), (8, (Trules_kind.mk 0 FV.rules_never 0))] : List (Int × Trules_kind)) a1.Typ).isSome))))
def opts_Number_l1 (a0 : (List Int)) (x9 : Int) (x10 : Int) : Option ((Int × Int) ⊕ Int) :=
  (if (decide (x10 < (a0.length : Int))) = true then ((idx a0 x10).bind fun x16 => (some (.inl ((bOr .u32 (sShl .u32 x9 8) (IntKind.u32.wrap (x16))), (IntKind.i64.wrap (x10 + 1)))))) else (Option.map Sum.inr (some x9)))
def opts_Number (a0 : (List Int)) : Option Int :=
  (xL (fun s => opts_Number_l1 a0 s.1 s.2) (0, 0))
def rules_kinds_1 (a0 : Int) (a1 : TRule) : Option Bool :=
  (some (a0 != a1.Addr))
def rules_kinds_2 (a0 : Int) : Option Bool :=
  (some (decide (a0 < 64)))
def rules_never (a0 : Int) : Option Bool :=
  (some false)
def rules_kinds_3 (a0 : Int) (a1 : TRule) : Option Bool :=
  (if (a0 == 0) = true then (some true) else (some (a0 == a1.Magic)))
def ap (x : FV) (a0 : Int) : Option Bool :=
  match x with
  | .nil => none
  | .rules_kinds_1 r => rules_kinds_1 a0 r
  | .rules_kinds_2 => rules_kinds_2 a0
  | .rules_never => rules_never a0
  | .rules_kinds_3 r => rules_kinds_3 a0 r
def rules_Address_1 (a0 : TOpt) : Option Bool :=
  ((rules_of (TRule.mk true zTRule.Magic zTRule.Other zTRule.Addr zTRule.Ours) a0).bind fun r9 => (some r9.2))
def jk (a0 : (List TOpt)) (x18 : Int) : Option (Int ⊕ Int) :=
  (if (decide (x18 < (a0.length : Int))) = true then ((idx a0 x18).bind fun x24 => ((rules_Address_1 x24).bind fun r30 => (if r30 = true then (Option.map Sum.inr (some x18)) else (some (.inl (IntKind.i64.wrap (x18 + 1))))))) else (Option.map Sum.inr (some (-1))))
def xC (a0 : (List TOpt)) : Option Int :=
  (xL (fun s => jk a0 s) 0)
def rules_Address (a0 : (List TOpt)) : Option (Int × Bool) :=
  ((xC a0).bind fun r1 => (if (decide (r1 < 0)) = true then (some (0, false)) else ((idx a0 r1).bind fun x9 => ((opts_Number x9.Data).bind fun r18 => (some (r18, true))))))
def rules_Answer_j2 (x239 : Int) (x364 : (List TOpt)) (x369 : (List TOpt)) (x374 : (List TOpt)) : Option (((List TOpt) × (List TOpt) × (List TOpt) × Int) ⊕ (Int × (List TOpt))) :=
  (some (.inl (x364, x369, x374, (IntKind.i64.wrap (x239 + 1)))))
def rules_Answer_j4 (a1 : (List TOpt)) (x634 : (List TOpt)) (x638 : (List TOpt)) : Option (Int × (List TOpt)) :=
  (if (decide ((x634.length : Int) > 0)) = true then (some (4, x634)) else (if (decide ((x638.length : Int) > 0)) = true then (some (3, x638)) else (some (2, a1))))
def rules_Answer_j3 (a1 : (List TOpt)) (a2 : Int) (x617 : (List TOpt)) (x621 : (List TOpt)) (x625 : (List TOpt)) : Option (Int × (List TOpt)) :=
  (if (decide (a2 ≥ 3)) = true then (if ((x617.length : Int) == 0) = true then (rules_Answer_j4 a1 x621 ([] : (List TOpt))) else (rules_Answer_j4 a1 x617 ([] : (List TOpt)))) else (rules_Answer_j4 a1 x617 x625))
def rules_Answer_j5 (a0 : TRule) (a1 : (List TOpt)) (a2 : Int) (x657 : (List TOpt)) (x661 : (List TOpt)) (x665 : (List TOpt)) (x670 : Bool) : Option (Int × (List TOpt)) :=
  (if x670 = true then ((rules_number 3 4 a0.Addr).bind fun r675 => ((app x665 ([r675] : (List TOpt))).bind fun r688 => (rules_Answer_j3 a1 a2 x657 x661 r688))) else (rules_Answer_j3 a1 a2 x657 x661 x665))
def rules_Answer_l1 (a0 : TRule) (a1 : (List TOpt)) (a2 : Int) (x224 : (List TOpt)) (x229 : (List TOpt)) (x234 : (List TOpt)) (x239 : Int) : Option (((List TOpt) × (List TOpt) × (List TOpt) × Int) ⊕ (Int × (List TOpt))) :=
  (if (decide (x239 < (a1.length : Int))) = true then ((idx a1 x239).bind fun x382 => ((rules_of a0 x382).bind fun r398 => (if (!r398.2) = true then ((app x224 ([x382] : (List TOpt))).bind fun r420 => (rules_Answer_j2 x239 r420 x229 x234)) else ((opts_Number x382.Data).bind fun r456 => ((ap r398.1.Not r456).bind fun r463 => (if r463 = true then ((app x229 ([x382] : (List TOpt))).bind fun r521 => ((rules_number x382.Typ r398.1.Long r398.1.Should).bind fun r528 => ((app x234 ([r528] : (List TOpt))).bind fun r541 => (rules_Answer_j2 x239 x224 r521 r541)))) else (rules_Answer_j2 x239 x224 x229 x234))))))) else (Option.map Sum.inr ((rules_Address a1).bind fun r649 => (if a0.Ip = true then (rules_Answer_j5 a0 a1 a2 x224 x229 x234 (!r649.2)) else (rules_Answer_j5 a0 a1 a2 x224 x229 x234 false)))))
def rules_Answer (a0 : TRule) (a1 : (List TOpt)) (a2 : Int) : Option (Int × (List TOpt)) :=
  (xL (fun s => rules_Answer_l1 a0 a1 a2 s.1 s.2.1 s.2.2.1 s.2.2.2) (([] : (List TOpt)), ([] : (List TOpt)), ([] : (List TOpt)), 0))
def nego_work_reply (x2 : TNego) (x3 : (List TPkt)) (x8 : (List Int)) (x13 : TPkt) (a1 : Int) (a2 : (List Int)) : Option (TPkt × TNego × (List TPkt) × (List Int) × TPkt) :=
  (some ((TPkt.mk a1 x13.Id a2), x2, x3, x8, x13))
def nego_answers (a0 : (List Int)) : Option Bool :=
  ((jC a0 8).bind fun r1 => (if r1 = true then (some true) else ((jC a0 9).bind fun r9 => (some r9))))
def xm (r19 : ((List TOpt) × Int)) (r64 : (Int × (List TOpt))) (r101 : ((List Int) × Int)) (x112 : Int) (x113 : TNego) (x114 : (List TPkt)) (x119 : (List Int)) (x124 : TPkt) : Option (TNego × (List TPkt) × (List Int) × TPkt) :=
  ((nego_work_reply x113 x114 x119 x124 r64.1 r101.1).bind fun r128 => ((ze r128.2.1 r128.2.2.1 r128.2.2.2.1 r128.2.2.2.2 x112 r128.1).bind fun r143 => ((nego_answers r143.1).bind fun r159 => (if (!r159) = true then (some (r143.2.1, r143.2.2.1, r143.2.2.2.1, r143.2.2.2.2)) else (if (r64.1 == 2) = true then (some ((TNego.mk r143.2.1.A r143.2.1.R r143.2.1.Ours 0 r19.1), r143.2.2.1, r143.2.2.2.1, r143.2.2.2.2)) else (if (r64.1 == 3) = true then (some ((TNego.mk r143.2.1.A r143.2.1.R r143.2.1.Ours (if 3 < (IntKind.i64.wrap (r143.2.1.Naks + 1)) then 3 else (IntKind.i64.wrap (r143.2.1.Naks + 1))) r143.2.1.Peer), r143.2.2.1, r143.2.2.2.1, r143.2.2.2.2)) else (some (r143.2.1, r143.2.2.1, r143.2.2.2.1, r143.2.2.2.2))))))))
def xi (r19 : ((List TOpt) × Int)) (x33 : TNego) (x34 : (List TPkt)) (x39 : (List Int)) (x44 : TPkt) : Option (TNego × (List TPkt) × (List Int) × TPkt) :=
  ((rules_Answer x33.R r19.1 x33.Naks).bind fun r64 => ((opts_Bytes r64.2).bind fun r101 => (if (r64.1 == 2) = true then (xm r19 r64 r101 6 x33 x34 x39 x44) else (xm r19 r64 r101 7 x33 x34 x39 x44))))
def xM (x2 : TNego) (x3 : (List TPkt)) (x8 : (List Int)) (x13 : TPkt) : Option (TNego × (List TPkt) × (List Int) × TPkt) :=
  ((opts_Read x13.Data).bind fun r19 => (if (r19.2 != 0) = true then (some (x2, x3, x8, x13)) else (if (x2.A.State == 3) = true then (xi r19 (TNego.mk x2.A x2.R x2.Ours 0 x2.Peer) x3 x8 x13) else (xi r19 x2 x3 x8 x13))))
def bytes_Equal (a0 : (List Int)) (a1 : (List Int)) : Option Bool :=
  (some (streq (bstr a0) (bstr a1)))
def yg  (x42 : Bool) (x43 : TNego) (x44 : (List TPkt)) (x49 : (List Int)) (x54 : TPkt) : Option (TNego × (List TPkt) × (List Int) × TPkt) :=
  (if x42 = true then ((ze x43 x44 x49 x54 8 zj).bind fun r61 => (some (r61.2.1, r61.2.2.1, r61.2.2.2.1, r61.2.2.2.2))) else (some (x43, x44, x49, x54)))
def nego_work_ack (x2 : TNego) (x3 : (List TPkt)) (x8 : (List Int)) (x13 : TPkt) : Option (TNego × (List TPkt) × (List Int) × TPkt) :=
  ((opts_Bytes x2.Ours).bind fun r19 => (if (x13.Id == x2.A.Id) = true then ((bytes_Equal r19.1 x13.Data).bind fun r85 => (yg r85 x2 x3 x8 x13)) else (yg false x2 x3 x8 x13)))
def opts_of (a0 : Int) : Option Int :=
  (some a0)
def opts_of_1 (a0 : TOpt) (x2 : Int) : Option (Bool × Int) :=
  (some ((a0.Typ == x2), x2))
def jj (a0 : (List TOpt)) (x38 : Int) (x39 : Int) : Option ((Int × Int) ⊕ (Int × Int)) :=
  (if (decide (x38 < (a0.length : Int))) = true then ((idx a0 x38).bind fun x45 => ((opts_of_1 x45 x39).bind fun r51 => (if r51.1 = true then (Option.map Sum.inr (some (x38, r51.2))) else (some (.inl ((IntKind.i64.wrap (x38 + 1)), r51.2)))))) else (Option.map Sum.inr (some ((-1), x39))))
def jG (a0 : (List TOpt)) (x2 : Int) : Option (Int × Int) :=
  (xL (fun s => jj a0 s.1 s.2) (0, x2))
def xS (a0 : (List TOpt)) (x2 : Int) : Option (TOpt × Int × Int) :=
  ((jG a0 x2).bind fun r11 => (if (decide (r11.1 < 0)) = true then (some (zTOpt, r11.1, r11.2)) else ((idx a0 r11.1).bind fun x26 => (some (x26, r11.1, r11.2)))))
def opts_Find (a0 : (List TOpt)) (a1 : Int) : Option (TOpt × Bool) :=
  ((opts_of a1).bind fun r5 => ((xS a0 r5).bind fun r14 => (some (r14.1, (decide (r14.2.1 ≥ 0))))))
def slices_Clone_Opt (a0 : (List TOpt)) : Option (List TOpt) :=
  ((app ([] : (List TOpt)) a0).bind fun r8 => (some r8))
def rules_Turn_1 (a0 : TOpt) (x2 : (List TOpt)) : Option (Bool × (List TOpt)) :=
  ((opts_Find x2 a0.Typ).bind fun r12 => (some (r12.2, x2)))
def jd (a0 : (List TOpt)) (x39 : Int) (x40 : (List TOpt)) : Option ((Int × (List TOpt)) ⊕ (Int × (List TOpt))) :=
  (if (decide (x39 < (a0.length : Int))) = true then ((idx a0 x39).bind fun x46 => ((rules_Turn_1 x46 x40).bind fun r52 => (if r52.1 = true then (Option.map Sum.inr (some (x39, r52.2))) else (some (.inl ((IntKind.i64.wrap (x39 + 1)), r52.2)))))) else (Option.map Sum.inr (some ((-1), x40))))
def xk (a0 : (List TOpt)) (x3 : (List TOpt)) : Option (Int × (List TOpt)) :=
  (xL (fun s => jd a0 s.1 s.2) (0, x3))
def xp (x119 : Int) (x156 : (List TOpt)) (x161 : Int) (x162 : (List TOpt)) : Option (((List TOpt) × Int × Int × (List TOpt)) ⊕ ((List TOpt) × (List TOpt))) :=
  (some (.inl (x156, x161, (IntKind.i64.wrap (x119 + 1)), x162)))
def slices_DeleteFunc_Opt_rules_Turn_1_l1  (x113 : (List TOpt)) (x118 : Int) (x119 : Int) (x120 : (List TOpt)) : Option (((List TOpt) × Int × Int × (List TOpt)) ⊕ ((List TOpt) × (List TOpt))) :=
  (if (decide (x119 < (x113.length : Int))) = true then ((idx x113 x119).bind fun x166 => ((rules_Turn_1 x166 x120).bind fun r180 => (if (!r180.1) = true then ((idx x113 x118).bind fun x190 => (xp x119 (x113.set (x118).toNat x166) (IntKind.i64.wrap (x118 + 1)) r180.2)) else (xp x119 x113 x118 r180.2)))) else (Option.map Sum.inr ((cut x113 none (some x118)).bind fun r196 => (some (r196, x120)))))
def xV (a0 : (List TOpt)) (x3 : (List TOpt)) : Option ((List TOpt) × (List TOpt)) :=
  ((xk a0 x3).bind fun r4 => (if (r4.1 == (-1)) = true then (some (a0, r4.2)) else (xL (fun s => slices_DeleteFunc_Opt_rules_Turn_1_l1 s.1 s.2.1 s.2.2.1 s.2.2.2) (a0, r4.1, (IntKind.i64.wrap (r4.1 + 1)), r4.2))))
def opts_Put (a0 : (List TOpt)) (a1 : TOpt) : Option (List TOpt) :=
  ((slices_Clone_Opt a0).bind fun r5 => ((opts_of a1.Typ).bind fun r16 => ((xS a0 r16).bind fun r25 => (if (decide (r25.2.1 < 0)) = true then ((app r5 ([a1] : (List TOpt))).bind fun r47 => (some r47)) else ((idx r5 r25.2.1).bind fun x60 => (some (r5.set (r25.2.1).toNat a1)))))))
def rules_Turn_j2 (a0 : TRule) (a1 : (List TOpt)) (x100 : Bool) : Option ((List TOpt) × Bool) :=
  (if x100 = true then ((rules_number 5 4 a0.Other).bind fun r105 => ((opts_Put a1 r105).bind fun r114 => (some (r114, true)))) else (some (a1, true)))
def rules_Turn_j1 (a0 : TRule) (a1 : (List TOpt)) (a2 : Int) (a3 : (List TOpt)) (r34 : (TOpt × Bool)) (r49 : (TOpt × Bool)) (x65 : Bool) : Option ((List TOpt) × Bool) :=
  (if x65 = true then (some (a1, false)) else (if (a2 == 4) = true then ((slices_Clone_Opt a1).bind fun r71 => ((xV r71 a3).bind fun r82 => (some (r82.1, true)))) else (if (a2 != 3) = true then (some (a1, false)) else (if (!a0.Ip) = true then (if r34.2 = true then (rules_Turn_j2 a0 a1 r49.2) else (rules_Turn_j2 a0 a1 false)) else (rules_Turn_j2 a0 a1 false)))))
def rules_Turn (a0 : TRule) (a1 : (List TOpt)) (a2 : Int) (a3 : (List TOpt)) : Option ((List TOpt) × Bool) :=
  ((opts_Find a3 3).bind fun r14 => ((opts_Find a3 5).bind fun r34 => ((opts_Find a1 5).bind fun r49 => (if (!a0.Ip) = true then (rules_Turn_j1 a0 a1 a2 a3 r34 r49 r14.2) else (rules_Turn_j1 a0 a1 a2 a3 r34 r49 false)))))
def yc (r19 : ((List TOpt) × Int)) (x30 : Bool) (x31 : TNego) (x32 : (List TPkt)) (x37 : (List Int)) (x42 : TPkt) : Option (TNego × (List TPkt) × (List Int) × TPkt) :=
  (if x30 = true then (some (x31, x32, x37, x42)) else ((rules_Turn x31.R x31.Ours x42.Code r19.1).bind fun r73 => (if (!r73.2) = true then ((ze x31 x32 x37 x42 3 zj).bind fun r157 => (some (r157.2.1, r157.2.2.1, r157.2.2.2.1, r157.2.2.2.2))) else ((ze (TNego.mk x31.A x31.R r73.1 x31.Naks x31.Peer) x32 x37 x42 9 zj).bind fun r177 => (some (r177.2.1, r177.2.2.1, r177.2.2.2.1, r177.2.2.2.2))))))
def yj (x2 : TNego) (x3 : (List TPkt)) (x8 : (List Int)) (x13 : TPkt) : Option (TNego × (List TPkt) × (List Int) × TPkt) :=
  ((opts_Read x13.Data).bind fun r19 => (if (x13.Id != x2.A.Id) = true then (yc r19 true x2 x3 x8 x13) else (yc r19 (r19.2 != 0) x2 x3 x8 x13)))
def nego_work_term (x2 : TNego) (x3 : (List TPkt)) (x8 : (List Int)) (x13 : TPkt) : Option (TNego × (List TPkt) × (List Int) × TPkt) :=
  ((ze x2 x3 x8 x13 10 zj).bind fun r16 => (some (r16.2.1, r16.2.2.1, r16.2.2.2.1, r16.2.2.2.2)))
def nego_work_termed (x2 : TNego) (x3 : (List TPkt)) (x8 : (List Int)) (x13 : TPkt) : Option (TNego × (List TPkt) × (List Int) × TPkt) :=
  ((ze x2 x3 x8 x13 11 zj).bind fun r16 => (some (r16.2.1, r16.2.2.1, r16.2.2.2.1, r16.2.2.2.2)))
def jv (x2 : TNego) (x3 : (List TPkt)) (x8 : (List Int)) (x13 : TPkt) (a1 : Bool) : Option (TNego × (List TPkt) × (List Int) × TPkt) :=
  (if a1 = true then ((ze x2 x3 x8 x13 13 zj).bind fun r17 => (some (r17.2.1, r17.2.2.1, r17.2.2.2.1, r17.2.2.2.2))) else ((ze x2 x3 x8 x13 14 zj).bind fun r35 => (some (r35.2.1, r35.2.2.1, r35.2.2.2.1, r35.2.2.2.2))))
def nego_work_code (x2 : TNego) (x3 : (List TPkt)) (x8 : (List Int)) (x13 : TPkt) : Option (TNego × (List TPkt) × (List Int) × TPkt) :=
  (if ((x13.Data.length : Int) == 0) = true then ((jv x2 x3 x8 x13 true).bind fun r20 => (some (r20.1, r20.2.1, r20.2.2.1, r20.2.2.2))) else ((idx x13.Data 0).bind fun x33 => (if (decide (x33 < 1)) = true then ((jv x2 x3 x8 x13 true).bind fun r38 => (some (r38.1, r38.2.1, r38.2.2.1, r38.2.2.2))) else ((idx x13.Data 0).bind fun x51 => ((jv x2 x3 x8 x13 (decide (x51 > 7))).bind fun r55 => (some (r55.1, r55.2.1, r55.2.2.1, r55.2.2.2)))))))
def xU (a0 : (List Int)) (a1 : (List Int)) : Option Bool :=
  (if (decide ((a0.length : Int) ≥ (a1.length : Int))) = true then ((cut a0 none (some (a1.length : Int))).bind fun r2 => ((bytes_Equal r2 a1).bind fun r6 => (some r6))) else (some false))
def nego_work_proto (x2 : TNego) (x3 : (List TPkt)) (x8 : (List Int)) (x13 : TPkt) : Option (TNego × (List TPkt) × (List Int) × TPkt) :=
  ((xU x13.Data ([192, 33] : (List Int))).bind fun r27 => ((jv x2 x3 x8 x13 (!r27)).bind fun r34 => (some (r34.1, r34.2.1, r34.2.2.1, r34.2.2.2))))
def nego_Magic (a0 : TNego) : Option Int :=
  ((opts_Find a0.Ours 5).bind fun r10 => (if a0.R.Ip = true then (some 0) else ((opts_Number r10.1.Data).bind fun r31 => (some r31))))
def nego_work_echo (x2 : TNego) (x3 : (List TPkt)) (x8 : (List Int)) (x13 : TPkt) : Option (TNego × (List TPkt) × (List Int) × TPkt) :=
  (if (decide ((x13.Data.length : Int) ≥ 4)) = true then ((nego_Magic x2).bind fun r24 => ((opts_Four r24).bind fun r31 => ((cut x13.Data (some 4) none).bind fun r47 => ((app r31 r47).bind fun r51 => ((nego_work_reply x2 x3 x8 x13 10 r51).bind fun r62 => ((ze r62.2.1 r62.2.2.1 r62.2.2.2.1 r62.2.2.2.2 15 r62.1).bind fun r77 => (some (r77.2.1, r77.2.2.1, r77.2.2.2.1, r77.2.2.2.2)))))))) else (some (x2, x3, x8, x13)))
def nego_work_nothing (x2 : TNego) (x3 : (List TPkt)) (x8 : (List Int)) (x13 : TPkt) : Option (TNego × (List TPkt) × (List Int) × TPkt) :=
  (some (x2, x3, x8, x13))
def zr  (x239 : TNego) (x240 : (List TPkt)) (x245 : (List Int)) (x250 : TPkt) : Option (TNego × (List TPkt) × (List Int)) :=
  ((nego_work_told x239 x240 x245 x250).bind fun r254 => (some (r254.1, r254.2.1, r254.2.2)))
def nego_Take_j1 (a0 : TNego) (a1 : TPkt) (x24 : Int) (x25 : TNego) (x26 : (List TPkt)) (x31 : (List Int)) (x36 : TPkt) : Option (TNego × (List TPkt) × (List Int)) :=
  (if (decide (a0.A.State ≤ 1)) = true then (zr x25 x26 x31 x36) else ((pack_Known x24 a1.Code).bind fun r275 => (if (!r275) = true then ((pack_Reject a1 a0.A.Id).bind fun r285 => ((ze x25 x26 x31 x36 12 r285).bind fun r294 => (zr r294.2.1 r294.2.2.1 r294.2.2.2.1 r294.2.2.2.2))) else ((nego_codes).bind fun r312 => (if (a1.Code == 1) = true then ((xM x25 x26 x31 x36).bind fun r322 => (zr r322.1 r322.2.1 r322.2.2.1 r322.2.2.2)) else (if (a1.Code == 2) = true then ((nego_work_ack x25 x26 x31 x36).bind fun r384 => (zr r384.1 r384.2.1 r384.2.2.1 r384.2.2.2)) else (if (a1.Code == 3) = true then ((yj x25 x26 x31 x36).bind fun r446 => (zr r446.1 r446.2.1 r446.2.2.1 r446.2.2.2)) else (if (a1.Code == 4) = true then ((yj x25 x26 x31 x36).bind fun r508 => (zr r508.1 r508.2.1 r508.2.2.1 r508.2.2.2)) else (if (a1.Code == 5) = true then ((nego_work_term x25 x26 x31 x36).bind fun r570 => (zr r570.1 r570.2.1 r570.2.2.1 r570.2.2.2)) else (if (a1.Code == 6) = true then ((nego_work_termed x25 x26 x31 x36).bind fun r632 => (zr r632.1 r632.2.1 r632.2.2.1 r632.2.2.2)) else (if (a1.Code == 7) = true then ((nego_work_code x25 x26 x31 x36).bind fun r694 => (zr r694.1 r694.2.1 r694.2.2.1 r694.2.2.2)) else (if (a1.Code == 8) = true then ((nego_work_proto x25 x26 x31 x36).bind fun r756 => (zr r756.1 r756.2.1 r756.2.2.1 r756.2.2.2)) else (if (a1.Code == 9) = true then ((nego_work_echo x25 x26 x31 x36).bind fun r818 => (zr r818.1 r818.2.1 r818.2.2.1 r818.2.2.2)) else (if (a1.Code == 10) = true then ((nego_work_nothing x25 x26 x31 x36).bind fun r880 => (zr r880.1 r880.2.1 r880.2.2.1 r880.2.2.2)) else (if (a1.Code == 11) = true then ((nego_work_nothing x25 x26 x31 x36).bind fun r942 => (zr r942.1 r942.2.1 r942.2.2.1 r942.2.2.2)) else none)))))))))))))))
def nego_Take (a0 : TNego) (a1 : TPkt) : Option (TNego × (List TPkt) × (List Int)) :=
  (if a0.R.Ip = true then (nego_Take_j1 a0 a1 32801 a0 ([] : (List TPkt)) ([] : (List Int)) a1) else (nego_Take_j1 a0 a1 49185 a0 ([] : (List TPkt)) ([] : (List Int)) a1))
def auto_Tick_j1 (a0 : TAuto) (x28 : Int) : Option (TAuto × (List Int)) :=
  ((auto_Do (TAuto.mk a0.State a0.Count (IntKind.i64.wrap (a0.Left - 1)) a0.Id) x28).bind fun r34 => (some (r34.1, r34.2.1)))
def auto_Tick (a0 : TAuto) : Option (TAuto × (List Int)) :=
  (if (a0.Left == 0) = true then (some (a0, ([] : (List Int)))) else (if (decide ((IntKind.i64.wrap (a0.Left - 1)) > 0)) = true then (some ((TAuto.mk a0.State a0.Count (IntKind.i64.wrap (a0.Left - 1)) a0.Id), ([] : (List Int)))) else (if (decide (a0.Count > 0)) = true then (auto_Tick_j1 a0 4) else (auto_Tick_j1 a0 5))))
def nego_Tick (a0 : TNego) : Option (TNego × (List TPkt) × (List Int)) :=
  ((auto_Tick a0.A).bind fun r19 => ((xQ (TNego.mk r19.1 a0.R a0.Ours a0.Naks a0.Peer) ([] : (List TPkt)) ([] : (List Int)) zj a0.A.State r19.2 zj).bind fun r47 => ((nego_work_told r47.1 r47.2.1 r47.2.2.1 r47.2.2.2).bind fun r60 => (some (r60.1, r60.2.1, r60.2.2)))))
def auto_Right_j1 (a0 : TAuto) (x8 : Bool) : Option Bool :=
  (if x8 = true then (some false) else ((fsm_Timed a0.State).bind fun r13 => (if r13 = true then (if (decide (a0.Left ≥ 1)) = true then (some (decide (a0.Left ≤ 3))) else (some false)) else (some (a0.Left == 0)))))
def auto_Right (a0 : TAuto) : Option Bool :=
  (if (decide (a0.State < 0)) = true then (auto_Right_j1 a0 true) else (if (decide (a0.State ≥ 10)) = true then (auto_Right_j1 a0 true) else (if (decide (a0.Count < 0)) = true then (auto_Right_j1 a0 true) else (auto_Right_j1 a0 (decide (a0.Count > 5))))))
def nego_Right_1 (a0 : TOpt) : Option Bool :=
  (if (a0.Typ == 5) = true then (some ((a0.Data.length : Int) != 4)) else (some false))
def slices_IndexFunc_Opt_nego_Right_1_l1 (a0 : (List TOpt)) (x18 : Int) : Option (Int ⊕ Int) :=
  (if (decide (x18 < (a0.length : Int))) = true then ((idx a0 x18).bind fun x24 => ((nego_Right_1 x24).bind fun r30 => (if r30 = true then (Option.map Sum.inr (some x18)) else (some (.inl (IntKind.i64.wrap (x18 + 1))))))) else (Option.map Sum.inr (some (-1))))
def slices_IndexFunc_Opt_nego_Right_1 (a0 : (List TOpt)) : Option Int :=
  (xL (fun s => slices_IndexFunc_Opt_nego_Right_1_l1 a0 s) 0)
def slices_ContainsFunc_Opt_nego_Right_1 (a0 : (List TOpt)) : Option Bool :=
  ((slices_IndexFunc_Opt_nego_Right_1 a0).bind fun r1 => (some (decide (r1 ≥ 0))))
def nego_Right (a0 : TNego) : Option Bool :=
  ((opts_Bytes a0.Ours).bind fun r10 => ((auto_Right a0.A).bind fun r22 => (if r22 = true then (if (decide (a0.Naks ≥ 0)) = true then (if (decide (a0.Naks ≤ 3)) = true then (if (r10.2 == 0) = true then ((slices_ContainsFunc_Opt_nego_Right_1 a0.Ours).bind fun r38 => (some (!r38))) else (some false)) else (some false)) else (some false)) else (some false))))
def opts_Same_1 (a0 : TOpt) (a1 : TOpt) : Option Bool :=
  (if (a0.Typ == a1.Typ) = true then ((bytes_Equal a0.Data a1.Data).bind fun r20 => (some r20)) else (some false))
def slices_EqualFunc_Opt_opts_Same_1_l1 (a0 : (List TOpt)) (a1 : (List TOpt)) (x41 : Int) : Option (Int ⊕ Bool) :=
  (if (decide (x41 < (a0.length : Int))) = true then ((idx a0 x41).bind fun x47 => ((idx a1 x41).bind fun x59 => ((opts_Same_1 x47 x59).bind fun r75 => (if (!r75) = true then (Option.map Sum.inr (some false)) else (some (.inl (IntKind.i64.wrap (x41 + 1)))))))) else (Option.map Sum.inr (some true)))
def slices_EqualFunc_Opt_opts_Same_1 (a0 : (List TOpt)) (a1 : (List TOpt)) : Option Bool :=
  (if ((a0.length : Int) != (a1.length : Int)) = true then (some false) else (xL (fun s => slices_EqualFunc_Opt_opts_Same_1_l1 a0 a1 s) 0))
def opts_Same (a0 : (List TOpt)) (a1 : (List TOpt)) : Option Bool :=
  ((slices_EqualFunc_Opt_opts_Same_1 a0 a1).bind fun r1 => (some r1))
def nego_Same (a0 : TNego) (a1 : TNego) : Option Bool :=
  (if (eTAuto a0.A a1.A) = true then (if (eTRule a0.R a1.R) = true then (if (a0.Naks == a1.Naks) = true then ((opts_Same a0.Ours a1.Ours).bind fun r30 => (if r30 = true then ((opts_Same a0.Peer a1.Peer).bind fun r48 => (some r48)) else (some false))) else (some false)) else (some false)) else (some false))
def pl14_shown  : Option Bool :=
  ((nego_New (TRule.mk zTRule.Ip 7 zTRule.Other zTRule.Addr zTRule.Ours)).bind fun r3 => ((nego_Do r3 2).bind fun r12 => ((nego_Do r12.1 0).bind fun r35 => ((nego_Take r35.1 (TPkt.mk 1 9 zj.Data)).bind fun r60 => ((nego_Tick r60.1).bind fun r83 => (if ((r12.2.2.length : Int) == 1) = true then ((idx r12.2.2 0).bind fun x105 => (if (x105 == 3) = true then (if ((r35.2.1.length : Int) == 1) = true then ((idx r35.2.1 0).bind fun x111 => (if (x111.Code == 1) = true then ((idx r35.2.1 0).bind fun x116 => (if (x116.Id == 1) = true then (if ((r60.2.1.length : Int) == 1) = true then ((idx r60.2.1 0).bind fun x122 => (if (x122.Code == 2) = true then ((idx r60.2.1 0).bind fun x127 => (if (x127.Id == 9) = true then (if (r60.1.A.State == 8) = true then (if (r83.1.A.Left == 2) = true then ((nego_Magic r35.1).bind fun r136 => (if (r136 == 7) = true then ((nego_Right r35.1).bind fun r146 => (if r146 = true then ((nego_Same r12.1 r12.1).bind fun r158 => (some r158)) else (some false))) else (some false))) else (some false)) else (some false)) else (some false))) else (some false))) else (some false)) else (some false))) else (some false))) else (some false)) else (some false))) else (some false)))))))
def pr10_Few_j2 (x16 : Int) (x32 : Bool) : Option (Int ⊕ Bool) :=
  (if x32 = true then (Option.map Sum.inr (some false)) else (some (.inl (IntKind.i64.wrap (x16 + 1)))))
def pr10_Few_l1 (a0 : (List TOpt)) (x16 : Int) : Option (Int ⊕ Bool) :=
  (if (decide (x16 < (a0.length : Int))) = true then (if (decide (x16 ≥ 30)) = true then (pr10_Few_j2 x16 true) else ((idx a0 x16).bind fun x38 => (pr10_Few_j2 x16 (decide ((x38.Data.length : Int) > 253))))) else (Option.map Sum.inr (some true)))
def pr10_Few (a0 : (List TOpt)) : Option Bool :=
  (xL (fun s => pr10_Few_l1 a0 s) 0)
def pr14_Small (a0 : TNego) : Option Bool :=
  ((pr10_Few a0.Ours).bind fun r10 => ((pr10_Few a0.Peer).bind fun r22 => (if r10 = true then (some r22) else (some false))))
def xl (a0 : Int) : Option Bool :=
  (if (decide (a0 ≥ 4)) = true then (some (decide (a0 ≤ 8))) else (some false))
def xh (a0 : TAuto) (x8 : Bool) : Option Bool :=
  (if x8 = true then (some false) else ((xl a0.State).bind fun r13 => (if r13 = true then (if (decide (a0.Left ≥ 1)) = true then (if (decide (a0.Left ≤ 3)) = true then (some true) else (if (!r13) = true then (some (a0.Left == 0)) else (some false))) else (if (!r13) = true then (some (a0.Left == 0)) else (some false))) else (if (!r13) = true then (some (a0.Left == 0)) else (some false)))))
def pr12_Right (a0 : TAuto) : Option Bool :=
  (if (decide (a0.State < 0)) = true then (xh a0 true) else (if (decide (a0.State > 9)) = true then (xh a0 true) else (if (decide (a0.Count < 0)) = true then (xh a0 true) else (xh a0 (decide (a0.Count > 5))))))
def pr10_Bytes_l1 (a0 : (List TOpt)) (x88 : (List Int)) (x93 : Int) : Option (((List Int) × Int) ⊕ ((List Int) × Int)) :=
  (if (decide (x93 < (a0.length : Int))) = true then ((idx a0 x93).bind fun x99 => (if (decide ((x99.Data.length : Int) > 253)) = true then (Option.map Sum.inr (some (([] : (List Int)), 1))) else ((idx a0 x93).bind fun x135 => ((idx a0 x93).bind fun x139 => ((app x88 ([x135.Typ, (IntKind.u8.wrap ((IntKind.i64.wrap (2 + (x139.Data.length : Int)))))] : (List Int))).bind fun r152 => ((idx a0 x93).bind fun x195 => ((app r152 x195.Data).bind fun r204 => (some (.inl (r204, (IntKind.i64.wrap (x93 + 1)))))))))))) else (Option.map Sum.inr (if (decide ((x88.length : Int) > 1496)) = true then (some (([] : (List Int)), 1)) else (some (x88, 0)))))
def zL (a0 : (List TOpt)) : Option ((List Int) × Int) :=
  (xL (fun s => pr10_Bytes_l1 a0 s.1 s.2) (([] : (List Int)), 0))
def pr14_Right_j2 (x66 : Int) (x101 : Bool) : Option (Int ⊕ Bool) :=
  (if x101 = true then (Option.map Sum.inr (some false)) else (some (.inl (IntKind.i64.wrap (x66 + 1)))))
def pr14_Right_l1 (a0 : TNego) (r7 : Bool) (r19 : ((List Int) × Int)) (x66 : Int) : Option (Int ⊕ Bool) :=
  (if (decide (x66 < (a0.Ours.length : Int))) = true then ((idx a0.Ours x66).bind fun x111 => (if (x111.Typ == 5) = true then ((idx a0.Ours x66).bind fun x121 => (pr14_Right_j2 x66 ((x121.Data.length : Int) != 4))) else (pr14_Right_j2 x66 false))) else (Option.map Sum.inr (if r7 = true then (if (decide (a0.Naks ≥ 0)) = true then (if (decide (a0.Naks ≤ 3)) = true then (some (r19.2 == 0)) else (some false)) else (some false)) else (some false))))
def pr14_Right (a0 : TNego) : Option Bool :=
  ((pr12_Right a0.A).bind fun r7 => ((zL a0.Ours).bind fun r19 => (xL (fun s => pr14_Right_l1 a0 r7 r19 s) 0)))
def ya (a0 : Int) : Option ((List Int) × Int × Bool) :=
  (some (([] : (List Int)), a0, false))
def zo (a0 : Int) : Option ((List Int) × Int × Bool) :=
  (some (([] : (List Int)), a0, true))
def qO (a0 : Int) (a1 : (List Int)) : Option ((List Int) × Int × Bool) :=
  (some (a1, a0, true))
def pr11_up (a0 : Int) : Option ((List Int) × Int × Bool) :=
  (if (a0 == 0) = true then ((zo 2).bind fun r2 => (some (r2.1, r2.2.1, r2.2.2))) else (if (a0 == 1) = true then ((qO 6 ([5, 7] : (List Int))).bind fun r21 => (some (r21.1, r21.2.1, r21.2.2))) else ((ya a0).bind fun r31 => (some (r31.1, r31.2.1, r31.2.2)))))
def pr11_down_j2 (a0 : Int) (x18 : Bool) : Option ((List Int) × Int × Bool) :=
  (if x18 = true then ((zo 0).bind fun r23 => (some (r23.1, r23.2.1, r23.2.2))) else (if (a0 == 3) = true then ((qO 1 ([3] : (List Int))).bind fun r42 => (some (r42.1, r42.2.1, r42.2.2))) else (if (a0 == 9) = true then ((qO 1 ([2] : (List Int))).bind fun r61 => (some (r61.1, r61.2.1, r61.2.2))) else ((zo 1).bind fun r71 => (some (r71.1, r71.2.1, r71.2.2))))))
def pr11_down_j1 (a0 : Int) (x2 : Bool) : Option ((List Int) × Int × Bool) :=
  (if x2 = true then ((ya a0).bind fun r7 => (some (r7.1, r7.2.1, r7.2.2))) else (if (a0 == 2) = true then (pr11_down_j2 a0 (a0 == 2)) else (pr11_down_j2 a0 (a0 == 4))))
def pr11_down (a0 : Int) : Option ((List Int) × Int × Bool) :=
  (if (a0 == 0) = true then (pr11_down_j1 a0 (a0 == 0)) else (pr11_down_j1 a0 (a0 == 1)))
def pr11_opened (a0 : Int) : Option ((List Int) × Int × Bool) :=
  (if (a0 == 0) = true then ((qO 1 ([3] : (List Int))).bind fun r10 => (some (r10.1, r10.2.1, r10.2.2))) else (if (a0 == 2) = true then ((qO 6 ([5, 7] : (List Int))).bind fun r29 => (some (r29.1, r29.2.1, r29.2.2))) else (if (a0 == 4) = true then ((zo 5).bind fun r40 => (some (r40.1, r40.2.1, r40.2.2))) else ((zo a0).bind fun r50 => (some (r50.1, r50.2.1, r50.2.2))))))
def pr11_closed_j1 (a0 : Int) (x44 : Bool) : Option ((List Int) × Int × Bool) :=
  (if x44 = true then ((qO 4 ([5, 10] : (List Int))).bind fun r57 => (some (r57.1, r57.2.1, r57.2.2))) else (if (a0 == 9) = true then ((qO 4 ([2, 5, 10] : (List Int))).bind fun r76 => (some (r76.1, r76.2.1, r76.2.2))) else ((zo a0).bind fun r86 => (some (r86.1, r86.2.1, r86.2.2)))))
def pr11_closed (a0 : Int) : Option ((List Int) × Int × Bool) :=
  (if (a0 == 1) = true then ((qO 0 ([4] : (List Int))).bind fun r10 => (some (r10.1, r10.2.1, r10.2.2))) else (if (a0 == 3) = true then ((zo 2).bind fun r21 => (some (r21.1, r21.2.1, r21.2.2))) else (if (a0 == 5) = true then ((zo 4).bind fun r32 => (some (r32.1, r32.2.1, r32.2.2))) else (if (a0 == 6) = true then (pr11_closed_j1 a0 (a0 == 6)) else (if (a0 == 7) = true then (pr11_closed_j1 a0 (a0 == 7)) else (pr11_closed_j1 a0 (a0 == 8)))))))
def pr11_timeout_j3 (a0 : Int) (x61 : Bool) : Option ((List Int) × Int × Bool) :=
  (if x61 = true then ((qO a0 ([10] : (List Int))).bind fun r74 => (some (r74.1, r74.2.1, r74.2.2))) else (if (a0 == 7) = true then ((qO 6 ([7] : (List Int))).bind fun r93 => (some (r93.1, r93.2.1, r93.2.2))) else ((qO a0 ([7] : (List Int))).bind fun r111 => (some (r111.1, r111.2.1, r111.2.2)))))
def pr11_timeout_j2 (a0 : Int) (a1 : Bool) (x18 : Bool) : Option ((List Int) × Int × Bool) :=
  (if x18 = true then ((qO 2 ([4] : (List Int))).bind fun r31 => (some (r31.1, r31.2.1, r31.2.2))) else (if (!a1) = true then ((qO 3 ([4] : (List Int))).bind fun r50 => (some (r50.1, r50.2.1, r50.2.2))) else (if (a0 == 4) = true then (pr11_timeout_j3 a0 (a0 == 4)) else (pr11_timeout_j3 a0 (a0 == 5)))))
def pr11_timeout_j1 (a0 : Int) (a1 : Bool) (x2 : Bool) : Option ((List Int) × Int × Bool) :=
  (if x2 = true then ((ya a0).bind fun r7 => (some (r7.1, r7.2.1, r7.2.2))) else (if (!a1) = true then (pr11_timeout_j2 a0 a1 (a0 == 4)) else (pr11_timeout_j2 a0 a1 false)))
def pr11_timeout (a0 : Int) (a1 : Bool) : Option ((List Int) × Int × Bool) :=
  (if (decide (a0 < 4)) = true then (pr11_timeout_j1 a0 a1 true) else (pr11_timeout_j1 a0 a1 (decide (a0 > 8))))
def pr11_request_j2 (a0 : Int) (a1 : Bool) (a2 : Int) (x2 : Int) (x45 : Bool) : Option ((List Int) × Int × Bool) :=
  (if x45 = true then ((zo a0).bind fun r50 => (some (r50.1, r50.2.1, r50.2.2))) else (if (a0 == 7) = true then (if a1 = true then ((qO 9 ([a2, 1] : (List Int))).bind fun r70 => (some (r70.1, r70.2.1, r70.2.2))) else ((qO 7 ([a2] : (List Int))).bind fun r88 => (some (r88.1, r88.2.1, r88.2.2)))) else (if (a0 == 9) = true then ((qO x2 ([2, 7, a2] : (List Int))).bind fun r107 => (some (r107.1, r107.2.1, r107.2.2))) else ((qO x2 ([a2] : (List Int))).bind fun r125 => (some (r125.1, r125.2.1, r125.2.2))))))
def pr11_request_j1 (a0 : Int) (a1 : Bool) (a2 : Int) (x2 : Int) : Option ((List Int) × Int × Bool) :=
  (if (a0 == 2) = true then ((qO 2 ([11] : (List Int))).bind fun r15 => (some (r15.1, r15.2.1, r15.2.2))) else (if (a0 == 3) = true then ((qO x2 ([5, 7, a2] : (List Int))).bind fun r34 => (some (r34.1, r34.2.1, r34.2.2))) else (if (a0 == 4) = true then (pr11_request_j2 a0 a1 a2 x2 (a0 == 4)) else (pr11_request_j2 a0 a1 a2 x2 (a0 == 5)))))
def pr11_request (a0 : Int) (a1 : Bool) (a2 : Int) : Option ((List Int) × Int × Bool) :=
  (if a1 = true then (pr11_request_j1 a0 a1 a2 8) else (pr11_request_j1 a0 a1 a2 6))
def pr11_answer_j3 (a0 : Int) (a1 : Bool) (x80 : Bool) : Option ((List Int) × Int × Bool) :=
  (if x80 = true then ((qO 7 ([5] : (List Int))).bind fun r93 => (some (r93.1, r93.2.1, r93.2.2))) else (if a1 = true then ((qO 9 ([5, 1] : (List Int))).bind fun r112 => (some (r112.1, r112.2.1, r112.2.2))) else ((qO a0 ([5, 7] : (List Int))).bind fun r130 => (some (r130.1, r130.2.1, r130.2.2)))))
def pr11_answer_j2 (a0 : Int) (a1 : Bool) (x26 : Bool) : Option ((List Int) × Int × Bool) :=
  (if x26 = true then ((zo a0).bind fun r31 => (some (r31.1, r31.2.1, r31.2.2))) else (if (a0 == 7) = true then ((qO 6 ([7] : (List Int))).bind fun r50 => (some (r50.1, r50.2.1, r50.2.2))) else (if (a0 == 9) = true then ((qO 6 ([2, 7] : (List Int))).bind fun r69 => (some (r69.1, r69.2.1, r69.2.2))) else (if a1 = true then (pr11_answer_j3 a0 a1 (a0 == 6)) else (pr11_answer_j3 a0 a1 false)))))
def pr11_answer_j1 (a0 : Int) (a1 : Bool) (x2 : Bool) : Option ((List Int) × Int × Bool) :=
  (if x2 = true then ((qO a0 ([11] : (List Int))).bind fun r15 => (some (r15.1, r15.2.1, r15.2.2))) else (if (a0 == 4) = true then (pr11_answer_j2 a0 a1 (a0 == 4)) else (pr11_answer_j2 a0 a1 (a0 == 5))))
def pr11_answer (a0 : Int) (a1 : Bool) : Option ((List Int) × Int × Bool) :=
  (if (a0 == 2) = true then (pr11_answer_j1 a0 a1 (a0 == 2)) else (pr11_answer_j1 a0 a1 (a0 == 3)))
def pr11_end (a0 : Int) : Option ((List Int) × Int × Bool) :=
  (if (a0 == 9) = true then ((qO 5 ([2, 6, 11] : (List Int))).bind fun r10 => (some (r10.1, r10.2.1, r10.2.2))) else (if (decide (a0 ≥ 6)) = true then ((qO 6 ([11] : (List Int))).bind fun r29 => (some (r29.1, r29.2.1, r29.2.2))) else ((qO a0 ([11] : (List Int))).bind fun r47 => (some (r47.1, r47.2.1, r47.2.2)))))
def pr11_ended (a0 : Int) : Option ((List Int) × Int × Bool) :=
  (if (a0 == 4) = true then ((qO 2 ([4] : (List Int))).bind fun r10 => (some (r10.1, r10.2.1, r10.2.2))) else (if (a0 == 5) = true then ((qO 3 ([4] : (List Int))).bind fun r29 => (some (r29.1, r29.2.1, r29.2.2))) else (if (a0 == 7) = true then ((zo 6).bind fun r40 => (some (r40.1, r40.2.1, r40.2.2))) else (if (a0 == 9) = true then ((qO 6 ([2, 7] : (List Int))).bind fun r59 => (some (r59.1, r59.2.1, r59.2.2))) else ((zo a0).bind fun r69 => (some (r69.1, r69.2.1, r69.2.2)))))))
def pr11_reject_j2  (x48 : Bool) : Option ((List Int) × Int × Bool) :=
  (if x48 = true then ((qO 2 ([4] : (List Int))).bind fun r61 => (some (r61.1, r61.2.1, r61.2.2))) else ((qO 3 ([4] : (List Int))).bind fun r79 => (some (r79.1, r79.2.1, r79.2.2))))
def pr11_reject_j1 (a0 : Int) (a1 : Bool) (x2 : Bool) : Option ((List Int) × Int × Bool) :=
  (if x2 = true then ((zo 6).bind fun r7 => (some (r7.1, r7.2.1, r7.2.2))) else (if a1 = true then ((zo a0).bind fun r18 => (some (r18.1, r18.2.1, r18.2.2))) else (if (a0 == 9) = true then ((qO 5 ([2, 5, 10] : (List Int))).bind fun r37 => (some (r37.1, r37.2.1, r37.2.2))) else (if (a0 == 2) = true then (pr11_reject_j2 (a0 == 2)) else (pr11_reject_j2 (a0 == 4))))))
def pr11_reject (a0 : Int) (a1 : Bool) : Option ((List Int) × Int × Bool) :=
  (if a1 = true then (pr11_reject_j1 a0 a1 (a0 == 7)) else (pr11_reject_j1 a0 a1 false))
def jR (a0 : Int) (a1 : Int) (x6 : Bool) : Option ((List Int) × Int × Bool) :=
  (if x6 = true then ((ya a0).bind fun r11 => (some (r11.1, r11.2.1, r11.2.2))) else (if (a1 == 0) = true then ((pr11_up a0).bind fun r22 => (some (r22.1, r22.2.1, r22.2.2))) else (if (a1 == 1) = true then ((pr11_down a0).bind fun r33 => (some (r33.1, r33.2.1, r33.2.2))) else (if (a1 == 2) = true then ((pr11_opened a0).bind fun r44 => (some (r44.1, r44.2.1, r44.2.2))) else (if (a1 == 3) = true then ((pr11_closed a0).bind fun r55 => (some (r55.1, r55.2.1, r55.2.2))) else (if (a1 == 4) = true then ((pr11_timeout a0 true).bind fun r66 => (some (r66.1, r66.2.1, r66.2.2))) else (if (a1 == 5) = true then ((pr11_timeout a0 false).bind fun r77 => (some (r77.1, r77.2.1, r77.2.2))) else (if (a1 == 6) = true then ((pr11_request a0 true 8).bind fun r88 => (some (r88.1, r88.2.1, r88.2.2))) else (if (a1 == 7) = true then ((pr11_request a0 false 9).bind fun r99 => (some (r99.1, r99.2.1, r99.2.2))) else (if (a1 == 8) = true then ((pr11_answer a0 true).bind fun r110 => (some (r110.1, r110.2.1, r110.2.2))) else (if (a1 == 9) = true then ((pr11_answer a0 false).bind fun r121 => (some (r121.1, r121.2.1, r121.2.2))) else (if (a1 == 10) = true then ((pr11_end a0).bind fun r132 => (some (r132.1, r132.2.1, r132.2.2))) else (if (a1 == 11) = true then ((pr11_ended a0).bind fun r143 => (some (r143.1, r143.2.1, r143.2.2))) else (if (a1 == 12) = true then ((qO a0 ([12] : (List Int))).bind fun r162 => (some (r162.1, r162.2.1, r162.2.2))) else (if (a1 == 13) = true then ((pr11_reject a0 true).bind fun r173 => (some (r173.1, r173.2.1, r173.2.2))) else (if (a1 == 14) = true then ((pr11_reject a0 false).bind fun r184 => (some (r184.1, r184.2.1, r184.2.2))) else (if (a0 == 9) = true then ((qO 9 ([13] : (List Int))).bind fun r203 => (some (r203.1, r203.2.1, r203.2.2))) else ((zo a0).bind fun r213 => (some (r213.1, r213.2.1, r213.2.2))))))))))))))))))))
def zV (a0 : Int) (a1 : Int) : Option ((List Int) × Int × Bool) :=
  (if (decide (a0 < 0)) = true then (jR a0 a1 true) else (if (decide (a0 > 9)) = true then (jR a0 a1 true) else (if (decide (a1 < 0)) = true then (jR a0 a1 true) else (if (decide (a1 > 15)) = true then (jR a0 a1 true) else (if (decide (a1 > 5)) = true then (jR a0 a1 (decide (a0 < 2))) else (jR a0 a1 false))))))
def pr11_Has_l1 (a0 : (List Int)) (a1 : Int) (x9 : Int) : Option (Int ⊕ Bool) :=
  (if (decide (x9 < (a0.length : Int))) = true then ((idx a0 x9).bind fun x15 => (if (x15 == a1) = true then (Option.map Sum.inr (some true)) else (some (.inl (IntKind.i64.wrap (x9 + 1)))))) else (Option.map Sum.inr (some false)))
def jx (a0 : (List Int)) (a1 : Int) : Option Bool :=
  (xL (fun s => pr11_Has_l1 a0 a1 s) 0)
def jl (x143 : Int) (x174 : TAuto) : Option ((Int × TAuto) ⊕ (TAuto × (List Int) × Int)) :=
  (some (.inl ((IntKind.i64.wrap (x143 + 1)), x174)))
def xj (x143 : Int) (x144 : TAuto) (x194 : Bool) : Option ((Int × TAuto) ⊕ (TAuto × (List Int) × Int)) :=
  (if x194 = true then (jl x143 (TAuto.mk x144.State (if 0 < (IntKind.i64.wrap (x144.Count - 1)) then (IntKind.i64.wrap (x144.Count - 1)) else 0) 3 (IntKind.u8.wrap (x144.Id + 1)))) else (jl x143 x144))
def pr12_Do_l1 (r9 : ((List Int) × Int × Bool)) (r27 : Bool) (x143 : Int) (x144 : TAuto) : Option ((Int × TAuto) ⊕ (TAuto × (List Int) × Int)) :=
  (if (decide (x143 < (r9.1.length : Int))) = true then ((idx r9.1 x143).bind fun x178 => (if (x178 == 5) = true then (if r27 = true then (jl x143 (TAuto.mk x144.State 2 x144.Left x144.Id)) else (jl x143 (TAuto.mk x144.State 5 x144.Left x144.Id))) else (if (x178 == 6) = true then (jl x143 (TAuto.mk x144.State 0 3 x144.Id)) else (if (x178 == 7) = true then (xj x143 x144 (x178 == 7)) else (xj x143 x144 (x178 == 10)))))) else (Option.map Sum.inr ((xl r9.2.1).bind fun r208 => (if (!r208) = true then (some ((TAuto.mk r9.2.1 x144.Count 0 x144.Id), r9.1, 0)) else (some ((TAuto.mk r9.2.1 x144.Count x144.Left x144.Id), r9.1, 0))))))
def jI (a0 : TAuto) (a1 : Int) : Option (TAuto × (List Int) × Int) :=
  ((zV a0.State a1).bind fun r9 => (if (!r9.2.2) = true then (some (a0, ([] : (List Int)), 1)) else ((jx r9.1 10).bind fun r27 => (xL (fun s => pr12_Do_l1 r9 r27 s.1 s.2) (0, a0)))))
def zI (a0 : Int) : Option (List Int) :=
  (some ([(IntKind.u8.wrap ((IntKind.u32.wrap (Int.tdiv a0 16777216)))), (IntKind.u8.wrap ((Int.tmod (IntKind.u32.wrap (Int.tdiv a0 65536)) 256))), (IntKind.u8.wrap ((Int.tmod (IntKind.u32.wrap (Int.tdiv a0 256)) 256))), (IntKind.u8.wrap ((Int.tmod a0 256)))] : (List Int)))
def pr13_Ask (a0 : TRule) : Option (List TOpt) :=
  (if a0.Ip = true then ((zI a0.Ours).bind fun r6 => (some ([(TOpt.mk 3 r6)] : (List TOpt)))) else ((zI a0.Magic).bind fun r41 => (some ([(TOpt.mk 3 ([194, 35, 5] : (List Int))), (TOpt.mk 5 r41)] : (List TOpt)))))
def zR (x440 : Int) (x601 : TNego) (x602 : (List TPkt)) (x607 : (List Int)) (x612 : (List Int)) : Option ((Int × TNego × (List TPkt) × (List Int) × (List Int)) ⊕ Tref14_Out) :=
  (some (.inl ((IntKind.i64.wrap (x440 + 1)), x601, x602, x607, x612)))
def jh (a3 : TPkt) (x440 : Int) (x786 : Bool) (x787 : TNego) (x788 : (List TPkt)) (x793 : (List Int)) (x798 : (List Int)) : Option ((Int × TNego × (List TPkt) × (List Int) × (List Int)) ⊕ Tref14_Out) :=
  (if x786 = true then ((app x788 ([a3] : (List TPkt))).bind fun r811 => (zR x440 x787 r811 x793 x798)) else (zR x440 x787 x788 x793 x798))
def ji (a2 : (List Int)) (a3 : TPkt) (a4 : TPkt) (x54 : TNego) (x440 : Int) (x616 : Int) (x623 : Bool) (x624 : TNego) (x625 : (List TPkt)) (x630 : (List Int)) (x635 : (List Int)) : Option ((Int × TNego × (List TPkt) × (List Int) × (List Int)) ⊕ Tref14_Out) :=
  (if x623 = true then ((idx a2 x440).bind fun x644 => ((app x630 ([x644] : (List Int))).bind fun r652 => (zR x440 x624 x625 r652 x635))) else (if (x616 == 7) = true then ((zL x54.Ours).bind fun r720 => ((app x625 ([(TPkt.mk 1 x54.A.Id r720.1)] : (List TPkt))).bind fun r738 => (zR x440 x624 r738 x630 x635))) else (if (x616 == 10) = true then ((app x625 ([(TPkt.mk 5 x54.A.Id zj.Data)] : (List TPkt))).bind fun r756 => (zR x440 x624 r756 x630 x635)) else (if (x616 == 11) = true then ((app x625 ([a4] : (List TPkt))).bind fun r774 => (zR x440 x624 r774 x630 x635)) else (if (x616 == 8) = true then (jh a3 x440 (x616 == 8) x624 x625 x630 x635) else (if (x616 == 9) = true then (jh a3 x440 (x616 == 9) x624 x625 x630 x635) else (if (x616 == 12) = true then (jh a3 x440 (x616 == 12) x624 x625 x630 x635) else (jh a3 x440 (x616 == 13) x624 x625 x630 x635))))))))
def pr14_acted_l2 (a2 : (List Int)) (a3 : TPkt) (a4 : TPkt) (x54 : TNego) (x440 : Int) (x441 : TNego) (x442 : (List TPkt)) (x447 : (List Int)) (x452 : (List Int)) : Option ((Int × TNego × (List TPkt) × (List Int) × (List Int)) ⊕ Tref14_Out) :=
  (if (decide (x440 < (a2.length : Int))) = true then ((idx a2 x440).bind fun x616 => (if (x616 == 1) = true then (ji a2 a3 a4 x54 x440 x616 (x616 == 1) x441 x442 x447 x452) else (if (x616 == 2) = true then (ji a2 a3 a4 x54 x440 x616 (x616 == 2) x441 x442 x447 x452) else (if (x616 == 3) = true then (ji a2 a3 a4 x54 x440 x616 (x616 == 3) x441 x442 x447 x452) else (ji a2 a3 a4 x54 x440 x616 (x616 == 4) x441 x442 x447 x452))))) else (Option.map Sum.inr (some (Tref14_Out.mk x441 x442 x447 x452))))
def yd (a2 : (List Int)) (a3 : TPkt) (a4 : TPkt) (x54 : TNego) : Option Tref14_Out :=
  (xL (fun s => pr14_acted_l2 a2 a3 a4 x54 s.1 s.2.1 s.2.2.1 s.2.2.2.1 s.2.2.2.2) (0, x54, ([] : (List TPkt)), ([] : (List Int)), a2))
def zO (a0 : TNego) (a2 : (List Int)) (a3 : TPkt) (a4 : TPkt) (x849 : Bool) : Option Tref14_Out :=
  (if x849 = true then ((pr13_Ask a0.R).bind fun r856 => (yd a2 a3 a4 (TNego.mk a0.A a0.R r856 0 []))) else (yd a2 a3 a4 a0))
def jM (a0 : TNego) (a1 : Int) (a2 : (List Int)) (a3 : TPkt) (a4 : TPkt) : Option Tref14_Out :=
  ((jx a2 5).bind fun r17 => ((jx a2 7).bind fun r24 => (if r17 = true then (if r24 = true then (if (decide (a1 ≥ 1)) = true then (zO a0 a2 a3 a4 (decide (a1 ≤ 3))) else (zO a0 a2 a3 a4 false)) else (zO a0 a2 a3 a4 false)) else (zO a0 a2 a3 a4 false))))
def qV (a0 : TNego) (a1 : Int) (a2 : TPkt) (a3 : Int) : Option Tref14_Out :=
  ((jI a0.A a1).bind fun r15 => (if (r15.2.2 != 0) = true then (some (Tref14_Out.mk a0 qD.Sent qD.Told qD.L)) else ((jM (TNego.mk r15.1 a0.R a0.Ours a0.Naks a0.Peer) a0.A.State r15.2.1 a2 (TPkt.mk 6 a3 zj.Data)).bind fun r53 => (some r53))))
def pr14_Do_j1 (a0 : TNego) (a1 : Int) (x10 : Bool) : Option Tref14_Out :=
  (if x10 = true then (some (Tref14_Out.mk a0 qD.Sent qD.Told qD.L)) else ((qV a0 a1 zj 0).bind fun r28 => (some r28)))
def pr14_Do (a0 : TNego) (a1 : Int) : Option Tref14_Out :=
  (if (decide (a1 < 0)) = true then (pr14_Do_j1 a0 a1 true) else (pr14_Do_j1 a0 a1 (decide (a1 > 3))))
def pr01_Row_l1 (a0 : (List Int)) (a1 : (List Int)) (x22 : Int) : Option (Int ⊕ Bool) :=
  (if (decide (x22 < (a0.length : Int))) = true then ((idx a0 x22).bind fun x38 => ((idx a1 x22).bind fun x42 => (if (x38 != x42) = true then (Option.map Sum.inr (some false)) else (some (.inl (IntKind.i64.wrap (x22 + 1))))))) else (Option.map Sum.inr (some true)))
def jz (a0 : (List Int)) (a1 : (List Int)) : Option Bool :=
  (if ((a0.length : Int) != (a1.length : Int)) = true then (some false) else (xL (fun s => pr01_Row_l1 a0 a1 s) 0))
def pr10_One (a0 : TOpt) (a1 : TOpt) : Option Bool :=
  ((jz a0.Data a1.Data).bind fun r19 => (if r19 = true then (some (a0.Typ == a1.Typ)) else (some false)))
def pr10_Same_l1 (a0 : (List TOpt)) (a1 : (List TOpt)) (x44 : Int) : Option (Int ⊕ Bool) :=
  (if (decide (x44 < (a0.length : Int))) = true then ((idx a0 x44).bind fun x71 => ((idx a1 x44).bind fun x77 => ((pr10_One x71 x77).bind fun r83 => (if (!r83) = true then (Option.map Sum.inr (some false)) else (some (.inl (IntKind.i64.wrap (x44 + 1)))))))) else (Option.map Sum.inr (some true)))
def jY (a0 : (List TOpt)) (a1 : (List TOpt)) : Option Bool :=
  (if ((a0.length : Int) != (a1.length : Int)) = true then (some false) else (xL (fun s => pr10_Same_l1 a0 a1 s) 0))
def xF (a0 : TNego) (a1 : TNego) : Option Bool :=
  ((jY a0.Ours a1.Ours).bind fun r19 => ((jY a0.Peer a1.Peer).bind fun r36 => (if r19 = true then (if r36 = true then (if (eTAuto a0.A a1.A) = true then (if (eTRule a0.R a1.R) = true then (some (a0.Naks == a1.Naks)) else (some false)) else (some false)) else (some false)) else (some false))))
def pr09_Same (a0 : TPkt) (a1 : TPkt) : Option Bool :=
  ((jz a0.Data a1.Data).bind fun r19 => (if r19 = true then (if (a0.Code == a1.Code) = true then (some (a0.Id == a1.Id)) else (some false)) else (some false)))
def pr14_Pkts_l1 (a0 : (List TPkt)) (a1 : (List TPkt)) (x44 : Int) : Option (Int ⊕ Bool) :=
  (if (decide (x44 < (a0.length : Int))) = true then ((idx a0 x44).bind fun x71 => ((idx a1 x44).bind fun x77 => ((pr09_Same x71 x77).bind fun r83 => (if (!r83) = true then (Option.map Sum.inr (some false)) else (some (.inl (IntKind.i64.wrap (x44 + 1)))))))) else (Option.map Sum.inr (some true)))
def pr14_Pkts (a0 : (List TPkt)) (a1 : (List TPkt)) : Option Bool :=
  (if ((a0.length : Int) != (a1.length : Int)) = true then (some false) else (xL (fun s => pr14_Pkts_l1 a0 a1 s) 0))
def pr11_Ints_l1 (a0 : (List Int)) (a1 : (List Int)) (x22 : Int) : Option (Int ⊕ Bool) :=
  (if (decide (x22 < (a0.length : Int))) = true then ((idx a0 x22).bind fun x38 => ((idx a1 x22).bind fun x42 => (if (x38 != x42) = true then (Option.map Sum.inr (some false)) else (some (.inl (IntKind.i64.wrap (x22 + 1))))))) else (Option.map Sum.inr (some true)))
def pr11_Ints (a0 : (List Int)) (a1 : (List Int)) : Option Bool :=
  (if ((a0.length : Int) != (a1.length : Int)) = true then (some false) else (xL (fun s => pr11_Ints_l1 a0 a1 s) 0))
def yo (a0 : Tref14_Out) (a1 : TNego) (a2 : (List TPkt)) (a3 : (List Int)) : Option Bool :=
  ((xF a0.N a1).bind fun r13 => ((pr14_Pkts a0.Sent a2).bind fun r25 => ((pr11_Ints a0.Told a3).bind fun r37 => (if r13 = true then (if r25 = true then (some r37) else (some false)) else (some false)))))
def pr12_Tick (a0 : TAuto) : Option (TAuto × (List Int)) :=
  (if (a0.Left == 0) = true then (some (a0, ([] : (List Int)))) else (if (decide ((IntKind.i64.wrap (a0.Left - 1)) > 0)) = true then (some ((TAuto.mk a0.State a0.Count (IntKind.i64.wrap (a0.Left - 1)) a0.Id), ([] : (List Int)))) else (if (decide (a0.Count > 0)) = true then ((jI (TAuto.mk a0.State a0.Count (IntKind.i64.wrap (a0.Left - 1)) a0.Id) 4).bind fun r30 => (some (r30.1, r30.2.1))) else ((jI (TAuto.mk a0.State a0.Count (IntKind.i64.wrap (a0.Left - 1)) a0.Id) 5).bind fun r57 => (some (r57.1, r57.2.1))))))
def pr14_Tick (a0 : TNego) : Option Tref14_Out :=
  ((pr12_Tick a0.A).bind fun r11 => ((jM (TNego.mk r11.1 a0.R a0.Ours a0.Naks a0.Peer) a0.A.State r11.2 zj zj).bind fun r39 => (some r39)))
def yi (a0 : TPkt) : Option ((List Int) × Int) :=
  (if (decide ((IntKind.i64.wrap (4 + (a0.Data.length : Int))) > 1500)) = true then (some (([] : (List Int)), 1)) else ((app ([a0.Code, a0.Id, (IntKind.u8.wrap ((IntKind.i64.wrap (Int.tdiv (IntKind.i64.wrap (4 + (a0.Data.length : Int))) 256)))), (IntKind.u8.wrap ((Int.tmod (IntKind.i64.wrap (4 + (a0.Data.length : Int))) 256)))] : (List Int)) a0.Data).bind fun r20 => (some (r20, 0))))
def pr09_Reject (a0 : TPkt) (a1 : Int) : Option TPkt :=
  ((yi a0).bind fun r11 => ((cut r11.1 none (some (if 1496 < (r11.1.length : Int) then 1496 else (r11.1.length : Int)))).bind fun r21 => (some (TPkt.mk 7 a1 r21))))
def xt (a0 : (List Int)) (x73 : Int) (x80 : Int) (x85 : (List TOpt)) (x90 : Bool) : Option (((List TOpt) × Int) ⊕ ((List TOpt) × Int)) :=
  (if x90 = true then (Option.map Sum.inr (some (([] : (List TOpt)), 2))) else ((idx a0 x73).bind fun x118 => ((cut a0 (some (IntKind.i64.wrap (x73 + 2))) (some (IntKind.i64.wrap (x73 + (IntKind.i64.wrap (x80)))))).bind fun r122 => ((app x85 ([(TOpt.mk x118 r122)] : (List TOpt))).bind fun r132 => (some (.inl (r132, (IntKind.i64.wrap (x73 + (IntKind.i64.wrap (x80)))))))))))
def xu (a0 : (List Int)) (x68 : (List TOpt)) (x73 : Int) : Option (((List TOpt) × Int) ⊕ ((List TOpt) × Int)) :=
  (if (decide (x73 < (a0.length : Int))) = true then (if ((IntKind.i64.wrap (x73 + 1)) == (a0.length : Int)) = true then (Option.map Sum.inr (some (([] : (List TOpt)), 2))) else ((idx a0 (IntKind.i64.wrap (x73 + 1))).bind fun x80 => (if (decide ((IntKind.i64.wrap (x80)) < 2)) = true then (xt a0 x73 x80 x68 true) else (xt a0 x73 x80 x68 (decide ((IntKind.i64.wrap (x73 + (IntKind.i64.wrap (x80)))) > (a0.length : Int))))))) else (Option.map Sum.inr (some (x68, 0))))
def pr10_Read (a0 : (List Int)) : Option ((List TOpt) × Int) :=
  (xL (fun s => xu a0 s.1 s.2) (([] : (List TOpt)), 0))
def yh (a1 : TOpt) (x20 : Bool) : Option Bool :=
  (if x20 = true then (some ((a1.Data.length : Int) == 0)) else (some false))
def xg (a1 : TOpt) (x14 : Bool) : Option Bool :=
  (if x14 = true then (some ((a1.Data.length : Int) == 4)) else (if (a1.Typ == 7) = true then (yh a1 (a1.Typ == 7)) else (yh a1 (a1.Typ == 8))))
def pr13_Known (a0 : Bool) (a1 : TOpt) : Option Bool :=
  (if a0 = true then (if (a1.Typ == 3) = true then (some ((a1.Data.length : Int) == 4)) else (some false)) else (if (a1.Typ == 1) = true then (some ((a1.Data.length : Int) == 2)) else (if (a1.Typ == 2) = true then (xg a1 (a1.Typ == 2)) else (xg a1 (a1.Typ == 5)))))
def pr10_Number_l1 (a0 : (List Int)) (x9 : Int) (x10 : Int) : Option ((Int × Int) ⊕ Int) :=
  (if (decide (x10 < (a0.length : Int))) = true then ((idx a0 x10).bind fun x16 => (some (.inl ((IntKind.u32.wrap ((IntKind.u32.wrap (x9 * 256)) + (IntKind.u32.wrap (x16)))), (IntKind.i64.wrap (x10 + 1)))))) else (Option.map Sum.inr (some x9)))
def xb (a0 : (List Int)) : Option Int :=
  (xL (fun s => pr10_Number_l1 a0 s.1 s.2) (0, (if 0 < (IntKind.i64.wrap ((a0.length : Int) - 4)) then (IntKind.i64.wrap ((a0.length : Int) - 4)) else 0)))
def jV (a0 : TRule) (a1 : TOpt) (x149 : Bool) : Option (TOpt × Bool) :=
  (if x149 = true then ((zI a0.Other).bind fun r154 => (some ((TOpt.mk 5 r154), true))) else (some (a1, false)))
def ju (a0 : TRule) (a1 : TOpt) (r18 : Int) (x127 : Bool) : Option (TOpt × Bool) :=
  (if x127 = true then (some ((TOpt.mk 1 ([0, 64] : (List Int))), true)) else (if (a1.Typ == 5) = true then (if (r18 == 0) = true then (jV a0 a1 true) else (jV a0 a1 (r18 == a0.Magic))) else (jV a0 a1 false)))
def pr13_should (a0 : TRule) (a1 : TOpt) : Option (TOpt × Bool) :=
  ((xb a1.Data).bind fun r18 => (if a0.Ip = true then ((zI a0.Addr).bind fun r28 => (some ((TOpt.mk 3 r28), (r18 != a0.Addr)))) else (if (a1.Typ == 1) = true then (ju a0 a1 r18 (decide (r18 < 64))) else (ju a0 a1 r18 false))))
def jN (a0 : (List TOpt)) (x36 : Int) (x56 : Bool) : Option (Int ⊕ (Int × Bool)) :=
  (if x56 = true then ((idx a0 x36).bind fun x61 => ((xb x61.Data).bind fun r70 => (Option.map Sum.inr (some (r70, true))))) else (some (.inl (IntKind.i64.wrap (x36 + 1)))))
def pr13_Address_l1 (a0 : (List TOpt)) (x36 : Int) : Option (Int ⊕ (Int × Bool)) :=
  (if (decide (x36 < (a0.length : Int))) = true then ((idx a0 x36).bind fun x77 => (if (x77.Typ == 3) = true then ((idx a0 x36).bind fun x82 => (jN a0 x36 ((x82.Data.length : Int) == 4))) else (jN a0 x36 false))) else (Option.map Sum.inr (some (0, false))))
def xr (a0 : (List TOpt)) : Option (Int × Bool) :=
  (xL (fun s => pr13_Address_l1 a0 s) 0)
def jr (x241 : Int) (x368 : (List TOpt)) (x373 : (List TOpt)) (x378 : (List TOpt)) : Option (((List TOpt) × (List TOpt) × (List TOpt) × Int) ⊕ (Int × (List TOpt))) :=
  (some (.inl (x368, x373, x378, (IntKind.i64.wrap (x241 + 1)))))
def pr13_Answer_j5 (a1 : (List TOpt)) (x740 : (List TOpt)) (x748 : Bool) : Option (Int × (List TOpt)) :=
  (if x748 = true then (some (3, x740)) else (some (2, a1)))
def xR (a1 : (List TOpt)) (a2 : Int) (x740 : (List TOpt)) : Option (Int × (List TOpt)) :=
  (if (decide (a2 < 3)) = true then (pr13_Answer_j5 a1 x740 (decide ((x740.length : Int) > 0))) else (pr13_Answer_j5 a1 x740 false))
def pr13_Answer_j6 (a0 : TRule) (a1 : (List TOpt)) (a2 : Int) (x755 : (List TOpt)) (x760 : Bool) : Option (Int × (List TOpt)) :=
  (if x760 = true then ((zI a0.Addr).bind fun r765 => ((app x755 ([(TOpt.mk 3 r765)] : (List TOpt))).bind fun r786 => (xR a1 a2 r786))) else (xR a1 a2 x755))
def xP (a0 : TRule) (a1 : (List TOpt)) (a2 : Int) (x683 : (List TOpt)) (x687 : (List TOpt)) (x692 : Bool) : Option (Int × (List TOpt)) :=
  (if x692 = true then (some (4, x683)) else ((xr a1).bind fun r697 => (if a0.Ip = true then (pr13_Answer_j6 a0 a1 a2 x687 (!r697.2)) else (pr13_Answer_j6 a0 a1 a2 x687 false))))
def pr13_Answer_l1 (a0 : TRule) (a1 : (List TOpt)) (a2 : Int) (x226 : (List TOpt)) (x231 : (List TOpt)) (x236 : (List TOpt)) (x241 : Int) : Option (((List TOpt) × (List TOpt) × (List TOpt) × Int) ⊕ (Int × (List TOpt))) :=
  (if (decide (x241 < (a1.length : Int))) = true then ((idx a1 x241).bind fun x401 => ((pr13_Known a0.Ip x401).bind fun r407 => (if (!r407) = true then ((idx a1 x241).bind fun x437 => ((app x226 ([x437] : (List TOpt))).bind fun r447 => (jr x241 r447 x231 x236))) else ((idx a1 x241).bind fun x481 => ((pr13_should a0 x481).bind fun r487 => (if r487.2 = true then ((idx a1 x241).bind fun x589 => ((app x231 ([x589] : (List TOpt))).bind fun r599 => ((app x236 ([r487.1] : (List TOpt))).bind fun r612 => (jr x241 x226 r599 r612)))) else (jr x241 x226 x231 x236))))))) else (Option.map Sum.inr (if (decide ((x226.length : Int) > 0)) = true then (some (4, x226)) else (if (decide (a2 ≥ 3)) = true then (xP a0 a1 a2 x231 x236 (decide ((x231.length : Int) > 0))) else (xP a0 a1 a2 x231 x236 false)))))
def pr13_Answer (a0 : TRule) (a1 : (List TOpt)) (a2 : Int) : Option (Int × (List TOpt)) :=
  (xL (fun s => pr13_Answer_l1 a0 a1 a2 s.1 s.2.1 s.2.2.1 s.2.2.2) (([] : (List TOpt)), ([] : (List TOpt)), ([] : (List TOpt)), 0))
def xz (x120 : Tref14_Out) (x125 : Bool) : Option Tref14_Out :=
  (if x125 = true then (some (Tref14_Out.mk (TNego.mk x120.N.A x120.N.R x120.N.Ours (if (IntKind.i64.wrap (x120.N.Naks + 1)) < 3 then (IntKind.i64.wrap (x120.N.Naks + 1)) else 3) x120.N.Peer) x120.Sent x120.Told x120.L)) else (some x120))
def xw (r47 : (Int × (List TOpt))) (r108 : Bool) (x120 : Tref14_Out) : Option Tref14_Out :=
  (if r108 = true then (xz x120 (r47.1 == 3)) else (xz x120 false))
def xx (a1 : TPkt) (r18 : ((List TOpt) × Int)) (x41 : TNego) (r47 : (Int × (List TOpt))) (r57 : ((List Int) × Int)) (x68 : Int) : Option Tref14_Out :=
  ((qV x41 x68 (TPkt.mk r47.1 a1.Id r57.1) a1.Id).bind fun r76 => ((jx r76.L 8).bind fun r96 => ((jx r76.L 9).bind fun r108 => (if r96 = true then (xw r47 r108 (Tref14_Out.mk (TNego.mk r76.N.A r76.N.R r76.N.Ours 0 r18.1) r76.Sent r76.Told r76.L)) else (xw r47 r108 r76)))))
def xy (a1 : TPkt) (r18 : ((List TOpt) × Int)) (x41 : TNego) : Option Tref14_Out :=
  ((pr13_Answer x41.R r18.1 x41.Naks).bind fun r47 => ((zL r47.2).bind fun r57 => (if (r47.1 == 2) = true then (xx a1 r18 x41 r47 r57 6) else (xx a1 r18 x41 r47 r57 7))))
def yk (a0 : TNego) (a1 : TPkt) : Option Tref14_Out :=
  ((pr10_Read a1.Data).bind fun r18 => (if (r18.2 != 0) = true then (some (Tref14_Out.mk a0 qD.Sent qD.Told qD.L)) else (if (a0.A.State == 3) = true then (xy a1 r18 (TNego.mk a0.A a0.R a0.Ours 0 a0.Peer)) else (xy a1 r18 a0))))
def pr10_Find_l1 (a0 : (List TOpt)) (a1 : Int) (x31 : Int) : Option (Int ⊕ (TOpt × Bool)) :=
  (if (decide (x31 < (a0.length : Int))) = true then ((idx a0 x31).bind fun x37 => (if (x37.Typ == a1) = true then ((idx a0 x31).bind fun x42 => (Option.map Sum.inr (some (x42, true)))) else (some (.inl (IntKind.i64.wrap (x31 + 1)))))) else (Option.map Sum.inr (some (zTOpt, false))))
def jE (a0 : (List TOpt)) (a1 : Int) : Option (TOpt × Bool) :=
  (xL (fun s => pr10_Find_l1 a0 a1 s) 0)
def pr10_Drop_j2 (x45 : Int) (x73 : (List TOpt)) : Option (((List TOpt) × Int) ⊕ (List TOpt)) :=
  (some (.inl (x73, (IntKind.i64.wrap (x45 + 1)))))
def pr10_Drop_l1 (a0 : (List TOpt)) (a1 : Int) (x40 : (List TOpt)) (x45 : Int) : Option (((List TOpt) × Int) ⊕ (List TOpt)) :=
  (if (decide (x45 < (a0.length : Int))) = true then ((idx a0 x45).bind fun x81 => (if (x81.Typ != a1) = true then ((idx a0 x45).bind fun x86 => ((app x40 ([x86] : (List TOpt))).bind fun r96 => (pr10_Drop_j2 x45 r96))) else (pr10_Drop_j2 x45 x40))) else (Option.map Sum.inr (some x40)))
def pr10_Drop (a0 : (List TOpt)) (a1 : Int) : Option (List TOpt) :=
  (xL (fun s => pr10_Drop_l1 a0 a1 s.1 s.2) (([] : (List TOpt)), 0))
def pr10_Put_j2 (x90 : Int) (x138 : (List TOpt)) (x143 : Bool) : Option (((List TOpt) × Bool × Int) ⊕ (List TOpt)) :=
  (some (.inl (x138, x143, (IntKind.i64.wrap (x90 + 1)))))
def xa (a0 : (List TOpt)) (a1 : TOpt) (x89 : Bool) (x90 : Int) (x152 : (List TOpt)) (x157 : Bool) : Option (((List TOpt) × Bool × Int) ⊕ (List TOpt)) :=
  (if x157 = true then ((app x152 ([a1] : (List TOpt))).bind fun r168 => (pr10_Put_j2 x90 r168 true)) else ((idx a0 x90).bind fun x175 => ((app x152 ([x175] : (List TOpt))).bind fun r185 => (pr10_Put_j2 x90 r185 x89))))
def pr10_Put_l1 (a0 : (List TOpt)) (a1 : TOpt) (x84 : (List TOpt)) (x89 : Bool) (x90 : Int) : Option (((List TOpt) × Bool × Int) ⊕ (List TOpt)) :=
  (if (decide (x90 < (a0.length : Int))) = true then (if (!x89) = true then ((idx a0 x90).bind fun x195 => (xa a0 a1 x89 x90 x84 (x195.Typ == a1.Typ))) else (xa a0 a1 x89 x90 x84 false)) else (Option.map Sum.inr (if (!x89) = true then ((app x84 ([a1] : (List TOpt))).bind fun r214 => (some r214)) else (some x84))))
def pr10_Put (a0 : (List TOpt)) (a1 : TOpt) : Option (List TOpt) :=
  (xL (fun s => pr10_Put_l1 a0 a1 s.1 s.2.1 s.2.2) (([] : (List TOpt)), false, 0))
def pr13_Turn_l2 (a3 : (List TOpt)) (x51 : (List TOpt)) (x55 : Int) : Option (((List TOpt) × Int) ⊕ ((List TOpt) × Bool)) :=
  (if (decide (x55 < (a3.length : Int))) = true then ((idx a3 x55).bind fun x61 => ((pr10_Drop x51 x61.Typ).bind fun r65 => (some (.inl (r65, (IntKind.i64.wrap (x55 + 1))))))) else (Option.map Sum.inr (some (x51, true))))
def jQ (a0 : TRule) (a1 : (List TOpt)) (x107 : Bool) : Option ((List TOpt) × Bool) :=
  (if x107 = true then (some (a1, true)) else ((zI a0.Other).bind fun r112 => ((pr10_Put a1 (TOpt.mk 5 r112)).bind fun r129 => (some (r129, true)))))
def zF (a0 : TRule) (a1 : (List TOpt)) (a2 : Int) (a3 : (List TOpt)) (x24 : Bool) : Option ((List TOpt) × Bool) :=
  (if x24 = true then (some (a1, false)) else (if (a2 == 4) = true then (xL (fun s => pr13_Turn_l2 a3 s.1 s.2) (a1, 0)) else ((jE a3 5).bind fun r75 => ((jE a1 5).bind fun r90 => (if a0.Ip = true then (jQ a0 a1 true) else (if (!r75.2) = true then (jQ a0 a1 true) else (jQ a0 a1 (!r90.2))))))))
def pr13_Turn (a0 : TRule) (a1 : (List TOpt)) (a2 : Int) (a3 : (List TOpt)) : Option ((List TOpt) × Bool) :=
  ((jE a3 3).bind fun r5 => (if r5.2 = true then (if (!a0.Ip) = true then (zF a0 a1 a2 a3 true) else (if (a2 != 3) = true then (zF a0 a1 a2 a3 (a2 != 4)) else (zF a0 a1 a2 a3 false))) else (if (a2 != 3) = true then (zF a0 a1 a2 a3 (a2 != 4)) else (zF a0 a1 a2 a3 false))))
def xn (a0 : TNego) (a1 : TPkt) (r18 : ((List TOpt) × Int)) (x29 : Bool) : Option Tref14_Out :=
  (if x29 = true then (some (Tref14_Out.mk a0 qD.Sent qD.Told qD.L)) else ((pr13_Turn a0.R a0.Ours a1.Code r18.1).bind fun r50 => (if (!r50.2) = true then ((qV a0 3 zj a1.Id).bind fun r65 => (some r65)) else ((qV (TNego.mk a0.A a0.R r50.1 a0.Naks a0.Peer) 9 zj a1.Id).bind fun r85 => (some r85)))))
def yb (a0 : TNego) (a1 : TPkt) : Option Tref14_Out :=
  ((pr10_Read a1.Data).bind fun r18 => (if (r18.2 != 0) = true then (xn a0 a1 r18 true) else (xn a0 a1 r18 (a1.Id != a0.A.Id))))
def pr14_Magic_j1 (r10 : (TOpt × Bool)) (x26 : Bool) : Option Int :=
  (if x26 = true then (some 0) else ((xb r10.1.Data).bind fun r36 => (some r36)))
def xZ (a0 : TNego) : Option Int :=
  ((jE a0.Ours 5).bind fun r10 => (if a0.R.Ip = true then (pr14_Magic_j1 r10 true) else (pr14_Magic_j1 r10 (!r10.2))))
def jo (a0 : TNego) (a1 : TPkt) (x304 : Bool) : Option Tref14_Out :=
  (if x304 = true then ((qV a0 8 zj a1.Id).bind fun r313 => (some r313)) else (some (Tref14_Out.mk a0 qD.Sent qD.Told qD.L)))
def zX (a0 : TNego) (a1 : TPkt) (x425 : Bool) : Option Tref14_Out :=
  (if x425 = true then ((qV a0 14 zj a1.Id).bind fun r434 => (some r434)) else ((qV a0 13 zj a1.Id).bind fun r452 => (some r452)))
def zv (a0 : TNego) (a1 : TPkt) (x517 : Bool) : Option Tref14_Out :=
  (if x517 = true then ((qV a0 14 zj a1.Id).bind fun r526 => (some r526)) else ((qV a0 13 zj a1.Id).bind fun r544 => (some r544)))
def xq (a0 : TNego) (a1 : TPkt) (x338 : Bool) : Option Tref14_Out :=
  (if x338 = true then ((yb a0 a1).bind fun r347 => (some r347)) else (if (a1.Code == 5) = true then ((qV a0 10 zj a1.Id).bind fun r366 => (some r366)) else (if (a1.Code == 6) = true then ((qV a0 11 zj a1.Id).bind fun r385 => (some r385)) else (if (a1.Code == 7) = true then (if (decide ((a1.Data.length : Int) > 0)) = true then ((idx a1.Data 0).bind fun x477 => (if (decide (x477 ≥ 1)) = true then ((idx a1.Data 0).bind fun x487 => (zX a0 a1 (decide (x487 ≤ 7)))) else (zX a0 a1 false))) else (zX a0 a1 false)) else (if (a1.Code == 8) = true then (if (decide ((a1.Data.length : Int) ≥ 2)) = true then ((idx a1.Data 0).bind fun x569 => (if (x569 == 192) = true then ((idx a1.Data 1).bind fun x579 => (zv a0 a1 (x579 == 33))) else (zv a0 a1 false))) else (zv a0 a1 false)) else (if (a1.Code == 9) = true then (if (decide ((a1.Data.length : Int) ≥ 4)) = true then ((xZ a0).bind fun r630 => ((zI r630).bind fun r637 => ((cut a1.Data (some 4) none).bind fun r653 => ((app r637 r653).bind fun r657 => ((qV a0 15 (TPkt.mk 10 a1.Id r657) a1.Id).bind fun r752 => (some r752)))))) else (some (Tref14_Out.mk a0 qD.Sent qD.Told qD.L))) else (some (Tref14_Out.mk a0 qD.Sent qD.Told qD.L))))))))
def zK (a0 : TNego) (a1 : TPkt) (x26 : Bool) : Option Tref14_Out :=
  (if x26 = true then ((pr09_Reject a1 a0.A.Id).bind fun r37 => ((qV a0 12 r37 a1.Id).bind fun r46 => (some r46))) else (if (a1.Code == 1) = true then ((yk a0 a1).bind fun r261 => (some r261)) else (if (a1.Code == 2) = true then ((zL a0.Ours).bind fun r281 => ((jz r281.1 a1.Data).bind fun r296 => (if r296 = true then (jo a0 a1 (a1.Id == a0.A.Id)) else (jo a0 a1 false)))) else (if (a1.Code == 3) = true then (xq a0 a1 (a1.Code == 3)) else (xq a0 a1 (a1.Code == 4))))))
def pr14_Take (a0 : TNego) (a1 : TPkt) : Option Tref14_Out :=
  (if (decide (a0.A.State < 2)) = true then (some (Tref14_Out.mk a0 qD.Sent qD.Told qD.L)) else (if (decide (a1.Code < 1)) = true then (zK a0 a1 true) else (if (decide (a1.Code > 11)) = true then (zK a0 a1 true) else (if a0.R.Ip = true then (zK a0 a1 (decide (a1.Code > 7))) else (zK a0 a1 false)))))
def je (a0 : TNego) (a1 : Int) (a2 : TPkt) (r9 : Bool) (x41 : Bool) : Option Bool :=
  (if x41 = true then (some r9) else ((nego_Do a0 a1).bind fun r48 => ((nego_Tick a0).bind fun r71 => ((nego_Take a0 a2).bind fun r96 => (if r9 = true then ((pr14_Do a0 a1).bind fun r122 => ((yo r122 r48.1 r48.2.1 r48.2.2).bind fun r133 => (if r133 = true then ((pr14_Tick a0).bind fun r143 => ((yo r143 r71.1 r71.2.1 r71.2.2).bind fun r154 => (if r154 = true then ((pr14_Take a0 a2).bind fun r166 => ((yo r166 r96.1 r96.2.1 r96.2.2).bind fun r177 => (some r177))) else (some false)))) else (some false)))) else (some false))))))
def pl14_NegoDoes (a0 : TNego) (a1 : Int) (a2 : TPkt) : Option Bool :=
  ((pl14_shown).bind fun r9 => ((pr14_Small a0).bind fun r716 => (if (!r716) = true then (je a0 a1 a2 r9 true) else ((pr14_Right a0).bind fun r726 => (if (!r726) = true then (je a0 a1 a2 r9 true) else (je a0 a1 a2 r9 (decide ((a2.Data.length : Int) > 1496))))))))
end Go.Proofs.YtadlndnagfnlgaaGreatDoor.W
