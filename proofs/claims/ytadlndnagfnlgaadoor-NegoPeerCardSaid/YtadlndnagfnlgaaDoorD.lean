/- Kinds of plain data, and closed facts of the program's types: written by a program (gen.py). -/
import Derived.Test.YtadlndnagfnlgaaDoorProg
import Derived.Test.YtadlndnagfnlgaaDoorW11
import Derived.Test.YtadlndnagfnlgaaDoorW13
set_option linter.unusedVariables false
set_option maxRecDepth 20000
namespace Go.Proofs.YtadlndnagfnlgaaDoor.W
open Go
structure TAuto where
  State : Int
  Count : Int
  Left : Int
  Id : Int
def zTAuto : TAuto := ⟨0, 0, 0, 0⟩
def kTAuto : Kd TAuto := Kd.iso (Kd.pair (Kd.int .i64) (Kd.pair (Kd.int .i64) (Kd.pair (Kd.int .i64) (Kd.last (Kd.int .u8))))) (fun x => (x.State, x.Count, x.Left, x.Id))
theorem zcTAuto (G : Ghost) : kTAuto.rd G [(.int .i64 0), (.int .i64 0), (.int .i64 0), (.int .u8 0)] zTAuto := ⟨[(.int .i64 0)], _, rfl, rfl, ⟨[(.int .i64 0)], _, rfl, rfl, ⟨[(.int .i64 0)], _, rfl, rfl, rfl⟩⟩⟩
theorem lTAuto_State : Lens kTAuto 0 (Kd.int .i64) (fun x => x.State) (fun x y => { x with State := y }) := Lens.iso (Lens.fst _ (Lens.id (Kd.int .i64))) (fun _ => rfl) (fun _ _ => rfl)
theorem lTAuto_Count : Lens kTAuto 1 (Kd.int .i64) (fun x => x.Count) (fun x y => { x with Count := y }) := Lens.iso (Lens.snd (Kd.int .i64) (Lens.fst _ (Lens.id (Kd.int .i64)))) (fun _ => rfl) (fun _ _ => rfl)
theorem lTAuto_Left : Lens kTAuto 2 (Kd.int .i64) (fun x => x.Left) (fun x y => { x with Left := y }) := Lens.iso (Lens.snd (Kd.int .i64) (Lens.snd (Kd.int .i64) (Lens.fst _ (Lens.id (Kd.int .i64))))) (fun _ => rfl) (fun _ _ => rfl)
theorem lTAuto_Id : Lens kTAuto 3 (Kd.int .u8) (fun x => x.Id) (fun x y => { x with Id := y }) := Lens.iso (Lens.snd (Kd.int .i64) (Lens.snd (Kd.int .i64) (Lens.snd (Kd.int .i64) (Lens.last (Lens.id (Kd.int .u8)))))) (fun _ => rfl) (fun _ _ => rfl)
structure TRule where
  Ip : Bool
  Magic : Int
  Other : Int
  Addr : Int
  Ours : Int
def zTRule : TRule := ⟨false, 0, 0, 0, 0⟩
def kTRule : Kd TRule := Kd.iso (Kd.pair Kd.bool (Kd.pair (Kd.int .u32) (Kd.pair (Kd.int .u32) (Kd.pair (Kd.int .u32) (Kd.last (Kd.int .u32)))))) (fun x => (x.Ip, x.Magic, x.Other, x.Addr, x.Ours))
theorem zcTRule (G : Ghost) : kTRule.rd G [(.bool false), (.int .u32 0), (.int .u32 0), (.int .u32 0), (.int .u32 0)] zTRule := ⟨[(.bool false)], _, rfl, rfl, ⟨[(.int .u32 0)], _, rfl, rfl, ⟨[(.int .u32 0)], _, rfl, rfl, ⟨[(.int .u32 0)], _, rfl, rfl, rfl⟩⟩⟩⟩
theorem lTRule_Ip : Lens kTRule 0 Kd.bool (fun x => x.Ip) (fun x y => { x with Ip := y }) := Lens.iso (Lens.fst _ (Lens.id Kd.bool)) (fun _ => rfl) (fun _ _ => rfl)
theorem lTRule_Magic : Lens kTRule 1 (Kd.int .u32) (fun x => x.Magic) (fun x y => { x with Magic := y }) := Lens.iso (Lens.snd Kd.bool (Lens.fst _ (Lens.id (Kd.int .u32)))) (fun _ => rfl) (fun _ _ => rfl)
theorem lTRule_Other : Lens kTRule 2 (Kd.int .u32) (fun x => x.Other) (fun x y => { x with Other := y }) := Lens.iso (Lens.snd Kd.bool (Lens.snd (Kd.int .u32) (Lens.fst _ (Lens.id (Kd.int .u32))))) (fun _ => rfl) (fun _ _ => rfl)
theorem lTRule_Addr : Lens kTRule 3 (Kd.int .u32) (fun x => x.Addr) (fun x y => { x with Addr := y }) := Lens.iso (Lens.snd Kd.bool (Lens.snd (Kd.int .u32) (Lens.snd (Kd.int .u32) (Lens.fst _ (Lens.id (Kd.int .u32)))))) (fun _ => rfl) (fun _ _ => rfl)
theorem lTRule_Ours : Lens kTRule 4 (Kd.int .u32) (fun x => x.Ours) (fun x y => { x with Ours := y }) := Lens.iso (Lens.snd Kd.bool (Lens.snd (Kd.int .u32) (Lens.snd (Kd.int .u32) (Lens.snd (Kd.int .u32) (Lens.last (Lens.id (Kd.int .u32))))))) (fun _ => rfl) (fun _ _ => rfl)
structure TOpt where
  Typ : Int
  Data : (List Int)
def zTOpt : TOpt := ⟨0, []⟩
def kTOpt : Kd TOpt := Kd.iso (Kd.pair (Kd.int .u8) (Kd.last (Kd.slice (Kd.int .u8)))) (fun x => (x.Typ, x.Data))
theorem zcTOpt (G : Ghost) : kTOpt.rd G [(.int .u8 0), (.slice none 0 0)] zTOpt := ⟨[(.int .u8 0)], _, rfl, rfl, ⟨none, 0, rfl, SlR.nil _ _⟩⟩
theorem lTOpt_Typ : Lens kTOpt 0 (Kd.int .u8) (fun x => x.Typ) (fun x y => { x with Typ := y }) := Lens.iso (Lens.fst _ (Lens.id (Kd.int .u8))) (fun _ => rfl) (fun _ _ => rfl)
theorem lTOpt_Data : Lens kTOpt 1 (Kd.slice (Kd.int .u8)) (fun x => x.Data) (fun x y => { x with Data := y }) := Lens.iso (Lens.snd (Kd.int .u8) (Lens.last (Lens.id (Kd.slice (Kd.int .u8))))) (fun _ => rfl) (fun _ _ => rfl)
structure TNego where
  A : TAuto
  R : TRule
  Ours : (List TOpt)
  Naks : Int
  Peer : (List TOpt)
def zTNego : TNego := ⟨zTAuto, zTRule, [], 0, []⟩
def kTNego : Kd TNego := Kd.iso (Kd.pair kTAuto (Kd.pair kTRule (Kd.pair (Kd.slice kTOpt) (Kd.pair (Kd.int .i64) (Kd.last (Kd.slice kTOpt)))))) (fun x => (x.A, x.R, x.Ours, x.Naks, x.Peer))
theorem zcTNego (G : Ghost) : kTNego.rd G [(.int .i64 0), (.int .i64 0), (.int .i64 0), (.int .u8 0), (.bool false), (.int .u32 0), (.int .u32 0), (.int .u32 0), (.int .u32 0), (.slice none 0 0), (.int .i64 0), (.slice none 0 0)] zTNego := ⟨[(.int .i64 0), (.int .i64 0), (.int .i64 0), (.int .u8 0)], _, rfl, (zcTAuto _), ⟨[(.bool false), (.int .u32 0), (.int .u32 0), (.int .u32 0), (.int .u32 0)], _, rfl, (zcTRule _), ⟨[(.slice none 0 0)], _, rfl, ⟨none, 0, rfl, SlR.nil _ _⟩, ⟨[(.int .i64 0)], _, rfl, rfl, ⟨none, 0, rfl, SlR.nil _ _⟩⟩⟩⟩⟩
theorem lTNego_A : Lens kTNego 0 kTAuto (fun x => x.A) (fun x y => { x with A := y }) := Lens.iso (Lens.fst _ (Lens.id kTAuto)) (fun _ => rfl) (fun _ _ => rfl)
theorem lTNego_R : Lens kTNego 4 kTRule (fun x => x.R) (fun x y => { x with R := y }) := Lens.iso (Lens.snd kTAuto (Lens.fst _ (Lens.id kTRule))) (fun _ => rfl) (fun _ _ => rfl)
theorem lTNego_Ours : Lens kTNego 9 (Kd.slice kTOpt) (fun x => x.Ours) (fun x y => { x with Ours := y }) := Lens.iso (Lens.snd kTAuto (Lens.snd kTRule (Lens.fst _ (Lens.id (Kd.slice kTOpt))))) (fun _ => rfl) (fun _ _ => rfl)
theorem lTNego_Naks : Lens kTNego 10 (Kd.int .i64) (fun x => x.Naks) (fun x y => { x with Naks := y }) := Lens.iso (Lens.snd kTAuto (Lens.snd kTRule (Lens.snd (Kd.slice kTOpt) (Lens.fst _ (Lens.id (Kd.int .i64)))))) (fun _ => rfl) (fun _ _ => rfl)
theorem lTNego_Peer : Lens kTNego 11 (Kd.slice kTOpt) (fun x => x.Peer) (fun x y => { x with Peer := y }) := Lens.iso (Lens.snd kTAuto (Lens.snd kTRule (Lens.snd (Kd.slice kTOpt) (Lens.snd (Kd.int .i64) (Lens.last (Lens.id (Kd.slice kTOpt))))))) (fun _ => rfl) (fun _ _ => rfl)
structure TPkt where
  Code : Int
  Id : Int
  Data : (List Int)
def zTPkt : TPkt := ⟨0, 0, []⟩
def kTPkt : Kd TPkt := Kd.iso (Kd.pair (Kd.int .u8) (Kd.pair (Kd.int .u8) (Kd.last (Kd.slice (Kd.int .u8))))) (fun x => (x.Code, x.Id, x.Data))
theorem zcTPkt (G : Ghost) : kTPkt.rd G [(.int .u8 0), (.int .u8 0), (.slice none 0 0)] zTPkt := ⟨[(.int .u8 0)], _, rfl, rfl, ⟨[(.int .u8 0)], _, rfl, rfl, ⟨none, 0, rfl, SlR.nil _ _⟩⟩⟩
theorem lTPkt_Code : Lens kTPkt 0 (Kd.int .u8) (fun x => x.Code) (fun x y => { x with Code := y }) := Lens.iso (Lens.fst _ (Lens.id (Kd.int .u8))) (fun _ => rfl) (fun _ _ => rfl)
theorem lTPkt_Id : Lens kTPkt 1 (Kd.int .u8) (fun x => x.Id) (fun x y => { x with Id := y }) := Lens.iso (Lens.snd (Kd.int .u8) (Lens.fst _ (Lens.id (Kd.int .u8)))) (fun _ => rfl) (fun _ _ => rfl)
theorem lTPkt_Data : Lens kTPkt 2 (Kd.slice (Kd.int .u8)) (fun x => x.Data) (fun x y => { x with Data := y }) := Lens.iso (Lens.snd (Kd.int .u8) (Lens.snd (Kd.int .u8) (Lens.last (Lens.id (Kd.slice (Kd.int .u8)))))) (fun _ => rfl) (fun _ _ => rfl)
structure Tnego_workV where
  Nego : TNego
  Out : Value
  Tell : Value
  P : TPkt
def zTnego_workV : Tnego_workV := ⟨zTNego, (.slice none 0 0 : Value), (.slice none 0 0 : Value), zTPkt⟩
def kTnego_workV : Kd Tnego_workV := Kd.iso (Kd.pair kTNego (Kd.pair Kd.val (Kd.pair Kd.val (Kd.last kTPkt)))) (fun x => (x.Nego, x.Out, x.Tell, x.P))
theorem zcTnego_workV (G : Ghost) : kTnego_workV.rd G [(.int .i64 0), (.int .i64 0), (.int .i64 0), (.int .u8 0), (.bool false), (.int .u32 0), (.int .u32 0), (.int .u32 0), (.int .u32 0), (.slice none 0 0), (.int .i64 0), (.slice none 0 0), (.slice none 0 0), (.slice none 0 0), (.int .u8 0), (.int .u8 0), (.slice none 0 0)] zTnego_workV := ⟨[(.int .i64 0), (.int .i64 0), (.int .i64 0), (.int .u8 0), (.bool false), (.int .u32 0), (.int .u32 0), (.int .u32 0), (.int .u32 0), (.slice none 0 0), (.int .i64 0), (.slice none 0 0)], _, rfl, (zcTNego _), ⟨[(.slice none 0 0)], _, rfl, ⟨rfl, rfl⟩, ⟨[(.slice none 0 0)], _, rfl, ⟨rfl, rfl⟩, (zcTPkt _)⟩⟩⟩
theorem lTnego_workV_Nego : Lens kTnego_workV 0 kTNego (fun x => x.Nego) (fun x y => { x with Nego := y }) := Lens.iso (Lens.fst _ (Lens.id kTNego)) (fun _ => rfl) (fun _ _ => rfl)
theorem lTnego_workV_Out : Lens kTnego_workV 12 Kd.val (fun x => x.Out) (fun x y => { x with Out := y }) := Lens.iso (Lens.snd kTNego (Lens.fst _ (Lens.id Kd.val))) (fun _ => rfl) (fun _ _ => rfl)
theorem lTnego_workV_Tell : Lens kTnego_workV 13 Kd.val (fun x => x.Tell) (fun x y => { x with Tell := y }) := Lens.iso (Lens.snd kTNego (Lens.snd Kd.val (Lens.fst _ (Lens.id Kd.val)))) (fun _ => rfl) (fun _ _ => rfl)
theorem lTnego_workV_P : Lens kTnego_workV 14 kTPkt (fun x => x.P) (fun x y => { x with P := y }) := Lens.iso (Lens.snd kTNego (Lens.snd Kd.val (Lens.snd Kd.val (Lens.last (Lens.id kTPkt))))) (fun _ => rfl) (fun _ _ => rfl)
structure Tauto_work where
  Auto : TAuto
  L : (List Int)
def zTauto_work : Tauto_work := ⟨zTAuto, []⟩
def kTauto_work : Kd Tauto_work := Kd.iso (Kd.pair kTAuto (Kd.last (Kd.slice (Kd.int .i64)))) (fun x => (x.Auto, x.L))
theorem zcTauto_work (G : Ghost) : kTauto_work.rd G [(.int .i64 0), (.int .i64 0), (.int .i64 0), (.int .u8 0), (.slice none 0 0)] zTauto_work := ⟨[(.int .i64 0), (.int .i64 0), (.int .i64 0), (.int .u8 0)], _, rfl, (zcTAuto _), ⟨none, 0, rfl, SlR.nil _ _⟩⟩
theorem lTauto_work_Auto : Lens kTauto_work 0 kTAuto (fun x => x.Auto) (fun x y => { x with Auto := y }) := Lens.iso (Lens.fst _ (Lens.id kTAuto)) (fun _ => rfl) (fun _ _ => rfl)
theorem lTauto_work_L : Lens kTauto_work 4 (Kd.slice (Kd.int .i64)) (fun x => x.L) (fun x y => { x with L := y }) := Lens.iso (Lens.snd kTAuto (Lens.last (Lens.id (Kd.slice (Kd.int .i64))))) (fun _ => rfl) (fun _ _ => rfl)
inductive FV where
  | nil
  | rules_kinds_1 (x : TRule)
  | rules_kinds_2
  | rules_never
  | rules_kinds_3 (x : TRule)
def kFV : Kd FV where
  sz := 1
  agg := false
  rd G cs x := match x with
    | .nil => cs = [.nilFunc]
    | .rules_kinds_1 r => ∃ a : Addr, cs = [.func (.func 99) #[] #[.pointer (some a)]] ∧ PtR kTRule G a r
    | .rules_kinds_2 => cs = [.func (.func 100) #[] #[]]
    | .rules_never => cs = [.func (.func 101) #[] #[]]
    | .rules_kinds_3 r => ∃ a : Addr, cs = [.func (.func 102) #[] #[.pointer (some a)]] ∧ PtR kTRule G a r
  len {G cs x} h := by
    cases x with
    | nil => rw [show cs = [.nilFunc] from h]; rfl
    | rules_kinds_1 r => obtain ⟨a, rfl, _⟩ := h; rfl
    | rules_kinds_2 => rw [show cs = _ from h]; rfl
    | rules_never => rw [show cs = _ from h]; rfl
    | rules_kinds_3 r => obtain ⟨a, rfl, _⟩ := h; rfl
  mono {G G' cs x} hg h := by
    cases x with
    | nil => exact h
    | rules_kinds_1 r => obtain ⟨a, e, hp⟩ := h; exact ⟨a, e, hp.mono hg⟩
    | rules_kinds_2 => exact h
    | rules_never => exact h
    | rules_kinds_3 r => obtain ⟨a, e, hp⟩ := h; exact ⟨a, e, hp.mono hg⟩
  one {G cs x} h v hv := by
    cases x with
    | nil => rw [show cs = [.nilFunc] from h] at hv; simp at hv; rw [hv]; rfl
    | rules_kinds_1 r => obtain ⟨a, rfl, _⟩ := h; simp at hv; rw [hv]; rfl
    | rules_kinds_2 => rw [show cs = _ from h] at hv; simp at hv; rw [hv]; rfl
    | rules_never => rw [show cs = _ from h] at hv; simp at hv; rw [hv]; rfl
    | rules_kinds_3 r => obtain ⟨a, rfl, _⟩ := h; simp at hv; rw [hv]; rfl
  sz1 _ := rfl
theorem vFV_nil {G : Ghost} : kFV.V G .nilFunc .nil := ⟨[_], rfl, rfl⟩
theorem vFV_rules_kinds_1 {G : Ghost} {a : Addr} {r : TRule} (h : PtR kTRule G a r) : kFV.V G (.func (.func 99) #[] #[.pointer (some a)]) (.rules_kinds_1 r) := ⟨[_], rfl, a, rfl, h⟩
theorem vFV_rules_kinds_2 {G : Ghost} : kFV.V G (.func (.func 100) #[] #[]) .rules_kinds_2 := ⟨[_], rfl, rfl⟩
theorem vFV_rules_never {G : Ghost} : kFV.V G (.func (.func 101) #[] #[]) .rules_never := ⟨[_], rfl, rfl⟩
theorem vFV_rules_kinds_3 {G : Ghost} {a : Addr} {r : TRule} (h : PtR kTRule G a r) : kFV.V G (.func (.func 102) #[] #[.pointer (some a)]) (.rules_kinds_3 r) := ⟨[_], rfl, a, rfl, h⟩
structure Trules_kind where
  Long : Int
  Not : FV
  Should : Int
def zTrules_kind : Trules_kind := ⟨0, FV.nil, 0⟩
def kTrules_kind : Kd Trules_kind := Kd.iso (Kd.pair (Kd.int .i64) (Kd.pair kFV (Kd.last (Kd.int .u32)))) (fun x => (x.Long, x.Not, x.Should))
theorem zcTrules_kind (G : Ghost) : kTrules_kind.rd G [(.int .i64 0), (.nilFunc), (.int .u32 0)] zTrules_kind := ⟨[(.int .i64 0)], _, rfl, rfl, ⟨[(.nilFunc)], _, rfl, rfl, rfl⟩⟩
theorem lTrules_kind_Long : Lens kTrules_kind 0 (Kd.int .i64) (fun x => x.Long) (fun x y => { x with Long := y }) := Lens.iso (Lens.fst _ (Lens.id (Kd.int .i64))) (fun _ => rfl) (fun _ _ => rfl)
theorem lTrules_kind_Not : Lens kTrules_kind 1 kFV (fun x => x.Not) (fun x y => { x with Not := y }) := Lens.iso (Lens.snd (Kd.int .i64) (Lens.fst _ (Lens.id kFV))) (fun _ => rfl) (fun _ _ => rfl)
theorem lTrules_kind_Should : Lens kTrules_kind 2 (Kd.int .u32) (fun x => x.Should) (fun x y => { x with Should := y }) := Lens.iso (Lens.snd (Kd.int .i64) (Lens.snd kFV (Lens.last (Lens.id (Kd.int .u32))))) (fun _ => rfl) (fun _ _ => rfl)
theorem fo26_1 : fieldOff Tryd.prog 26 1 = some (1, 0 + 1) := by kernel_rfl
theorem bs26 : (Tryd.prog.underlying 26).map (fun d => match d with | .struct fs => fs.all fun f => (Tryd.prog.info? f.type).isSome | _ => false) = some true := by kernel_rfl
theorem zr26 : Zr Tryd.prog 26 kTRule zTRule := ⟨⟨(.agg #[(.bool false), (.int .u32 0), (.int .u32 0), (.int .u32 0), (.int .u32 0)]), by kernel_rfl, fun _ => ⟨[(.bool false), (.int .u32 0), (.int .u32 0), (.int .u32 0), (.int .u32 0)], rfl, (zcTRule _)⟩⟩⟩
theorem zr29 : Zr Tryd.prog 29 kTNego zTNego := ⟨⟨(.agg #[(.int .i64 0), (.int .i64 0), (.int .i64 0), (.int .u8 0), (.bool false), (.int .u32 0), (.int .u32 0), (.int .u32 0), (.int .u32 0), (.slice none 0 0), (.int .i64 0), (.slice none 0 0)]), by kernel_rfl, fun _ => ⟨[(.int .i64 0), (.int .i64 0), (.int .i64 0), (.int .u8 0), (.bool false), (.int .u32 0), (.int .u32 0), (.int .u32 0), (.int .u32 0), (.slice none 0 0), (.int .i64 0), (.slice none 0 0)], rfl, (zcTNego _)⟩⟩⟩
theorem ty26 : Ty Tryd.prog 26 5 true := ⟨by kernel_rfl, by kernel_rfl⟩
theorem fo26_0 : fieldOff Tryd.prog 26 0 = some (0, 0 + 1) := by kernel_rfl
theorem ty4 : Ty Tryd.prog 4 1 false := ⟨by kernel_rfl, by kernel_rfl⟩
theorem fo26_4 : fieldOff Tryd.prog 26 4 = some (4, 0 + 1) := by kernel_rfl
theorem ty24 : Ty Tryd.prog 24 1 false := ⟨by kernel_rfl, by kernel_rfl⟩
theorem zr60 : Zr Tryd.prog 60 kTOpt zTOpt := ⟨⟨(.agg #[(.int .u8 0), (.slice none 0 0)]), by kernel_rfl, fun _ => ⟨[(.int .u8 0), (.slice none 0 0)], rfl, (zcTOpt _)⟩⟩⟩
theorem un24 : Tryd.prog.underlying 24 = some (.int .u32) := by kernel_rfl
theorem un5 : Tryd.prog.underlying 5 = some (.int .u8) := by kernel_rfl
theorem sl30 : Sl Tryd.prog 30 5 := ⟨by kernel_rfl⟩
theorem el5 : El Tryd.prog 5 1 := ⟨by kernel_rfl, by decide⟩
theorem en81 : En Tryd.prog 81 := ⟨_, Tryd.func81, by kernel_rfl, by kernel_rfl⟩
theorem ty5 : Ty Tryd.prog 5 1 false := ⟨by kernel_rfl, by kernel_rfl⟩
theorem fo60_0 : fieldOff Tryd.prog 60 0 = some (0, 0 + 1) := by kernel_rfl
theorem fo60_1 : fieldOff Tryd.prog 60 1 = some (1, 0 + 1) := by kernel_rfl
theorem bs60 : (Tryd.prog.underlying 60).map (fun d => match d with | .struct fs => fs.all fun f => (Tryd.prog.info? f.type).isSome | _ => false) = some true := by kernel_rfl
theorem ty60 : Ty Tryd.prog 60 2 true := ⟨by kernel_rfl, by kernel_rfl⟩
theorem en61 : En Tryd.prog 61 := ⟨_, Tryd.func61, by kernel_rfl, by kernel_rfl⟩
theorem sl27 : Sl Tryd.prog 27 60 := ⟨by kernel_rfl⟩
theorem el60 : El Tryd.prog 60 2 := ⟨by kernel_rfl, by decide⟩
theorem en38 : En Tryd.prog 38 := ⟨_, Tryd.func38, by kernel_rfl, by kernel_rfl⟩
theorem fo29_1 : fieldOff Tryd.prog 29 1 = some (4, 4 + 1) := by kernel_rfl
theorem fo29_2 : fieldOff Tryd.prog 29 2 = some (9, 0 + 1) := by kernel_rfl
theorem bs29 : (Tryd.prog.underlying 29).map (fun d => match d with | .struct fs => fs.all fun f => (Tryd.prog.info? f.type).isSome | _ => false) = some true := by kernel_rfl
theorem ty29 : Ty Tryd.prog 29 12 true := ⟨by kernel_rfl, by kernel_rfl⟩
theorem mixed : Tryd.prog.follows .mixedOrders = true := by kernel_rfl
theorem en18 : En Tryd.prog 18 := ⟨_, Tryd.func18, by kernel_rfl, by kernel_rfl⟩
theorem fo63_0 : fieldOff Tryd.prog 63 0 = some (0, 11 + 1) := by kernel_rfl
theorem bs63 : (Tryd.prog.underlying 63).map (fun d => match d with | .struct fs => fs.all fun f => (Tryd.prog.info? f.type).isSome | _ => false) = some true := by kernel_rfl
theorem zr63V : Zr Tryd.prog 63 kTnego_workV zTnego_workV := ⟨⟨(.agg #[(.int .i64 0), (.int .i64 0), (.int .i64 0), (.int .u8 0), (.bool false), (.int .u32 0), (.int .u32 0), (.int .u32 0), (.int .u32 0), (.slice none 0 0), (.int .i64 0), (.slice none 0 0), (.slice none 0 0), (.slice none 0 0), (.int .u8 0), (.int .u8 0), (.slice none 0 0)]), by kernel_rfl, fun _ => ⟨[(.int .i64 0), (.int .i64 0), (.int .i64 0), (.int .u8 0), (.bool false), (.int .u32 0), (.int .u32 0), (.int .u32 0), (.int .u32 0), (.slice none 0 0), (.int .i64 0), (.slice none 0 0), (.slice none 0 0), (.slice none 0 0), (.int .u8 0), (.int .u8 0), (.slice none 0 0)], rfl, (zcTnego_workV _)⟩⟩⟩
theorem bs32 : (Tryd.prog.underlying 32).map (fun d => match d with | .struct fs => fs.all fun f => (Tryd.prog.info? f.type).isSome | _ => false) = some true := by kernel_rfl
theorem zr32 : Zr Tryd.prog 32 kTPkt zTPkt := ⟨⟨(.agg #[(.int .u8 0), (.int .u8 0), (.slice none 0 0)]), by kernel_rfl, fun _ => ⟨[(.int .u8 0), (.int .u8 0), (.slice none 0 0)], rfl, (zcTPkt _)⟩⟩⟩
theorem fo29_0 : fieldOff Tryd.prog 29 0 = some (0, 3 + 1) := by kernel_rfl
theorem fo23_0 : fieldOff Tryd.prog 23 0 = some (0, 0 + 1) := by kernel_rfl
theorem ty3 : Ty Tryd.prog 3 1 false := ⟨by kernel_rfl, by kernel_rfl⟩
theorem ty23 : Ty Tryd.prog 23 4 true := ⟨by kernel_rfl, by kernel_rfl⟩
theorem zr23 : Zr Tryd.prog 23 kTAuto zTAuto := ⟨⟨(.agg #[(.int .i64 0), (.int .i64 0), (.int .i64 0), (.int .u8 0)]), by kernel_rfl, fun _ => ⟨[(.int .i64 0), (.int .i64 0), (.int .i64 0), (.int .u8 0)], rfl, (zcTAuto _)⟩⟩⟩
theorem mt119 : Tryd.prog.underlying 119 = some (.map 21 3) := by kernel_rfl
theorem un21 : Tryd.prog.underlying 21 = some (.int .i32) := by kernel_rfl
theorem en83 : En Tryd.prog 83 := ⟨_, Tryd.func83, by kernel_rfl, by kernel_rfl⟩
theorem zr123 : Zr Tryd.prog 123 (Kd.arr 16 Kd.str) (List.replicate 16 (⟨#[]⟩ : ByteArray)) := ⟨⟨(.agg #[(.string ⟨#[]⟩), (.string ⟨#[]⟩), (.string ⟨#[]⟩), (.string ⟨#[]⟩), (.string ⟨#[]⟩), (.string ⟨#[]⟩), (.string ⟨#[]⟩), (.string ⟨#[]⟩), (.string ⟨#[]⟩), (.string ⟨#[]⟩), (.string ⟨#[]⟩), (.string ⟨#[]⟩), (.string ⟨#[]⟩), (.string ⟨#[]⟩), (.string ⟨#[]⟩), (.string ⟨#[]⟩)]), by kernel_rfl, fun _ => ⟨[(.string ⟨#[]⟩), (.string ⟨#[]⟩), (.string ⟨#[]⟩), (.string ⟨#[]⟩), (.string ⟨#[]⟩), (.string ⟨#[]⟩), (.string ⟨#[]⟩), (.string ⟨#[]⟩), (.string ⟨#[]⟩), (.string ⟨#[]⟩), (.string ⟨#[]⟩), (.string ⟨#[]⟩), (.string ⟨#[]⟩), (.string ⟨#[]⟩), (.string ⟨#[]⟩), (.string ⟨#[]⟩)], rfl, ⟨rfl, ⟨_, _, rfl, rfl, ⟨_, _, rfl, rfl, ⟨_, _, rfl, rfl, ⟨_, _, rfl, rfl, ⟨_, _, rfl, rfl, ⟨_, _, rfl, rfl, ⟨_, _, rfl, rfl, ⟨_, _, rfl, rfl, ⟨_, _, rfl, rfl, ⟨_, _, rfl, rfl, ⟨_, _, rfl, rfl, ⟨_, _, rfl, rfl, ⟨_, _, rfl, rfl, ⟨_, _, rfl, rfl, ⟨_, _, rfl, rfl, ⟨_, _, rfl, rfl, rfl⟩⟩⟩⟩⟩⟩⟩⟩⟩⟩⟩⟩⟩⟩⟩⟩⟩⟩⟩⟩
theorem ar123 : Ar Tryd.prog 123 16 9 := ⟨by kernel_rfl⟩
theorem ty9 : Ty Tryd.prog 9 1 false := ⟨by kernel_rfl, by kernel_rfl⟩
theorem ty123 : Ty Tryd.prog 123 16 true := ⟨by kernel_rfl, by kernel_rfl⟩
theorem en85 : En Tryd.prog 85 := ⟨_, Tryd.func85, by kernel_rfl, by kernel_rfl⟩
theorem en84 : En Tryd.prog 84 := ⟨_, Tryd.func84, by kernel_rfl, by kernel_rfl⟩
theorem sl121 : Sl Tryd.prog 121 9 := ⟨by kernel_rfl⟩
theorem un9 : Tryd.prog.underlying 9 = some (.string) := by kernel_rfl
theorem un3 : Tryd.prog.underlying 3 = some (.int .i64) := by kernel_rfl
theorem mz3 : (Tryd.prog.info? 3).map (·.zero) = some (some (.int .i64 0)) := by kernel_rfl
theorem sl36 : Sl Tryd.prog 36 3 := ⟨by kernel_rfl⟩
theorem el3 : El Tryd.prog 3 1 := ⟨by kernel_rfl, by decide⟩
theorem en69 : En Tryd.prog 69 := ⟨_, Tryd.func69, by kernel_rfl, by kernel_rfl⟩
theorem fo105_0 : fieldOff Tryd.prog 105 0 = some (0, 3 + 1) := by kernel_rfl
theorem fo105_1 : fieldOff Tryd.prog 105 1 = some (4, 0 + 1) := by kernel_rfl
theorem bs105 : (Tryd.prog.underlying 105).map (fun d => match d with | .struct fs => fs.all fun f => (Tryd.prog.info? f.type).isSome | _ => false) = some true := by kernel_rfl
theorem zr105 : Zr Tryd.prog 105 kTauto_work zTauto_work := ⟨⟨(.agg #[(.int .i64 0), (.int .i64 0), (.int .i64 0), (.int .u8 0), (.slice none 0 0)]), by kernel_rfl, fun _ => ⟨[(.int .i64 0), (.int .i64 0), (.int .i64 0), (.int .u8 0), (.slice none 0 0)], rfl, (zcTauto_work _)⟩⟩⟩
theorem mt106 : Tryd.prog.underlying 106 = some (.map 3 1) := by kernel_rfl
theorem mz1 : (Tryd.prog.info? 1).map (·.zero) = some (some (.nilFunc)) := by kernel_rfl
theorem fo23_1 : fieldOff Tryd.prog 23 1 = some (1, 0 + 1) := by kernel_rfl
theorem ty36 : Ty Tryd.prog 36 1 false := ⟨by kernel_rfl, by kernel_rfl⟩
theorem en73 : En Tryd.prog 73 := ⟨_, Tryd.func73, by kernel_rfl, by kernel_rfl⟩
theorem en48 : En Tryd.prog 48 := ⟨_, Tryd.func48, by kernel_rfl, by kernel_rfl⟩
theorem en70 : En Tryd.prog 70 := ⟨_, Tryd.func70, by kernel_rfl, by kernel_rfl⟩
theorem fo23_2 : fieldOff Tryd.prog 23 2 = some (2, 0 + 1) := by kernel_rfl
theorem en71 : En Tryd.prog 71 := ⟨_, Tryd.func71, by kernel_rfl, by kernel_rfl⟩
theorem fo23_3 : fieldOff Tryd.prog 23 3 = some (3, 0 + 1) := by kernel_rfl
theorem en72 : En Tryd.prog 72 := ⟨_, Tryd.func72, by kernel_rfl, by kernel_rfl⟩
theorem en64 : En Tryd.prog 64 := ⟨_, Tryd.func64, by kernel_rfl, by kernel_rfl⟩
theorem en47 : En Tryd.prog 47 := ⟨_, Tryd.func47, by kernel_rfl, by kernel_rfl⟩
theorem ty32 : Ty Tryd.prog 32 3 true := ⟨by kernel_rfl, by kernel_rfl⟩
theorem ty27 : Ty Tryd.prog 27 1 false := ⟨by kernel_rfl, by kernel_rfl⟩
theorem fo29_3 : fieldOff Tryd.prog 29 3 = some (10, 0 + 1) := by kernel_rfl
theorem fo29_4 : fieldOff Tryd.prog 29 4 = some (11, 0 + 1) := by kernel_rfl
theorem ty30 : Ty Tryd.prog 30 1 false := ⟨by kernel_rfl, by kernel_rfl⟩
theorem en41 : En Tryd.prog 41 := ⟨_, Tryd.func41, by kernel_rfl, by kernel_rfl⟩
theorem fo63_1 : fieldOff Tryd.prog 63 1 = some (12, 0 + 1) := by kernel_rfl
theorem ty35 : Ty Tryd.prog 35 1 false := ⟨by kernel_rfl, by kernel_rfl⟩
theorem fo32_0 : fieldOff Tryd.prog 32 0 = some (0, 0 + 1) := by kernel_rfl
theorem fo32_1 : fieldOff Tryd.prog 32 1 = some (1, 0 + 1) := by kernel_rfl
theorem fo32_2 : fieldOff Tryd.prog 32 2 = some (2, 0 + 1) := by kernel_rfl
theorem sl35 : Sl Tryd.prog 35 32 := ⟨by kernel_rfl⟩
theorem el32 : El Tryd.prog 32 3 := ⟨by kernel_rfl, by decide⟩
theorem fo63_3 : fieldOff Tryd.prog 63 3 = some (14, 2 + 1) := by kernel_rfl
theorem fo63_2 : fieldOff Tryd.prog 63 2 = some (13, 0 + 1) := by kernel_rfl
theorem en33 : En Tryd.prog 33 := ⟨_, Tryd.func33, by kernel_rfl, by kernel_rfl⟩
theorem en30 : En Tryd.prog 30 := ⟨_, Tryd.func30, by kernel_rfl, by kernel_rfl⟩
theorem en31 : En Tryd.prog 31 := ⟨_, Tryd.func31, by kernel_rfl, by kernel_rfl⟩
theorem en11 : En Tryd.prog 11 := ⟨_, Tryd.func11, by kernel_rfl, by kernel_rfl⟩
theorem ar88 : Ar Tryd.prog 88 2 5 := ⟨by kernel_rfl⟩
theorem zr88 : Zr Tryd.prog 88 (Kd.arr 2 (Kd.int .u8)) (List.replicate 2 0) := ⟨⟨(.agg #[(.int .u8 0), (.int .u8 0)]), by kernel_rfl, fun _ => ⟨[(.int .u8 0), (.int .u8 0)], rfl, ⟨rfl, ⟨_, _, rfl, rfl, ⟨_, _, rfl, rfl, rfl⟩⟩⟩⟩⟩⟩
theorem mt90 : Tryd.prog.underlying 90 = some (.map 69 88) := by kernel_rfl
theorem un69 : Tryd.prog.underlying 69 = some (.int .u16) := by kernel_rfl
theorem en49 : En Tryd.prog 49 := ⟨_, Tryd.func49, by kernel_rfl, by kernel_rfl⟩
theorem ty88 : Ty Tryd.prog 88 2 true := ⟨by kernel_rfl, by kernel_rfl⟩
theorem en34 : En Tryd.prog 34 := ⟨_, Tryd.func34, by kernel_rfl, by kernel_rfl⟩
theorem en50 : En Tryd.prog 50 := ⟨_, Tryd.func50, by kernel_rfl, by kernel_rfl⟩
theorem en51 : En Tryd.prog 51 := ⟨_, Tryd.func51, by kernel_rfl, by kernel_rfl⟩
theorem en35 : En Tryd.prog 35 := ⟨_, Tryd.func35, by kernel_rfl, by kernel_rfl⟩
theorem mt73 : Tryd.prog.underlying 73 = some (.map 5 72) := by kernel_rfl
theorem en36 : En Tryd.prog 36 := ⟨_, Tryd.func36, by kernel_rfl, by kernel_rfl⟩
theorem zr27 : Zr Tryd.prog 27 (Kd.slice kTOpt) [] := ⟨⟨(.slice none 0 0), by kernel_rfl, fun _ => ⟨[(.slice none 0 0)], rfl, ⟨none, 0, rfl, SlR.nil _ _⟩⟩⟩⟩
theorem zr79 : Zr Tryd.prog 79 (Kd.int .i64) 0 := ⟨⟨(.int .i64 0), by kernel_rfl, fun _ => ⟨[(.int .i64 0)], rfl, rfl⟩⟩⟩
theorem zr27V : Zr Tryd.prog 27 Kd.val (.slice none 0 0 : Value) := ⟨⟨(.slice none 0 0), by kernel_rfl, fun _ => ⟨[(.slice none 0 0)], rfl, ⟨rfl, rfl⟩⟩⟩⟩
theorem en86 : En Tryd.prog 86 := ⟨_, Tryd.func86, by kernel_rfl, by kernel_rfl⟩
theorem ty79 : Ty Tryd.prog 79 1 false := ⟨by kernel_rfl, by kernel_rfl⟩
theorem en95 : En Tryd.prog 95 := ⟨_, Tryd.func95, by kernel_rfl, by kernel_rfl⟩
theorem en74 : En Tryd.prog 74 := ⟨_, Tryd.func74, by kernel_rfl, by kernel_rfl⟩
theorem zr130 : Zr Tryd.prog 130 kTrules_kind zTrules_kind := ⟨⟨(.agg #[(.int .i64 0), (.nilFunc), (.int .u32 0)]), by kernel_rfl, fun _ => ⟨[(.int .i64 0), (.nilFunc), (.int .u32 0)], rfl, (zcTrules_kind _)⟩⟩⟩
theorem fo26_3 : fieldOff Tryd.prog 26 3 = some (3, 0 + 1) := by kernel_rfl
theorem fo130_0 : fieldOff Tryd.prog 130 0 = some (0, 0 + 1) := by kernel_rfl
theorem fo130_1 : fieldOff Tryd.prog 130 1 = some (1, 0 + 1) := by kernel_rfl
theorem fo130_2 : fieldOff Tryd.prog 130 2 = some (2, 0 + 1) := by kernel_rfl
theorem bs130 : (Tryd.prog.underlying 130).map (fun d => match d with | .struct fs => fs.all fun f => (Tryd.prog.info? f.type).isSome | _ => false) = some true := by kernel_rfl
theorem mt142 : Tryd.prog.underlying 142 = some (.map 5 130) := by kernel_rfl
theorem en96 : En Tryd.prog 96 := ⟨_, Tryd.func96, by kernel_rfl, by kernel_rfl⟩
theorem ty130 : Ty Tryd.prog 130 3 true := ⟨by kernel_rfl, by kernel_rfl⟩
theorem mz130 : (Tryd.prog.info? 130).map (·.zero) = some (some (.agg #[(.int .i64 0), (.nilFunc), (.int .u32 0)])) := by kernel_rfl
theorem fo26_2 : fieldOff Tryd.prog 26 2 = some (2, 0 + 1) := by kernel_rfl
theorem en87 : En Tryd.prog 87 := ⟨_, Tryd.func87, by kernel_rfl, by kernel_rfl⟩
theorem ty128 : Ty Tryd.prog 128 1 false := ⟨by kernel_rfl, by kernel_rfl⟩
theorem en40 : En Tryd.prog 40 := ⟨_, Tryd.func40, by kernel_rfl, by kernel_rfl⟩
theorem en99 : En Tryd.prog 99 := ⟨_, Tryd.func99, by kernel_rfl, by kernel_rfl⟩
theorem en100 : En Tryd.prog 100 := ⟨_, Tryd.func100, by kernel_rfl, by kernel_rfl⟩
theorem en101 : En Tryd.prog 101 := ⟨_, Tryd.func101, by kernel_rfl, by kernel_rfl⟩
theorem en102 : En Tryd.prog 102 := ⟨_, Tryd.func102, by kernel_rfl, by kernel_rfl⟩
theorem en97 : En Tryd.prog 97 := ⟨_, Tryd.func97, by kernel_rfl, by kernel_rfl⟩
theorem en65 : En Tryd.prog 65 := ⟨_, Tryd.func65, by kernel_rfl, by kernel_rfl⟩
theorem en88 : En Tryd.prog 88 := ⟨_, Tryd.func88, by kernel_rfl, by kernel_rfl⟩
theorem en75 : En Tryd.prog 75 := ⟨_, Tryd.func75, by kernel_rfl, by kernel_rfl⟩
theorem en76 : En Tryd.prog 76 := ⟨_, Tryd.func76, by kernel_rfl, by kernel_rfl⟩
theorem en77 : En Tryd.prog 77 := ⟨_, Tryd.func77, by kernel_rfl, by kernel_rfl⟩
theorem en52 : En Tryd.prog 52 := ⟨_, Tryd.func52, by kernel_rfl, by kernel_rfl⟩
theorem en68 : En Tryd.prog 68 := ⟨_, Tryd.func68, by kernel_rfl, by kernel_rfl⟩
theorem en53 : En Tryd.prog 53 := ⟨_, Tryd.func53, by kernel_rfl, by kernel_rfl⟩
theorem en63 : En Tryd.prog 63 := ⟨_, Tryd.func63, by kernel_rfl, by kernel_rfl⟩
theorem en82 : En Tryd.prog 82 := ⟨_, Tryd.func82, by kernel_rfl, by kernel_rfl⟩
theorem en62 : En Tryd.prog 62 := ⟨_, Tryd.func62, by kernel_rfl, by kernel_rfl⟩
theorem en39 : En Tryd.prog 39 := ⟨_, Tryd.func39, by kernel_rfl, by kernel_rfl⟩
theorem en90 : En Tryd.prog 90 := ⟨_, Tryd.func90, by kernel_rfl, by kernel_rfl⟩
theorem en91 : En Tryd.prog 91 := ⟨_, Tryd.func91, by kernel_rfl, by kernel_rfl⟩
theorem en89 : En Tryd.prog 89 := ⟨_, Tryd.func89, by kernel_rfl, by kernel_rfl⟩
theorem en92 : En Tryd.prog 92 := ⟨_, Tryd.func92, by kernel_rfl, by kernel_rfl⟩
theorem en78 : En Tryd.prog 78 := ⟨_, Tryd.func78, by kernel_rfl, by kernel_rfl⟩
theorem en54 : En Tryd.prog 54 := ⟨_, Tryd.func54, by kernel_rfl, by kernel_rfl⟩
theorem en55 : En Tryd.prog 55 := ⟨_, Tryd.func55, by kernel_rfl, by kernel_rfl⟩
theorem en56 : En Tryd.prog 56 := ⟨_, Tryd.func56, by kernel_rfl, by kernel_rfl⟩
theorem en79 : En Tryd.prog 79 := ⟨_, Tryd.func79, by kernel_rfl, by kernel_rfl⟩
theorem en57 : En Tryd.prog 57 := ⟨_, Tryd.func57, by kernel_rfl, by kernel_rfl⟩
theorem en80 : En Tryd.prog 80 := ⟨_, Tryd.func80, by kernel_rfl, by kernel_rfl⟩
theorem en58 : En Tryd.prog 58 := ⟨_, Tryd.func58, by kernel_rfl, by kernel_rfl⟩
theorem en24 : En Tryd.prog 24 := ⟨_, Tryd.func24, by kernel_rfl, by kernel_rfl⟩
theorem en59 : En Tryd.prog 59 := ⟨_, Tryd.func59, by kernel_rfl, by kernel_rfl⟩
theorem en60 : En Tryd.prog 60 := ⟨_, Tryd.func60, by kernel_rfl, by kernel_rfl⟩
theorem mz72 : (Tryd.prog.info? 72).map (·.zero) = some (some (.nilFunc)) := by kernel_rfl
theorem en13 : En Tryd.prog 13 := ⟨_, Tryd.func13, by kernel_rfl, by kernel_rfl⟩
theorem en32 : En Tryd.prog 32 := ⟨_, Tryd.func32, by kernel_rfl, by kernel_rfl⟩
theorem en12 : En Tryd.prog 12 := ⟨_, Tryd.func12, by kernel_rfl, by kernel_rfl⟩
theorem en43 : En Tryd.prog 43 := ⟨_, Tryd.func43, by kernel_rfl, by kernel_rfl⟩
theorem en42 : En Tryd.prog 42 := ⟨_, Tryd.func42, by kernel_rfl, by kernel_rfl⟩
theorem en44 : En Tryd.prog 44 := ⟨_, Tryd.func44, by kernel_rfl, by kernel_rfl⟩
theorem en25 : En Tryd.prog 25 := ⟨_, Tryd.func25, by kernel_rfl, by kernel_rfl⟩
def eTAuto (x y : TAuto) : Bool := (eqI x.State y.State && (eqI x.Count y.Count && (eqI x.Left y.Left && eqI x.Id y.Id)))
theorem eqTAuto : EqK Tryd.prog 23 kTAuto eTAuto 2 := EqG.done (l := [(false, 3, 0), (false, 3, 1), (false, 3, 2), (false, 5, 3)]) rfl (by kernel_rfl) (by kernel_rfl) (EqG.iso (EqG.cons ty3 (eqkI un3) (EqG.cons ty3 (eqkI un3) (EqG.cons ty3 (eqkI un3) (EqG.last ty5 (eqkI un5))))))
theorem eg23 : Tryd.prog.eqGuardType Tryd.prog.depth 23 = false := by kernel_rfl
theorem un4 : Tryd.prog.underlying 4 = some (.bool) := by kernel_rfl
def eTRule (x y : TRule) : Bool := (eqB x.Ip y.Ip && (eqI x.Magic y.Magic && (eqI x.Other y.Other && (eqI x.Addr y.Addr && eqI x.Ours y.Ours))))
theorem eqTRule : EqK Tryd.prog 26 kTRule eTRule 2 := EqG.done (l := [(false, 4, 0), (false, 24, 1), (false, 24, 2), (false, 24, 3), (false, 24, 4)]) rfl (by kernel_rfl) (by kernel_rfl) (EqG.iso (EqG.cons ty4 (eqkB un4) (EqG.cons ty24 (eqkI un24) (EqG.cons ty24 (eqkI un24) (EqG.cons ty24 (eqkI un24) (EqG.last ty24 (eqkI un24)))))))
theorem eg26 : Tryd.prog.eqGuardType Tryd.prog.depth 26 = false := by kernel_rfl
theorem en67 : En Tryd.prog 67 := ⟨_, Tryd.func67, by kernel_rfl, by kernel_rfl⟩
theorem en66 : En Tryd.prog 66 := ⟨_, Tryd.func66, by kernel_rfl, by kernel_rfl⟩
theorem en45 : En Tryd.prog 45 := ⟨_, Tryd.func45, by kernel_rfl, by kernel_rfl⟩
theorem en26 : En Tryd.prog 26 := ⟨_, Tryd.func26, by kernel_rfl, by kernel_rfl⟩
theorem en8 : En Tryd.prog 8 := ⟨_, Tryd.func8, by kernel_rfl, by kernel_rfl⟩
theorem en27 : En Tryd.prog 27 := ⟨_, Tryd.func27, by kernel_rfl, by kernel_rfl⟩
theorem en9 : En Tryd.prog 9 := ⟨_, Tryd.func9, by kernel_rfl, by kernel_rfl⟩
theorem en46 : En Tryd.prog 46 := ⟨_, Tryd.func46, by kernel_rfl, by kernel_rfl⟩
theorem en28 : En Tryd.prog 28 := ⟨_, Tryd.func28, by kernel_rfl, by kernel_rfl⟩
theorem en29 : En Tryd.prog 29 := ⟨_, Tryd.func29, by kernel_rfl, by kernel_rfl⟩
theorem en10 : En Tryd.prog 10 := ⟨_, Tryd.func10, by kernel_rfl, by kernel_rfl⟩
theorem en14 : En Tryd.prog 14 := ⟨_, Tryd.func14, by kernel_rfl, by kernel_rfl⟩
theorem en15 : En Tryd.prog 15 := ⟨_, Tryd.func15, by kernel_rfl, by kernel_rfl⟩
theorem en16 : En Tryd.prog 16 := ⟨_, Tryd.func16, by kernel_rfl, by kernel_rfl⟩
theorem en37 : En Tryd.prog 37 := ⟨_, Tryd.func37, by kernel_rfl, by kernel_rfl⟩
theorem en17 : En Tryd.prog 17 := ⟨_, Tryd.func17, by kernel_rfl, by kernel_rfl⟩
theorem en19 : En Tryd.prog 19 := ⟨_, Tryd.func19, by kernel_rfl, by kernel_rfl⟩
theorem en20 : En Tryd.prog 20 := ⟨_, Tryd.func20, by kernel_rfl, by kernel_rfl⟩
theorem en21 : En Tryd.prog 21 := ⟨_, Tryd.func21, by kernel_rfl, by kernel_rfl⟩
end Go.Proofs.YtadlndnagfnlgaaDoor.W
