/- Kinds of plain data, and closed facts of the program's types: written by a program (gen.py). -/
import Derived.Test.YtadlndnagfnlgaaGreatDoorProg
import Derived.Test.YtadlndnagfnlgaaGreatDoorW11
import Derived.Test.YtadlndnagfnlgaaGreatDoorW13
set_option linter.unusedVariables false
set_option maxRecDepth 20000
namespace Go.Proofs.YtadlndnagfnlgaaGreatDoor.W
open Go
structure TAuto where
  State : Int
  Count : Int
  Left : Int
  Id : Int
def zTAuto : TAuto := ⟨0, 0, 0, 0⟩
def za : Kd TAuto := Kd.iso (Kd.pair (Kd.int .i64) (Kd.pair (Kd.int .i64) (Kd.pair (Kd.int .i64) (Kd.last (Kd.int .u8))))) (fun x => (x.State, x.Count, x.Left, x.Id))
theorem zcTAuto (G : qk) : za.rd G [(.int .i64 0), (.int .i64 0), (.int .i64 0), (.int .u8 0)] zTAuto := ⟨[(.int .i64 0)], _, rfl, rfl, ⟨[(.int .i64 0)], _, rfl, rfl, ⟨[(.int .i64 0)], _, rfl, rfl, rfl⟩⟩⟩
theorem zZ : Lens za 0 (Kd.int .i64) (fun x => x.State) (fun x y => { x with State := y }) := Lens.iso (Lens.fst _ (Lens.id (Kd.int .i64))) (fun _ => rfl) (fun _ _ => rfl)
theorem jF : Lens za 1 (Kd.int .i64) (fun x => x.Count) (fun x y => { x with Count := y }) := Lens.iso (Lens.snd (Kd.int .i64) (Lens.fst _ (Lens.id (Kd.int .i64)))) (fun _ => rfl) (fun _ _ => rfl)
theorem zM : Lens za 2 (Kd.int .i64) (fun x => x.Left) (fun x y => { x with Left := y }) := Lens.iso (Lens.snd (Kd.int .i64) (Lens.snd (Kd.int .i64) (Lens.fst _ (Lens.id (Kd.int .i64))))) (fun _ => rfl) (fun _ _ => rfl)
theorem zT : Lens za 3 (Kd.int .u8) (fun x => x.Id) (fun x y => { x with Id := y }) := Lens.iso (Lens.snd (Kd.int .i64) (Lens.snd (Kd.int .i64) (Lens.snd (Kd.int .i64) (Lens.last (Lens.id (Kd.int .u8)))))) (fun _ => rfl) (fun _ _ => rfl)
structure TRule where
  Ip : Bool
  Magic : Int
  Other : Int
  Addr : Int
  Ours : Int
def zTRule : TRule := ⟨false, 0, 0, 0, 0⟩
def qU : Kd TRule := Kd.iso (Kd.pair Kd.bool (Kd.pair (Kd.int .u32) (Kd.pair (Kd.int .u32) (Kd.pair (Kd.int .u32) (Kd.last (Kd.int .u32)))))) (fun x => (x.Ip, x.Magic, x.Other, x.Addr, x.Ours))
theorem zcTRule (G : qk) : qU.rd G [(.bool false), (.int .u32 0), (.int .u32 0), (.int .u32 0), (.int .u32 0)] zTRule := ⟨[(.bool false)], _, rfl, rfl, ⟨[(.int .u32 0)], _, rfl, rfl, ⟨[(.int .u32 0)], _, rfl, rfl, ⟨[(.int .u32 0)], _, rfl, rfl, rfl⟩⟩⟩⟩
theorem xO : Lens qU 0 Kd.bool (fun x => x.Ip) (fun x y => { x with Ip := y }) := Lens.iso (Lens.fst _ (Lens.id Kd.bool)) (fun _ => rfl) (fun _ _ => rfl)
theorem lTRule_Magic : Lens qU 1 (Kd.int .u32) (fun x => x.Magic) (fun x y => { x with Magic := y }) := Lens.iso (Lens.snd Kd.bool (Lens.fst _ (Lens.id (Kd.int .u32)))) (fun _ => rfl) (fun _ _ => rfl)
theorem lTRule_Other : Lens qU 2 (Kd.int .u32) (fun x => x.Other) (fun x y => { x with Other := y }) := Lens.iso (Lens.snd Kd.bool (Lens.snd (Kd.int .u32) (Lens.fst _ (Lens.id (Kd.int .u32))))) (fun _ => rfl) (fun _ _ => rfl)
theorem lTRule_Addr : Lens qU 3 (Kd.int .u32) (fun x => x.Addr) (fun x y => { x with Addr := y }) := Lens.iso (Lens.snd Kd.bool (Lens.snd (Kd.int .u32) (Lens.snd (Kd.int .u32) (Lens.fst _ (Lens.id (Kd.int .u32)))))) (fun _ => rfl) (fun _ _ => rfl)
theorem lTRule_Ours : Lens qU 4 (Kd.int .u32) (fun x => x.Ours) (fun x y => { x with Ours := y }) := Lens.iso (Lens.snd Kd.bool (Lens.snd (Kd.int .u32) (Lens.snd (Kd.int .u32) (Lens.snd (Kd.int .u32) (Lens.last (Lens.id (Kd.int .u32))))))) (fun _ => rfl) (fun _ _ => rfl)
structure TOpt where
  Typ : Int
  Data : (List Int)
def zTOpt : TOpt := ⟨0, []⟩
def qx : Kd TOpt := Kd.iso (Kd.pair (Kd.int .u8) (Kd.last (Kd.slice (Kd.int .u8)))) (fun x => (x.Typ, x.Data))
theorem zcTOpt (G : qk) : qx.rd G [(.int .u8 0), (.slice none 0 0)] zTOpt := ⟨[(.int .u8 0)], _, rfl, rfl, ⟨none, 0, rfl, SlR.nil _ _⟩⟩
theorem qX : Lens qx 0 (Kd.int .u8) (fun x => x.Typ) (fun x y => { x with Typ := y }) := Lens.iso (Lens.fst _ (Lens.id (Kd.int .u8))) (fun _ => rfl) (fun _ _ => rfl)
theorem qZ : Lens qx 1 (Kd.slice (Kd.int .u8)) (fun x => x.Data) (fun x y => { x with Data := y }) := Lens.iso (Lens.snd (Kd.int .u8) (Lens.last (Lens.id (Kd.slice (Kd.int .u8))))) (fun _ => rfl) (fun _ _ => rfl)
structure TNego where
  A : TAuto
  R : TRule
  Ours : (List TOpt)
  Naks : Int
  Peer : (List TOpt)
def xT : TNego := ⟨zTAuto, zTRule, [], 0, []⟩
def qv : Kd TNego := Kd.iso (Kd.pair za (Kd.pair qU (Kd.pair (Kd.slice qx) (Kd.pair (Kd.int .i64) (Kd.last (Kd.slice qx)))))) (fun x => (x.A, x.R, x.Ours, x.Naks, x.Peer))
theorem zcTNego (G : qk) : qv.rd G [(.int .i64 0), (.int .i64 0), (.int .i64 0), (.int .u8 0), (.bool false), (.int .u32 0), (.int .u32 0), (.int .u32 0), (.int .u32 0), (.slice none 0 0), (.int .i64 0), (.slice none 0 0)] xT := ⟨[(.int .i64 0), (.int .i64 0), (.int .i64 0), (.int .u8 0)], _, rfl, (zcTAuto _), ⟨[(.bool false), (.int .u32 0), (.int .u32 0), (.int .u32 0), (.int .u32 0)], _, rfl, (zcTRule _), ⟨[(.slice none 0 0)], _, rfl, ⟨none, 0, rfl, SlR.nil _ _⟩, ⟨[(.int .i64 0)], _, rfl, rfl, ⟨none, 0, rfl, SlR.nil _ _⟩⟩⟩⟩⟩
theorem zq : Lens qv 0 za (fun x => x.A) (fun x y => { x with A := y }) := Lens.iso (Lens.fst _ (Lens.id za)) (fun _ => rfl) (fun _ _ => rfl)
theorem ym : Lens qv 4 qU (fun x => x.R) (fun x y => { x with R := y }) := Lens.iso (Lens.snd za (Lens.fst _ (Lens.id qU))) (fun _ => rfl) (fun _ _ => rfl)
theorem zD : Lens qv 9 (Kd.slice qx) (fun x => x.Ours) (fun x y => { x with Ours := y }) := Lens.iso (Lens.snd za (Lens.snd qU (Lens.fst _ (Lens.id (Kd.slice qx))))) (fun _ => rfl) (fun _ _ => rfl)
theorem jb : Lens qv 10 (Kd.int .i64) (fun x => x.Naks) (fun x y => { x with Naks := y }) := Lens.iso (Lens.snd za (Lens.snd qU (Lens.snd (Kd.slice qx) (Lens.fst _ (Lens.id (Kd.int .i64)))))) (fun _ => rfl) (fun _ _ => rfl)
theorem lTNego_Peer : Lens qv 11 (Kd.slice qx) (fun x => x.Peer) (fun x y => { x with Peer := y }) := Lens.iso (Lens.snd za (Lens.snd qU (Lens.snd (Kd.slice qx) (Lens.snd (Kd.int .i64) (Lens.last (Lens.id (Kd.slice qx))))))) (fun _ => rfl) (fun _ _ => rfl)
structure TPkt where
  Code : Int
  Id : Int
  Data : (List Int)
def zj : TPkt := ⟨0, 0, []⟩
def qC : Kd TPkt := Kd.iso (Kd.pair (Kd.int .u8) (Kd.pair (Kd.int .u8) (Kd.last (Kd.slice (Kd.int .u8))))) (fun x => (x.Code, x.Id, x.Data))
theorem zcTPkt (G : qk) : qC.rd G [(.int .u8 0), (.int .u8 0), (.slice none 0 0)] zj := ⟨[(.int .u8 0)], _, rfl, rfl, ⟨[(.int .u8 0)], _, rfl, rfl, ⟨none, 0, rfl, SlR.nil _ _⟩⟩⟩
theorem qW : Lens qC 0 (Kd.int .u8) (fun x => x.Code) (fun x y => { x with Code := y }) := Lens.iso (Lens.fst _ (Lens.id (Kd.int .u8))) (fun _ => rfl) (fun _ _ => rfl)
theorem zf : Lens qC 1 (Kd.int .u8) (fun x => x.Id) (fun x y => { x with Id := y }) := Lens.iso (Lens.snd (Kd.int .u8) (Lens.fst _ (Lens.id (Kd.int .u8)))) (fun _ => rfl) (fun _ _ => rfl)
theorem zm : Lens qC 2 (Kd.slice (Kd.int .u8)) (fun x => x.Data) (fun x y => { x with Data := y }) := Lens.iso (Lens.snd (Kd.int .u8) (Lens.snd (Kd.int .u8) (Lens.last (Lens.id (Kd.slice (Kd.int .u8)))))) (fun _ => rfl) (fun _ _ => rfl)
structure Tnego_workV where
  Nego : TNego
  Out : Value
  Tell : Value
  P : TPkt
def zTnego_workV : Tnego_workV := ⟨xT, (.slice none 0 0 : Value), (.slice none 0 0 : Value), zj⟩
def qA : Kd Tnego_workV := Kd.iso (Kd.pair qv (Kd.pair Kd.val (Kd.pair Kd.val (Kd.last qC)))) (fun x => (x.Nego, x.Out, x.Tell, x.P))
theorem zcTnego_workV (G : qk) : qA.rd G [(.int .i64 0), (.int .i64 0), (.int .i64 0), (.int .u8 0), (.bool false), (.int .u32 0), (.int .u32 0), (.int .u32 0), (.int .u32 0), (.slice none 0 0), (.int .i64 0), (.slice none 0 0), (.slice none 0 0), (.slice none 0 0), (.int .u8 0), (.int .u8 0), (.slice none 0 0)] zTnego_workV := ⟨[(.int .i64 0), (.int .i64 0), (.int .i64 0), (.int .u8 0), (.bool false), (.int .u32 0), (.int .u32 0), (.int .u32 0), (.int .u32 0), (.slice none 0 0), (.int .i64 0), (.slice none 0 0)], _, rfl, (zcTNego _), ⟨[(.slice none 0 0)], _, rfl, ⟨rfl, rfl⟩, ⟨[(.slice none 0 0)], _, rfl, ⟨rfl, rfl⟩, (zcTPkt _)⟩⟩⟩
theorem qH : Lens qA 0 qv (fun x => x.Nego) (fun x y => { x with Nego := y }) := Lens.iso (Lens.fst _ (Lens.id qv)) (fun _ => rfl) (fun _ _ => rfl)
theorem zk : Lens qA 12 Kd.val (fun x => x.Out) (fun x y => { x with Out := y }) := Lens.iso (Lens.snd qv (Lens.fst _ (Lens.id Kd.val))) (fun _ => rfl) (fun _ _ => rfl)
theorem xN : Lens qA 13 Kd.val (fun x => x.Tell) (fun x y => { x with Tell := y }) := Lens.iso (Lens.snd qv (Lens.snd Kd.val (Lens.fst _ (Lens.id Kd.val)))) (fun _ => rfl) (fun _ _ => rfl)
theorem zi : Lens qA 14 qC (fun x => x.P) (fun x y => { x with P := y }) := Lens.iso (Lens.snd qv (Lens.snd Kd.val (Lens.snd Kd.val (Lens.last (Lens.id qC))))) (fun _ => rfl) (fun _ _ => rfl)
structure Tauto_work where
  Auto : TAuto
  L : (List Int)
def zTauto_work : Tauto_work := ⟨zTAuto, []⟩
def jL : Kd Tauto_work := Kd.iso (Kd.pair za (Kd.last (Kd.slice (Kd.int .i64)))) (fun x => (x.Auto, x.L))
theorem zcTauto_work (G : qk) : jL.rd G [(.int .i64 0), (.int .i64 0), (.int .i64 0), (.int .u8 0), (.slice none 0 0)] zTauto_work := ⟨[(.int .i64 0), (.int .i64 0), (.int .i64 0), (.int .u8 0)], _, rfl, (zcTAuto _), ⟨none, 0, rfl, SlR.nil _ _⟩⟩
theorem zS : Lens jL 0 za (fun x => x.Auto) (fun x y => { x with Auto := y }) := Lens.iso (Lens.fst _ (Lens.id za)) (fun _ => rfl) (fun _ _ => rfl)
theorem lTauto_work_L : Lens jL 4 (Kd.slice (Kd.int .i64)) (fun x => x.L) (fun x y => { x with L := y }) := Lens.iso (Lens.snd za (Lens.last (Lens.id (Kd.slice (Kd.int .i64))))) (fun _ => rfl) (fun _ _ => rfl)
inductive FV where
  | nil
  | rules_kinds_1 (x : TRule)
  | rules_kinds_2
  | rules_never
  | rules_kinds_3 (x : TRule)
def kFV : Kd FV where
  sz := 1
  agg := false
  rd G cs x := match x with
    | .nil => cs = [.nilFunc]
    | .rules_kinds_1 r => ∃ a : Addr, cs = [.func (.func 235) #[] #[.pointer (some a)]] ∧ PtR qU G a r
    | .rules_kinds_2 => cs = [.func (.func 236) #[] #[]]
    | .rules_never => cs = [.func (.func 237) #[] #[]]
    | .rules_kinds_3 r => ∃ a : Addr, cs = [.func (.func 238) #[] #[.pointer (some a)]] ∧ PtR qU G a r
  len {G cs x} h := by
    cases x with
    | nil => rw [show cs = [.nilFunc] from h]; rfl
    | rules_kinds_1 r => obtain ⟨a, rfl, _⟩ := h; rfl
    | rules_kinds_2 => rw [show cs = _ from h]; rfl
    | rules_never => rw [show cs = _ from h]; rfl
    | rules_kinds_3 r => obtain ⟨a, rfl, _⟩ := h; rfl
  mono {G G' cs x} hg h := by
    cases x with
    | nil => exact h
    | rules_kinds_1 r => obtain ⟨a, e, hp⟩ := h; exact ⟨a, e, hp.mono hg⟩
    | rules_kinds_2 => exact h
    | rules_never => exact h
    | rules_kinds_3 r => obtain ⟨a, e, hp⟩ := h; exact ⟨a, e, hp.mono hg⟩
  one {G cs x} h v hv := by
    cases x with
    | nil => rw [show cs = [.nilFunc] from h] at hv; simp at hv; rw [hv]; rfl
    | rules_kinds_1 r => obtain ⟨a, rfl, _⟩ := h; simp at hv; rw [hv]; rfl
    | rules_kinds_2 => rw [show cs = _ from h] at hv; simp at hv; rw [hv]; rfl
    | rules_never => rw [show cs = _ from h] at hv; simp at hv; rw [hv]; rfl
    | rules_kinds_3 r => obtain ⟨a, rfl, _⟩ := h; simp at hv; rw [hv]; rfl
  sz1 _ := rfl
theorem vFV_rules_kinds_1 {G : qk} {a : Addr} {r : TRule} (h : PtR qU G a r) : kFV.V G (.func (.func 235) #[] #[.pointer (some a)]) (.rules_kinds_1 r) := ⟨[_], rfl, a, rfl, h⟩
theorem vFV_rules_kinds_2 {G : qk} : kFV.V G (.func (.func 236) #[] #[]) .rules_kinds_2 := ⟨[_], rfl, rfl⟩
theorem vFV_rules_never {G : qk} : kFV.V G (.func (.func 237) #[] #[]) .rules_never := ⟨[_], rfl, rfl⟩
theorem vFV_rules_kinds_3 {G : qk} {a : Addr} {r : TRule} (h : PtR qU G a r) : kFV.V G (.func (.func 238) #[] #[.pointer (some a)]) (.rules_kinds_3 r) := ⟨[_], rfl, a, rfl, h⟩
structure Trules_kind where
  Long : Int
  Not : FV
  Should : Int
def qL : Trules_kind := ⟨0, FV.nil, 0⟩
def qw : Kd Trules_kind := Kd.iso (Kd.pair (Kd.int .i64) (Kd.pair kFV (Kd.last (Kd.int .u32)))) (fun x => (x.Long, x.Not, x.Should))
theorem zcTrules_kind (G : qk) : qw.rd G [(.int .i64 0), (.nilFunc), (.int .u32 0)] qL := ⟨[(.int .i64 0)], _, rfl, rfl, ⟨[(.nilFunc)], _, rfl, rfl, rfl⟩⟩
theorem zP : Lens qw 0 (Kd.int .i64) (fun x => x.Long) (fun x y => { x with Long := y }) := Lens.iso (Lens.fst _ (Lens.id (Kd.int .i64))) (fun _ => rfl) (fun _ _ => rfl)
theorem xo : Lens qw 1 kFV (fun x => x.Not) (fun x y => { x with Not := y }) := Lens.iso (Lens.snd (Kd.int .i64) (Lens.fst _ (Lens.id kFV))) (fun _ => rfl) (fun _ _ => rfl)
theorem xD : Lens qw 2 (Kd.int .u32) (fun x => x.Should) (fun x y => { x with Should := y }) := Lens.iso (Lens.snd (Kd.int .i64) (Lens.snd kFV (Lens.last (Lens.id (Kd.int .u32))))) (fun _ => rfl) (fun _ _ => rfl)
structure Tref14_Out where
  N : TNego
  Sent : (List TPkt)
  Told : (List Int)
  L : (List Int)
def qD : Tref14_Out := ⟨xT, [], [], []⟩
def qE : Kd Tref14_Out := Kd.iso (Kd.pair qv (Kd.pair (Kd.slice qC) (Kd.pair (Kd.slice (Kd.int .i64)) (Kd.last (Kd.slice (Kd.int .i64)))))) (fun x => (x.N, x.Sent, x.Told, x.L))
theorem zcTref14_Out (G : qk) : qE.rd G [(.int .i64 0), (.int .i64 0), (.int .i64 0), (.int .u8 0), (.bool false), (.int .u32 0), (.int .u32 0), (.int .u32 0), (.int .u32 0), (.slice none 0 0), (.int .i64 0), (.slice none 0 0), (.slice none 0 0), (.slice none 0 0), (.slice none 0 0)] qD := ⟨[(.int .i64 0), (.int .i64 0), (.int .i64 0), (.int .u8 0), (.bool false), (.int .u32 0), (.int .u32 0), (.int .u32 0), (.int .u32 0), (.slice none 0 0), (.int .i64 0), (.slice none 0 0)], _, rfl, (zcTNego _), ⟨[(.slice none 0 0)], _, rfl, ⟨none, 0, rfl, SlR.nil _ _⟩, ⟨[(.slice none 0 0)], _, rfl, ⟨none, 0, rfl, SlR.nil _ _⟩, ⟨none, 0, rfl, SlR.nil _ _⟩⟩⟩⟩
theorem jU : Lens qE 0 qv (fun x => x.N) (fun x y => { x with N := y }) := Lens.iso (Lens.fst _ (Lens.id qv)) (fun _ => rfl) (fun _ _ => rfl)
theorem lTref14_Out_Sent : Lens qE 12 (Kd.slice qC) (fun x => x.Sent) (fun x y => { x with Sent := y }) := Lens.iso (Lens.snd qv (Lens.fst _ (Lens.id (Kd.slice qC)))) (fun _ => rfl) (fun _ _ => rfl)
theorem lTref14_Out_Told : Lens qE 13 (Kd.slice (Kd.int .i64)) (fun x => x.Told) (fun x y => { x with Told := y }) := Lens.iso (Lens.snd qv (Lens.snd (Kd.slice qC) (Lens.fst _ (Lens.id (Kd.slice (Kd.int .i64)))))) (fun _ => rfl) (fun _ _ => rfl)
theorem lTref14_Out_L : Lens qE 14 (Kd.slice (Kd.int .i64)) (fun x => x.L) (fun x y => { x with L := y }) := Lens.iso (Lens.snd qv (Lens.snd (Kd.slice qC) (Lens.snd (Kd.slice (Kd.int .i64)) (Lens.last (Lens.id (Kd.slice (Kd.int .i64))))))) (fun _ => rfl) (fun _ _ => rfl)
structure Tref14_OutV where
  N : TNego
  Sent : Value
  Told : Value
  L : (List Int)
def zTref14_OutV : Tref14_OutV := ⟨xT, (.slice none 0 0 : Value), (.slice none 0 0 : Value), []⟩
def xc : Kd Tref14_OutV := Kd.iso (Kd.pair qv (Kd.pair Kd.val (Kd.pair Kd.val (Kd.last (Kd.slice (Kd.int .i64)))))) (fun x => (x.N, x.Sent, x.Told, x.L))
theorem zcTref14_OutV (G : qk) : xc.rd G [(.int .i64 0), (.int .i64 0), (.int .i64 0), (.int .u8 0), (.bool false), (.int .u32 0), (.int .u32 0), (.int .u32 0), (.int .u32 0), (.slice none 0 0), (.int .i64 0), (.slice none 0 0), (.slice none 0 0), (.slice none 0 0), (.slice none 0 0)] zTref14_OutV := ⟨[(.int .i64 0), (.int .i64 0), (.int .i64 0), (.int .u8 0), (.bool false), (.int .u32 0), (.int .u32 0), (.int .u32 0), (.int .u32 0), (.slice none 0 0), (.int .i64 0), (.slice none 0 0)], _, rfl, (zcTNego _), ⟨[(.slice none 0 0)], _, rfl, ⟨rfl, rfl⟩, ⟨[(.slice none 0 0)], _, rfl, ⟨rfl, rfl⟩, ⟨none, 0, rfl, SlR.nil _ _⟩⟩⟩⟩
theorem lTref14_OutV_N : Lens xc 0 qv (fun x => x.N) (fun x y => { x with N := y }) := Lens.iso (Lens.fst _ (Lens.id qv)) (fun _ => rfl) (fun _ _ => rfl)
theorem xI : Lens xc 12 Kd.val (fun x => x.Sent) (fun x y => { x with Sent := y }) := Lens.iso (Lens.snd qv (Lens.fst _ (Lens.id Kd.val))) (fun _ => rfl) (fun _ _ => rfl)
theorem lTref14_OutV_Told : Lens xc 13 Kd.val (fun x => x.Told) (fun x y => { x with Told := y }) := Lens.iso (Lens.snd qv (Lens.snd Kd.val (Lens.fst _ (Lens.id Kd.val)))) (fun _ => rfl) (fun _ _ => rfl)
theorem lTref14_OutV_L : Lens xc 14 (Kd.slice (Kd.int .i64)) (fun x => x.L) (fun x y => { x with L := y }) := Lens.iso (Lens.snd qv (Lens.snd Kd.val (Lens.snd Kd.val (Lens.last (Lens.id (Kd.slice (Kd.int .i64))))))) (fun _ => rfl) (fun _ _ => rfl)
theorem fo29_1 : zy Tryz.prog 29 1 = some (1, 0 + 1) := by kernel_rfl
theorem bs29 : (Tryz.prog.underlying 29).map (fun d => match d with | .struct fs => fs.all fun f => (Tryz.prog.info? f.type).isSome | _ => false) = some true := by kernel_rfl
theorem zr29 : Zr Tryz.prog 29 qU zTRule := ⟨⟨(.agg #[(.bool false), (.int .u32 0), (.int .u32 0), (.int .u32 0), (.int .u32 0)]), by kernel_rfl, fun _ => ⟨[(.bool false), (.int .u32 0), (.int .u32 0), (.int .u32 0), (.int .u32 0)], rfl, (zcTRule _)⟩⟩⟩
theorem zr32 : Zr Tryz.prog 32 qv xT := ⟨⟨(.agg #[(.int .i64 0), (.int .i64 0), (.int .i64 0), (.int .u8 0), (.bool false), (.int .u32 0), (.int .u32 0), (.int .u32 0), (.int .u32 0), (.slice none 0 0), (.int .i64 0), (.slice none 0 0)]), by kernel_rfl, fun _ => ⟨[(.int .i64 0), (.int .i64 0), (.int .i64 0), (.int .u8 0), (.bool false), (.int .u32 0), (.int .u32 0), (.int .u32 0), (.int .u32 0), (.slice none 0 0), (.int .i64 0), (.slice none 0 0)], rfl, (zcTNego _)⟩⟩⟩
theorem ty29 : Ty Tryz.prog 29 5 true := ⟨by kernel_rfl, by kernel_rfl⟩
theorem fo29_0 : zy Tryz.prog 29 0 = some (0, 0 + 1) := by kernel_rfl
theorem ty4 : Ty Tryz.prog 4 1 false := ⟨by kernel_rfl, by kernel_rfl⟩
theorem fo29_4 : zy Tryz.prog 29 4 = some (4, 0 + 1) := by kernel_rfl
theorem ty27 : Ty Tryz.prog 27 1 false := ⟨by kernel_rfl, by kernel_rfl⟩
theorem xv : Zr Tryz.prog 133 qx zTOpt := ⟨⟨(.agg #[(.int .u8 0), (.slice none 0 0)]), by kernel_rfl, fun _ => ⟨[(.int .u8 0), (.slice none 0 0)], rfl, (zcTOpt _)⟩⟩⟩
theorem un27 : Tryz.prog.underlying 27 = some (.int .u32) := by kernel_rfl
theorem un5 : Tryz.prog.underlying 5 = some (.int .u8) := by kernel_rfl
theorem zJ : Sl Tryz.prog 22 5 := ⟨by kernel_rfl⟩
theorem el5 : El Tryz.prog 5 1 := ⟨by kernel_rfl, by decide⟩
theorem en194 : En Tryz.prog 194 := ⟨_, Tryz.func194, by kernel_rfl, by kernel_rfl⟩
theorem ty5 : Ty Tryz.prog 5 1 false := ⟨by kernel_rfl, by kernel_rfl⟩
theorem jc : zy Tryz.prog 133 0 = some (0, 0 + 1) := by kernel_rfl
theorem jp : zy Tryz.prog 133 1 = some (1, 0 + 1) := by kernel_rfl
theorem bs133 : (Tryz.prog.underlying 133).map (fun d => match d with | .struct fs => fs.all fun f => (Tryz.prog.info? f.type).isSome | _ => false) = some true := by kernel_rfl
theorem zc : Ty Tryz.prog 133 2 true := ⟨by kernel_rfl, by kernel_rfl⟩
theorem en166 : En Tryz.prog 166 := ⟨_, Tryz.func166, by kernel_rfl, by kernel_rfl⟩
theorem zQ : Sl Tryz.prog 30 133 := ⟨by kernel_rfl⟩
theorem el133 : El Tryz.prog 133 2 := ⟨by kernel_rfl, by decide⟩
theorem en117 : En Tryz.prog 117 := ⟨_, Tryz.func117, by kernel_rfl, by kernel_rfl⟩
theorem fo32_1 : zy Tryz.prog 32 1 = some (4, 4 + 1) := by kernel_rfl
theorem fo32_2 : zy Tryz.prog 32 2 = some (9, 0 + 1) := by kernel_rfl
theorem bs32 : (Tryz.prog.underlying 32).map (fun d => match d with | .struct fs => fs.all fun f => (Tryz.prog.info? f.type).isSome | _ => false) = some true := by kernel_rfl
theorem zG : Ty Tryz.prog 32 12 true := ⟨by kernel_rfl, by kernel_rfl⟩
theorem mixed : Tryz.prog.follows .mixedOrders = true := by kernel_rfl
theorem en56 : En Tryz.prog 56 := ⟨_, Tryz.func56, by kernel_rfl, by kernel_rfl⟩
theorem jH : zy Tryz.prog 136 0 = some (0, 11 + 1) := by kernel_rfl
theorem bs136 : (Tryz.prog.underlying 136).map (fun d => match d with | .struct fs => fs.all fun f => (Tryz.prog.info? f.type).isSome | _ => false) = some true := by kernel_rfl
theorem zr136V : Zr Tryz.prog 136 qA zTnego_workV := ⟨⟨(.agg #[(.int .i64 0), (.int .i64 0), (.int .i64 0), (.int .u8 0), (.bool false), (.int .u32 0), (.int .u32 0), (.int .u32 0), (.int .u32 0), (.slice none 0 0), (.int .i64 0), (.slice none 0 0), (.slice none 0 0), (.slice none 0 0), (.int .u8 0), (.int .u8 0), (.slice none 0 0)]), by kernel_rfl, fun _ => ⟨[(.int .i64 0), (.int .i64 0), (.int .i64 0), (.int .u8 0), (.bool false), (.int .u32 0), (.int .u32 0), (.int .u32 0), (.int .u32 0), (.slice none 0 0), (.int .i64 0), (.slice none 0 0), (.slice none 0 0), (.slice none 0 0), (.int .u8 0), (.int .u8 0), (.slice none 0 0)], rfl, (zcTnego_workV _)⟩⟩⟩
theorem bs46 : (Tryz.prog.underlying 46).map (fun d => match d with | .struct fs => fs.all fun f => (Tryz.prog.info? f.type).isSome | _ => false) = some true := by kernel_rfl
theorem zr46 : Zr Tryz.prog 46 qC zj := ⟨⟨(.agg #[(.int .u8 0), (.int .u8 0), (.slice none 0 0)]), by kernel_rfl, fun _ => ⟨[(.int .u8 0), (.int .u8 0), (.slice none 0 0)], rfl, (zcTPkt _)⟩⟩⟩
theorem xe : zy Tryz.prog 32 0 = some (0, 3 + 1) := by kernel_rfl
theorem fo26_0 : zy Tryz.prog 26 0 = some (0, 0 + 1) := by kernel_rfl
theorem ty3 : Ty Tryz.prog 3 1 false := ⟨by kernel_rfl, by kernel_rfl⟩
theorem xA : Ty Tryz.prog 26 4 true := ⟨by kernel_rfl, by kernel_rfl⟩
theorem zr26 : Zr Tryz.prog 26 za zTAuto := ⟨⟨(.agg #[(.int .i64 0), (.int .i64 0), (.int .i64 0), (.int .u8 0)]), by kernel_rfl, fun _ => ⟨[(.int .i64 0), (.int .i64 0), (.int .i64 0), (.int .u8 0)], rfl, (zcTAuto _)⟩⟩⟩
theorem mt255 : Tryz.prog.underlying 255 = some (.map 21 3) := by kernel_rfl
theorem un21 : Tryz.prog.underlying 21 = some (.int .i32) := by kernel_rfl
theorem en212 : En Tryz.prog 212 := ⟨_, Tryz.func212, by kernel_rfl, by kernel_rfl⟩
theorem zr259 : Zr Tryz.prog 259 (Kd.arr 16 Kd.str) (List.replicate 16 (⟨#[]⟩ : ByteArray)) := ⟨⟨(.agg #[(.string ⟨#[]⟩), (.string ⟨#[]⟩), (.string ⟨#[]⟩), (.string ⟨#[]⟩), (.string ⟨#[]⟩), (.string ⟨#[]⟩), (.string ⟨#[]⟩), (.string ⟨#[]⟩), (.string ⟨#[]⟩), (.string ⟨#[]⟩), (.string ⟨#[]⟩), (.string ⟨#[]⟩), (.string ⟨#[]⟩), (.string ⟨#[]⟩), (.string ⟨#[]⟩), (.string ⟨#[]⟩)]), by kernel_rfl, fun _ => ⟨[(.string ⟨#[]⟩), (.string ⟨#[]⟩), (.string ⟨#[]⟩), (.string ⟨#[]⟩), (.string ⟨#[]⟩), (.string ⟨#[]⟩), (.string ⟨#[]⟩), (.string ⟨#[]⟩), (.string ⟨#[]⟩), (.string ⟨#[]⟩), (.string ⟨#[]⟩), (.string ⟨#[]⟩), (.string ⟨#[]⟩), (.string ⟨#[]⟩), (.string ⟨#[]⟩), (.string ⟨#[]⟩)], rfl, ⟨rfl, ⟨_, _, rfl, rfl, ⟨_, _, rfl, rfl, ⟨_, _, rfl, rfl, ⟨_, _, rfl, rfl, ⟨_, _, rfl, rfl, ⟨_, _, rfl, rfl, ⟨_, _, rfl, rfl, ⟨_, _, rfl, rfl, ⟨_, _, rfl, rfl, ⟨_, _, rfl, rfl, ⟨_, _, rfl, rfl, ⟨_, _, rfl, rfl, ⟨_, _, rfl, rfl, ⟨_, _, rfl, rfl, ⟨_, _, rfl, rfl, ⟨_, _, rfl, rfl, rfl⟩⟩⟩⟩⟩⟩⟩⟩⟩⟩⟩⟩⟩⟩⟩⟩⟩⟩⟩⟩
theorem ar259 : Ar Tryz.prog 259 16 9 := ⟨by kernel_rfl⟩
theorem ty9 : Ty Tryz.prog 9 1 false := ⟨by kernel_rfl, by kernel_rfl⟩
theorem ty259 : Ty Tryz.prog 259 16 true := ⟨by kernel_rfl, by kernel_rfl⟩
theorem en214 : En Tryz.prog 214 := ⟨_, Tryz.func214, by kernel_rfl, by kernel_rfl⟩
theorem en213 : En Tryz.prog 213 := ⟨_, Tryz.func213, by kernel_rfl, by kernel_rfl⟩
theorem sl257 : Sl Tryz.prog 257 9 := ⟨by kernel_rfl⟩
theorem un9 : Tryz.prog.underlying 9 = some (.string) := by kernel_rfl
theorem un3 : Tryz.prog.underlying 3 = some (.int .i64) := by kernel_rfl
theorem mz3 : (Tryz.prog.info? 3).map (·.zero) = some (some (.int .i64 0)) := by kernel_rfl
theorem xX : Sl Tryz.prog 44 3 := ⟨by kernel_rfl⟩
theorem el3 : El Tryz.prog 3 1 := ⟨by kernel_rfl, by decide⟩
theorem en183 : En Tryz.prog 183 := ⟨_, Tryz.func183, by kernel_rfl, by kernel_rfl⟩
theorem fo235_0 : zy Tryz.prog 235 0 = some (0, 3 + 1) := by kernel_rfl
theorem fo235_1 : zy Tryz.prog 235 1 = some (4, 0 + 1) := by kernel_rfl
theorem bs235 : (Tryz.prog.underlying 235).map (fun d => match d with | .struct fs => fs.all fun f => (Tryz.prog.info? f.type).isSome | _ => false) = some true := by kernel_rfl
theorem zr235 : Zr Tryz.prog 235 jL zTauto_work := ⟨⟨(.agg #[(.int .i64 0), (.int .i64 0), (.int .i64 0), (.int .u8 0), (.slice none 0 0)]), by kernel_rfl, fun _ => ⟨[(.int .i64 0), (.int .i64 0), (.int .i64 0), (.int .u8 0), (.slice none 0 0)], rfl, (zcTauto_work _)⟩⟩⟩
theorem mt236 : Tryz.prog.underlying 236 = some (.map 3 1) := by kernel_rfl
theorem mz1 : (Tryz.prog.info? 1).map (·.zero) = some (some (.nilFunc)) := by kernel_rfl
theorem fo26_1 : zy Tryz.prog 26 1 = some (1, 0 + 1) := by kernel_rfl
theorem ty44 : Ty Tryz.prog 44 1 false := ⟨by kernel_rfl, by kernel_rfl⟩
theorem en177 : En Tryz.prog 177 := ⟨_, Tryz.func177, by kernel_rfl, by kernel_rfl⟩
theorem en126 : En Tryz.prog 126 := ⟨_, Tryz.func126, by kernel_rfl, by kernel_rfl⟩
theorem en184 : En Tryz.prog 184 := ⟨_, Tryz.func184, by kernel_rfl, by kernel_rfl⟩
theorem fo26_2 : zy Tryz.prog 26 2 = some (2, 0 + 1) := by kernel_rfl
theorem en185 : En Tryz.prog 185 := ⟨_, Tryz.func185, by kernel_rfl, by kernel_rfl⟩
theorem fo26_3 : zy Tryz.prog 26 3 = some (3, 0 + 1) := by kernel_rfl
theorem en186 : En Tryz.prog 186 := ⟨_, Tryz.func186, by kernel_rfl, by kernel_rfl⟩
theorem en180 : En Tryz.prog 180 := ⟨_, Tryz.func180, by kernel_rfl, by kernel_rfl⟩
theorem en135 : En Tryz.prog 135 := ⟨_, Tryz.func135, by kernel_rfl, by kernel_rfl⟩
theorem ty46 : Ty Tryz.prog 46 3 true := ⟨by kernel_rfl, by kernel_rfl⟩
theorem ty30 : Ty Tryz.prog 30 1 false := ⟨by kernel_rfl, by kernel_rfl⟩
theorem fo32_3 : zy Tryz.prog 32 3 = some (10, 0 + 1) := by kernel_rfl
theorem fo32_4 : zy Tryz.prog 32 4 = some (11, 0 + 1) := by kernel_rfl
theorem jy : Ty Tryz.prog 22 1 false := ⟨by kernel_rfl, by kernel_rfl⟩
theorem en129 : En Tryz.prog 129 := ⟨_, Tryz.func129, by kernel_rfl, by kernel_rfl⟩
theorem fo136_1 : zy Tryz.prog 136 1 = some (12, 0 + 1) := by kernel_rfl
theorem ty71 : Ty Tryz.prog 71 1 false := ⟨by kernel_rfl, by kernel_rfl⟩
theorem jO : zy Tryz.prog 46 0 = some (0, 0 + 1) := by kernel_rfl
theorem jw : zy Tryz.prog 46 1 = some (1, 0 + 1) := by kernel_rfl
theorem xG : zy Tryz.prog 46 2 = some (2, 0 + 1) := by kernel_rfl
theorem sl71 : Sl Tryz.prog 71 46 := ⟨by kernel_rfl⟩
theorem el46 : El Tryz.prog 46 3 := ⟨by kernel_rfl, by decide⟩
theorem fo136_3 : zy Tryz.prog 136 3 = some (14, 2 + 1) := by kernel_rfl
theorem fo136_2 : zy Tryz.prog 136 2 = some (13, 0 + 1) := by kernel_rfl
theorem en77 : En Tryz.prog 77 := ⟨_, Tryz.func77, by kernel_rfl, by kernel_rfl⟩
theorem en74 : En Tryz.prog 74 := ⟨_, Tryz.func74, by kernel_rfl, by kernel_rfl⟩
theorem en75 : En Tryz.prog 75 := ⟨_, Tryz.func75, by kernel_rfl, by kernel_rfl⟩
theorem en27 : En Tryz.prog 27 := ⟨_, Tryz.func27, by kernel_rfl, by kernel_rfl⟩
theorem ar191 : Ar Tryz.prog 191 2 5 := ⟨by kernel_rfl⟩
theorem zr191 : Zr Tryz.prog 191 (Kd.arr 2 (Kd.int .u8)) (List.replicate 2 0) := ⟨⟨(.agg #[(.int .u8 0), (.int .u8 0)]), by kernel_rfl, fun _ => ⟨[(.int .u8 0), (.int .u8 0)], rfl, ⟨rfl, ⟨_, _, rfl, rfl, ⟨_, _, rfl, rfl, rfl⟩⟩⟩⟩⟩⟩
theorem mt193 : Tryz.prog.underlying 193 = some (.map 55 191) := by kernel_rfl
theorem un55 : Tryz.prog.underlying 55 = some (.int .u16) := by kernel_rfl
theorem en136 : En Tryz.prog 136 := ⟨_, Tryz.func136, by kernel_rfl, by kernel_rfl⟩
theorem ty191 : Ty Tryz.prog 191 2 true := ⟨by kernel_rfl, by kernel_rfl⟩
theorem en78 : En Tryz.prog 78 := ⟨_, Tryz.func78, by kernel_rfl, by kernel_rfl⟩
theorem en137 : En Tryz.prog 137 := ⟨_, Tryz.func137, by kernel_rfl, by kernel_rfl⟩
theorem en138 : En Tryz.prog 138 := ⟨_, Tryz.func138, by kernel_rfl, by kernel_rfl⟩
theorem en79 : En Tryz.prog 79 := ⟨_, Tryz.func79, by kernel_rfl, by kernel_rfl⟩
theorem mt145 : Tryz.prog.underlying 145 = some (.map 5 144) := by kernel_rfl
theorem en80 : En Tryz.prog 80 := ⟨_, Tryz.func80, by kernel_rfl, by kernel_rfl⟩
theorem zr30 : Zr Tryz.prog 30 (Kd.slice qx) [] := ⟨⟨(.slice none 0 0), by kernel_rfl, fun _ => ⟨[(.slice none 0 0)], rfl, ⟨none, 0, rfl, SlR.nil _ _⟩⟩⟩⟩
theorem zr122 : Zr Tryz.prog 122 (Kd.int .i64) 0 := ⟨⟨(.int .i64 0), by kernel_rfl, fun _ => ⟨[(.int .i64 0)], rfl, rfl⟩⟩⟩
theorem zr30V : Zr Tryz.prog 30 Kd.val (.slice none 0 0 : Value) := ⟨⟨(.slice none 0 0), by kernel_rfl, fun _ => ⟨[(.slice none 0 0)], rfl, ⟨rfl, rfl⟩⟩⟩⟩
theorem en215 : En Tryz.prog 215 := ⟨_, Tryz.func215, by kernel_rfl, by kernel_rfl⟩
theorem ty122 : Ty Tryz.prog 122 1 false := ⟨by kernel_rfl, by kernel_rfl⟩
theorem en242 : En Tryz.prog 242 := ⟨_, Tryz.func242, by kernel_rfl, by kernel_rfl⟩
theorem en187 : En Tryz.prog 187 := ⟨_, Tryz.func187, by kernel_rfl, by kernel_rfl⟩
theorem zr219 : Zr Tryz.prog 219 qw qL := ⟨⟨(.agg #[(.int .i64 0), (.nilFunc), (.int .u32 0)]), by kernel_rfl, fun _ => ⟨[(.int .i64 0), (.nilFunc), (.int .u32 0)], rfl, (zcTrules_kind _)⟩⟩⟩
theorem fo29_3 : zy Tryz.prog 29 3 = some (3, 0 + 1) := by kernel_rfl
theorem fo219_0 : zy Tryz.prog 219 0 = some (0, 0 + 1) := by kernel_rfl
theorem fo219_1 : zy Tryz.prog 219 1 = some (1, 0 + 1) := by kernel_rfl
theorem fo219_2 : zy Tryz.prog 219 2 = some (2, 0 + 1) := by kernel_rfl
theorem bs219 : (Tryz.prog.underlying 219).map (fun d => match d with | .struct fs => fs.all fun f => (Tryz.prog.info? f.type).isSome | _ => false) = some true := by kernel_rfl
theorem mt250 : Tryz.prog.underlying 250 = some (.map 5 219) := by kernel_rfl
theorem en206 : En Tryz.prog 206 := ⟨_, Tryz.func206, by kernel_rfl, by kernel_rfl⟩
theorem ty219 : Ty Tryz.prog 219 3 true := ⟨by kernel_rfl, by kernel_rfl⟩
theorem mz219 : (Tryz.prog.info? 219).map (·.zero) = some (some (.agg #[(.int .i64 0), (.nilFunc), (.int .u32 0)])) := by kernel_rfl
theorem fo29_2 : zy Tryz.prog 29 2 = some (2, 0 + 1) := by kernel_rfl
theorem en171 : En Tryz.prog 171 := ⟨_, Tryz.func171, by kernel_rfl, by kernel_rfl⟩
theorem ty217 : Ty Tryz.prog 217 1 false := ⟨by kernel_rfl, by kernel_rfl⟩
theorem en128 : En Tryz.prog 128 := ⟨_, Tryz.func128, by kernel_rfl, by kernel_rfl⟩
theorem en235 : En Tryz.prog 235 := ⟨_, Tryz.func235, by kernel_rfl, by kernel_rfl⟩
theorem en236 : En Tryz.prog 236 := ⟨_, Tryz.func236, by kernel_rfl, by kernel_rfl⟩
theorem en237 : En Tryz.prog 237 := ⟨_, Tryz.func237, by kernel_rfl, by kernel_rfl⟩
theorem en238 : En Tryz.prog 238 := ⟨_, Tryz.func238, by kernel_rfl, by kernel_rfl⟩
theorem en243 : En Tryz.prog 243 := ⟨_, Tryz.func243, by kernel_rfl, by kernel_rfl⟩
theorem en169 : En Tryz.prog 169 := ⟨_, Tryz.func169, by kernel_rfl, by kernel_rfl⟩
theorem en216 : En Tryz.prog 216 := ⟨_, Tryz.func216, by kernel_rfl, by kernel_rfl⟩
theorem en188 : En Tryz.prog 188 := ⟨_, Tryz.func188, by kernel_rfl, by kernel_rfl⟩
theorem en189 : En Tryz.prog 189 := ⟨_, Tryz.func189, by kernel_rfl, by kernel_rfl⟩
theorem en190 : En Tryz.prog 190 := ⟨_, Tryz.func190, by kernel_rfl, by kernel_rfl⟩
theorem en139 : En Tryz.prog 139 := ⟨_, Tryz.func139, by kernel_rfl, by kernel_rfl⟩
theorem en165 : En Tryz.prog 165 := ⟨_, Tryz.func165, by kernel_rfl, by kernel_rfl⟩
theorem en140 : En Tryz.prog 140 := ⟨_, Tryz.func140, by kernel_rfl, by kernel_rfl⟩
theorem en179 : En Tryz.prog 179 := ⟨_, Tryz.func179, by kernel_rfl, by kernel_rfl⟩
theorem en211 : En Tryz.prog 211 := ⟨_, Tryz.func211, by kernel_rfl, by kernel_rfl⟩
theorem en178 : En Tryz.prog 178 := ⟨_, Tryz.func178, by kernel_rfl, by kernel_rfl⟩
theorem en127 : En Tryz.prog 127 := ⟨_, Tryz.func127, by kernel_rfl, by kernel_rfl⟩
theorem en218 : En Tryz.prog 218 := ⟨_, Tryz.func218, by kernel_rfl, by kernel_rfl⟩
theorem en219 : En Tryz.prog 219 := ⟨_, Tryz.func219, by kernel_rfl, by kernel_rfl⟩
theorem en217 : En Tryz.prog 217 := ⟨_, Tryz.func217, by kernel_rfl, by kernel_rfl⟩
theorem en220 : En Tryz.prog 220 := ⟨_, Tryz.func220, by kernel_rfl, by kernel_rfl⟩
theorem en191 : En Tryz.prog 191 := ⟨_, Tryz.func191, by kernel_rfl, by kernel_rfl⟩
theorem en141 : En Tryz.prog 141 := ⟨_, Tryz.func141, by kernel_rfl, by kernel_rfl⟩
theorem en142 : En Tryz.prog 142 := ⟨_, Tryz.func142, by kernel_rfl, by kernel_rfl⟩
theorem en143 : En Tryz.prog 143 := ⟨_, Tryz.func143, by kernel_rfl, by kernel_rfl⟩
theorem en192 : En Tryz.prog 192 := ⟨_, Tryz.func192, by kernel_rfl, by kernel_rfl⟩
theorem en144 : En Tryz.prog 144 := ⟨_, Tryz.func144, by kernel_rfl, by kernel_rfl⟩
theorem en193 : En Tryz.prog 193 := ⟨_, Tryz.func193, by kernel_rfl, by kernel_rfl⟩
theorem en145 : En Tryz.prog 145 := ⟨_, Tryz.func145, by kernel_rfl, by kernel_rfl⟩
theorem en68 : En Tryz.prog 68 := ⟨_, Tryz.func68, by kernel_rfl, by kernel_rfl⟩
theorem en146 : En Tryz.prog 146 := ⟨_, Tryz.func146, by kernel_rfl, by kernel_rfl⟩
theorem en147 : En Tryz.prog 147 := ⟨_, Tryz.func147, by kernel_rfl, by kernel_rfl⟩
theorem en29 : En Tryz.prog 29 := ⟨_, Tryz.func29, by kernel_rfl, by kernel_rfl⟩
theorem en76 : En Tryz.prog 76 := ⟨_, Tryz.func76, by kernel_rfl, by kernel_rfl⟩
theorem en28 : En Tryz.prog 28 := ⟨_, Tryz.func28, by kernel_rfl, by kernel_rfl⟩
theorem en131 : En Tryz.prog 131 := ⟨_, Tryz.func131, by kernel_rfl, by kernel_rfl⟩
theorem en130 : En Tryz.prog 130 := ⟨_, Tryz.func130, by kernel_rfl, by kernel_rfl⟩
theorem en132 : En Tryz.prog 132 := ⟨_, Tryz.func132, by kernel_rfl, by kernel_rfl⟩
theorem en69 : En Tryz.prog 69 := ⟨_, Tryz.func69, by kernel_rfl, by kernel_rfl⟩
def eTAuto (x y : TAuto) : Bool := (eqI x.State y.State && (eqI x.Count y.Count && (eqI x.Left y.Left && eqI x.Id y.Id)))
theorem eqTAuto : EqK Tryz.prog 26 za eTAuto 2 := EqG.done (l := [(false, 3, 0), (false, 3, 1), (false, 3, 2), (false, 5, 3)]) rfl (by kernel_rfl) (by kernel_rfl) (EqG.iso (EqG.cons ty3 (eqkI un3) (EqG.cons ty3 (eqkI un3) (EqG.cons ty3 (eqkI un3) (EqG.last ty5 (eqkI un5))))))
theorem eg26 : Tryz.prog.eqGuardType Tryz.prog.depth 26 = false := by kernel_rfl
theorem un4 : Tryz.prog.underlying 4 = some (.bool) := by kernel_rfl
def eTRule (x y : TRule) : Bool := (eqB x.Ip y.Ip && (eqI x.Magic y.Magic && (eqI x.Other y.Other && (eqI x.Addr y.Addr && eqI x.Ours y.Ours))))
theorem eqTRule : EqK Tryz.prog 29 qU eTRule 2 := EqG.done (l := [(false, 4, 0), (false, 27, 1), (false, 27, 2), (false, 27, 3), (false, 27, 4)]) rfl (by kernel_rfl) (by kernel_rfl) (EqG.iso (EqG.cons ty4 (eqkB un4) (EqG.cons ty27 (eqkI un27) (EqG.cons ty27 (eqkI un27) (EqG.cons ty27 (eqkI un27) (EqG.last ty27 (eqkI un27)))))))
theorem eg29 : Tryz.prog.eqGuardType Tryz.prog.depth 29 = false := by kernel_rfl
theorem en182 : En Tryz.prog 182 := ⟨_, Tryz.func182, by kernel_rfl, by kernel_rfl⟩
theorem en181 : En Tryz.prog 181 := ⟨_, Tryz.func181, by kernel_rfl, by kernel_rfl⟩
theorem en133 : En Tryz.prog 133 := ⟨_, Tryz.func133, by kernel_rfl, by kernel_rfl⟩
theorem en70 : En Tryz.prog 70 := ⟨_, Tryz.func70, by kernel_rfl, by kernel_rfl⟩
theorem en24 : En Tryz.prog 24 := ⟨_, Tryz.func24, by kernel_rfl, by kernel_rfl⟩
theorem en71 : En Tryz.prog 71 := ⟨_, Tryz.func71, by kernel_rfl, by kernel_rfl⟩
theorem en25 : En Tryz.prog 25 := ⟨_, Tryz.func25, by kernel_rfl, by kernel_rfl⟩
theorem en134 : En Tryz.prog 134 := ⟨_, Tryz.func134, by kernel_rfl, by kernel_rfl⟩
theorem en72 : En Tryz.prog 72 := ⟨_, Tryz.func72, by kernel_rfl, by kernel_rfl⟩
theorem en73 : En Tryz.prog 73 := ⟨_, Tryz.func73, by kernel_rfl, by kernel_rfl⟩
theorem en26 : En Tryz.prog 26 := ⟨_, Tryz.func26, by kernel_rfl, by kernel_rfl⟩
theorem zr78 : Zr Tryz.prog 78 qE qD := ⟨⟨(.agg #[(.int .i64 0), (.int .i64 0), (.int .i64 0), (.int .u8 0), (.bool false), (.int .u32 0), (.int .u32 0), (.int .u32 0), (.int .u32 0), (.slice none 0 0), (.int .i64 0), (.slice none 0 0), (.slice none 0 0), (.slice none 0 0), (.slice none 0 0)]), by kernel_rfl, fun _ => ⟨[(.int .i64 0), (.int .i64 0), (.int .i64 0), (.int .u8 0), (.bool false), (.int .u32 0), (.int .u32 0), (.int .u32 0), (.int .u32 0), (.slice none 0 0), (.int .i64 0), (.slice none 0 0), (.slice none 0 0), (.slice none 0 0), (.slice none 0 0)], rfl, (zcTref14_Out _)⟩⟩⟩
theorem fo78_0 : zy Tryz.prog 78 0 = some (0, 11 + 1) := by kernel_rfl
theorem bs78 : (Tryz.prog.underlying 78).map (fun d => match d with | .struct fs => fs.all fun f => (Tryz.prog.info? f.type).isSome | _ => false) = some true := by kernel_rfl
theorem yn : Ty Tryz.prog 78 15 true := ⟨by kernel_rfl, by kernel_rfl⟩
theorem en221 : En Tryz.prog 221 := ⟨_, Tryz.func221, by kernel_rfl, by kernel_rfl⟩
theorem en233 : En Tryz.prog 233 := ⟨_, Tryz.func233, by kernel_rfl, by kernel_rfl⟩
theorem en231 : En Tryz.prog 231 := ⟨_, Tryz.func231, by kernel_rfl, by kernel_rfl⟩
theorem en222 : En Tryz.prog 222 := ⟨_, Tryz.func222, by kernel_rfl, by kernel_rfl⟩
theorem en223 : En Tryz.prog 223 := ⟨_, Tryz.func223, by kernel_rfl, by kernel_rfl⟩
theorem en224 : En Tryz.prog 224 := ⟨_, Tryz.func224, by kernel_rfl, by kernel_rfl⟩
theorem en225 : En Tryz.prog 225 := ⟨_, Tryz.func225, by kernel_rfl, by kernel_rfl⟩
theorem en226 : En Tryz.prog 226 := ⟨_, Tryz.func226, by kernel_rfl, by kernel_rfl⟩
theorem en227 : En Tryz.prog 227 := ⟨_, Tryz.func227, by kernel_rfl, by kernel_rfl⟩
theorem en228 : En Tryz.prog 228 := ⟨_, Tryz.func228, by kernel_rfl, by kernel_rfl⟩
theorem en229 : En Tryz.prog 229 := ⟨_, Tryz.func229, by kernel_rfl, by kernel_rfl⟩
theorem en230 : En Tryz.prog 230 := ⟨_, Tryz.func230, by kernel_rfl, by kernel_rfl⟩
theorem en232 : En Tryz.prog 232 := ⟨_, Tryz.func232, by kernel_rfl, by kernel_rfl⟩
theorem en195 : En Tryz.prog 195 := ⟨_, Tryz.func195, by kernel_rfl, by kernel_rfl⟩
theorem en150 : En Tryz.prog 150 := ⟨_, Tryz.func150, by kernel_rfl, by kernel_rfl⟩
theorem en149 : En Tryz.prog 149 := ⟨_, Tryz.func149, by kernel_rfl, by kernel_rfl⟩
theorem en89 : En Tryz.prog 89 := ⟨_, Tryz.func89, by kernel_rfl, by kernel_rfl⟩
theorem en151 : En Tryz.prog 151 := ⟨_, Tryz.func151, by kernel_rfl, by kernel_rfl⟩
theorem fo78_3 : zy Tryz.prog 78 3 = some (14, 0 + 1) := by kernel_rfl
theorem zr78V : Zr Tryz.prog 78 xc zTref14_OutV := ⟨⟨(.agg #[(.int .i64 0), (.int .i64 0), (.int .i64 0), (.int .u8 0), (.bool false), (.int .u32 0), (.int .u32 0), (.int .u32 0), (.int .u32 0), (.slice none 0 0), (.int .i64 0), (.slice none 0 0), (.slice none 0 0), (.slice none 0 0), (.slice none 0 0)]), by kernel_rfl, fun _ => ⟨[(.int .i64 0), (.int .i64 0), (.int .i64 0), (.int .u8 0), (.bool false), (.int .u32 0), (.int .u32 0), (.int .u32 0), (.int .u32 0), (.slice none 0 0), (.int .i64 0), (.slice none 0 0), (.slice none 0 0), (.slice none 0 0), (.slice none 0 0)], rfl, (zcTref14_OutV _)⟩⟩⟩
theorem fo78_2 : zy Tryz.prog 78 2 = some (13, 0 + 1) := by kernel_rfl
theorem fo78_1 : zy Tryz.prog 78 1 = some (12, 0 + 1) := by kernel_rfl
theorem rcTref14_OutV {G : qk} {cs : List Value} {yN : TNego} {ySent : (List TPkt)} {AySent : Option Addr} {cySent : Nat} {yTold : (List Int)} {AyTold : Option Addr} {cyTold : Nat} {yL : (List Int)} (h : xc.rd G cs (Tref14_OutV.mk yN (.slice AySent ySent.length cySent) (.slice AyTold yTold.length cyTold) yL)) (sySent : SlR qC G AySent cySent ySent) (syTold : SlR (Kd.int .i64) G AyTold cyTold yTold) : qE.rd G cs (Tref14_Out.mk yN ySent yTold yL) := by
  obtain ⟨c0, r0, e0, h0, c1, r1, e1, h1, c2, r2, e2, h2, h3⟩ := h
  exact ⟨c0, r0, e0, h0, c1, r1, e1, ⟨_, _, h1.1, sySent⟩, c2, r2, e2, ⟨_, _, h2.1, syTold⟩, h3⟩
theorem en85 : En Tryz.prog 85 := ⟨_, Tryz.func85, by kernel_rfl, by kernel_rfl⟩
theorem en83 : En Tryz.prog 83 := ⟨_, Tryz.func83, by kernel_rfl, by kernel_rfl⟩
theorem en31 : En Tryz.prog 31 := ⟨_, Tryz.func31, by kernel_rfl, by kernel_rfl⟩
theorem en20 : En Tryz.prog 20 := ⟨_, Tryz.func20, by kernel_rfl, by kernel_rfl⟩
theorem en167 : En Tryz.prog 167 := ⟨_, Tryz.func167, by kernel_rfl, by kernel_rfl⟩
theorem en118 : En Tryz.prog 118 := ⟨_, Tryz.func118, by kernel_rfl, by kernel_rfl⟩
theorem en58 : En Tryz.prog 58 := ⟨_, Tryz.func58, by kernel_rfl, by kernel_rfl⟩
theorem en148 : En Tryz.prog 148 := ⟨_, Tryz.func148, by kernel_rfl, by kernel_rfl⟩
theorem en81 : En Tryz.prog 81 := ⟨_, Tryz.func81, by kernel_rfl, by kernel_rfl⟩
theorem en82 : En Tryz.prog 82 := ⟨_, Tryz.func82, by kernel_rfl, by kernel_rfl⟩
theorem en30 : En Tryz.prog 30 := ⟨_, Tryz.func30, by kernel_rfl, by kernel_rfl⟩
theorem en84 : En Tryz.prog 84 := ⟨_, Tryz.func84, by kernel_rfl, by kernel_rfl⟩
theorem en32 : En Tryz.prog 32 := ⟨_, Tryz.func32, by kernel_rfl, by kernel_rfl⟩
theorem en152 : En Tryz.prog 152 := ⟨_, Tryz.func152, by kernel_rfl, by kernel_rfl⟩
theorem en86 : En Tryz.prog 86 := ⟨_, Tryz.func86, by kernel_rfl, by kernel_rfl⟩
theorem en153 : En Tryz.prog 153 := ⟨_, Tryz.func153, by kernel_rfl, by kernel_rfl⟩
theorem en196 : En Tryz.prog 196 := ⟨_, Tryz.func196, by kernel_rfl, by kernel_rfl⟩
theorem en157 : En Tryz.prog 157 := ⟨_, Tryz.func157, by kernel_rfl, by kernel_rfl⟩
theorem en197 : En Tryz.prog 197 := ⟨_, Tryz.func197, by kernel_rfl, by kernel_rfl⟩
theorem en198 : En Tryz.prog 198 := ⟨_, Tryz.func198, by kernel_rfl, by kernel_rfl⟩
theorem en154 : En Tryz.prog 154 := ⟨_, Tryz.func154, by kernel_rfl, by kernel_rfl⟩
theorem en87 : En Tryz.prog 87 := ⟨_, Tryz.func87, by kernel_rfl, by kernel_rfl⟩
theorem en156 : En Tryz.prog 156 := ⟨_, Tryz.func156, by kernel_rfl, by kernel_rfl⟩
theorem en199 : En Tryz.prog 199 := ⟨_, Tryz.func199, by kernel_rfl, by kernel_rfl⟩
theorem en200 : En Tryz.prog 200 := ⟨_, Tryz.func200, by kernel_rfl, by kernel_rfl⟩
theorem en155 : En Tryz.prog 155 := ⟨_, Tryz.func155, by kernel_rfl, by kernel_rfl⟩
theorem en88 : En Tryz.prog 88 := ⟨_, Tryz.func88, by kernel_rfl, by kernel_rfl⟩
theorem en90 : En Tryz.prog 90 := ⟨_, Tryz.func90, by kernel_rfl, by kernel_rfl⟩
theorem en33 : En Tryz.prog 33 := ⟨_, Tryz.func33, by kernel_rfl, by kernel_rfl⟩
end Go.Proofs.YtadlndnagfnlgaaGreatDoor.W
