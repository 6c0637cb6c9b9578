/- What is known of the arguments' numbers: written by a program (row.py). -/
import Derived.Test.YtadlndnagfnlgaaGreatDoorD
import GoSem.Claim
set_option linter.unusedVariables false
namespace Go.Proofs.YtadlndnagfnlgaaGreatDoor.W
open Go
def wfTAuto (x : TAuto) : Prop := (Lit.int .i64 x.State).wf = true ∧ (Lit.int .i64 x.Count).wf = true ∧ (Lit.int .i64 x.Left).wf = true ∧ (Lit.int .u8 x.Id).wf = true
def wfTRule (x : TRule) : Prop := True ∧ (Lit.int .u32 x.Magic).wf = true ∧ (Lit.int .u32 x.Other).wf = true ∧ (Lit.int .u32 x.Addr).wf = true ∧ (Lit.int .u32 x.Ours).wf = true
def wfTOpt (x : TOpt) : Prop := (Lit.int .u8 x.Typ).wf = true ∧ (x.Data.length ≤ maxLen ∧ ∀ z0, z0 ∈ x.Data → (Lit.int .u8 z0).wf = true)
def wfTNego (x : TNego) : Prop := wfTAuto x.A ∧ wfTRule x.R ∧ (x.Ours.length ≤ maxLen ∧ ∀ z0, z0 ∈ x.Ours → wfTOpt z0) ∧ (Lit.int .i64 x.Naks).wf = true ∧ (x.Peer.length ≤ maxLen ∧ ∀ z0, z0 ∈ x.Peer → wfTOpt z0)
def wfTPkt (x : TPkt) : Prop := (Lit.int .u8 x.Code).wf = true ∧ (Lit.int .u8 x.Id).wf = true ∧ (x.Data.length ≤ maxLen ∧ ∀ z0, z0 ∈ x.Data → (Lit.int .u8 z0).wf = true)
end Go.Proofs.YtadlndnagfnlgaaGreatDoor.W
