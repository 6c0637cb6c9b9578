/- Protocols are the same as themselves. -/
import Derived.Test.YtadlndnagfnlgaaGreatDoorP1
namespace Go.Proofs.YtadlndnagfnlgaaGreatDoor.W
open Go
theorem eTAuto_self (a : TAuto) : eTAuto a a = true := by simp [eTAuto, eqI]
theorem eTRule_self (a : TRule) : eTRule a a = true := by simp [eTRule, eqI, eqB]
end Go.Proofs.YtadlndnagfnlgaaGreatDoor.W
