import Derived.Test.YtgklmecijeadlaaGreatDoorRunTab
set_option linter.unusedSimpArgs false
set_option linter.unusedVariables false
namespace Go.Proofs.YtgklmecijeadlaaGreatDoor
open Ab

/-- the law's run: its argument is never looked at -/
theorem runNil_eval : isTrue (callF tab 64 3 [.junk] ⟨[], 0, []⟩) = true := by decide +kernel
end Go.Proofs.YtgklmecijeadlaaGreatDoor
