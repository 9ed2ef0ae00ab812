/- The tally dump: the closed run of layer 22. -/
import Derived.Test.YtkbninmkgjhfmaaGreatDoorTallyA1
set_option maxHeartbeats 400000
namespace Go.Proofs
open Go Go.Det
set_option maxRecDepth 100000
theorem run44 : isTrue (callF (tallyEnv (hookAt tallyHooks2)) (exec (tallyEnv (hookAt tallyHooks2)) 5000) 44 [] (heap0 6 tallyGl)) = true := by kernel_rfl
def tallyHooks3 : List (FuncId × Hook) := (44, hTrue tallyGl) :: tallyHooks2
theorem hooks3_ok (hk : FuncId → Option Hook) : ∀ p ∈ tallyHooks3, HookOK (tallyEnv hk) p.1 p.2 := by
  intro p hp
  rcases List.mem_cons.1 hp with rfl | hp
  · exact closed_ok (hooks2_ok _) run44 hk
  · exact hooks2_ok hk p hp
end Go.Proofs
