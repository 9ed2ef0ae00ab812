/- The tally dump: the closed run of layer 25. -/
import Derived.Test.YtkbninmkgjhfmaaGreatDoorTallyA2
set_option maxHeartbeats 400000
namespace Go.Proofs
open Go Go.Det
set_option maxRecDepth 100000
theorem run22 : isTrue (callF (tallyEnv (hookAt tallyHooks3)) (exec (tallyEnv (hookAt tallyHooks3)) 5000) 22 [] (heap0 6 tallyGl)) = true := by kernel_rfl
def tallyHooks4 : List (FuncId × Hook) := (22, hTrue tallyGl) :: tallyHooks3
theorem hooks4_ok (hk : FuncId → Option Hook) : ∀ p ∈ tallyHooks4, HookOK (tallyEnv hk) p.1 p.2 := by
  intro p hp
  rcases List.mem_cons.1 hp with rfl | hp
  · exact closed_ok (hooks3_ok _) run22 hk
  · exact hooks3_ok hk p hp
end Go.Proofs
