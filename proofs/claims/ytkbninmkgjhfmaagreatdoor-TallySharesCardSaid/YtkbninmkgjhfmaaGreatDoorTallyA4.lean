/- The tally dump: the closed run of layer 36: a contract of 'awake'. -/
import Derived.Test.YtkbninmkgjhfmaaGreatDoorTallyA3
set_option maxHeartbeats 400000
namespace Go.Proofs
open Go Go.Det
set_option maxRecDepth 100000
theorem run6 : isTrue (callF (tallyEnv (hookAt tallyHooks4)) (exec (tallyEnv (hookAt tallyHooks4)) 5000) 6 [] (heap0 6 tallyGl)) = true := by kernel_rfl

/-- 'awake' says true, in every world that holds command's table, and leaves what lay there. -/
theorem awake_ok {w : World} (hg : GlobsIn tallyGl w) : NR Fence.wide Tryz.prog (callFunc 6 #[]) w fun x w' => x = .bool true ∧ Grown w w' :=
  closed_sound (E := tallyEnv (hookAt tallyHooks4)) (tally_ok (hooks4_ok _)) Tryz.mixed (show globsOK 6 tallyGl = true by decide) run6 hg none
#print axioms awake_ok
end Go.Proofs
