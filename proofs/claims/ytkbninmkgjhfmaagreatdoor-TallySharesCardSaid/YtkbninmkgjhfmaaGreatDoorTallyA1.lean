/- The tally dump: the closed runs of the lower layers. -/
import Derived.Test.YtkbninmkgjhfmaaGreatDoorTallyE2
set_option maxHeartbeats 400000
namespace Go.Proofs
open Go Go.Det
set_option maxRecDepth 100000

def tallyGl : Globs := [(2, 163, [[], [113], [110], [98], [98], [120, 107, 121, 109], [110, 99, 109], [110, 105, 116], [110, 105, 116, 100], [110, 105, 116, 109], [110], [109], [110], [110, 105, 99]])]
theorem run68 : isTrue (callF (tallyEnv (hookAt tallyBase)) (exec (tallyEnv (hookAt tallyBase)) 5000) 68 [] (heap0 6 tallyGl)) = true := by kernel_rfl
theorem run45 : isTrue (callF (tallyEnv (hookAt tallyBase)) (exec (tallyEnv (hookAt tallyBase)) 5000) 45 [] (heap0 6 tallyGl)) = true := by kernel_rfl
theorem run46 : isTrue (callF (tallyEnv (hookAt tallyBase)) (exec (tallyEnv (hookAt tallyBase)) 5000) 46 [] (heap0 6 tallyGl)) = true := by kernel_rfl

theorem closed_ok {l : List (FuncId × Hook)} (hl : ∀ p ∈ l, HookOK (tallyEnv (hookAt l)) p.1 p.2) {f : FuncId} (h : isTrue (callF (tallyEnv (hookAt l)) (exec (tallyEnv (hookAt l)) 5000) f [] (heap0 6 tallyGl)) = true) (hk : FuncId → Option Hook) :
    HookOK (tallyEnv hk) f (hTrue tallyGl) := by
  have : HookOK (tallyEnv (hookAt l)) f (hTrue tallyGl) := hTrue_ok (tally_ok hl) Tryz.mixed (show globsOK 6 tallyGl = true by decide) h
  exact this

def tallyHooks2 : List (FuncId × Hook) := (68, hTrue tallyGl) :: (45, hTrue tallyGl) :: (46, hTrue tallyGl) :: tallyBase
theorem hooks2_ok (hk : FuncId → Option Hook) : ∀ p ∈ tallyHooks2, HookOK (tallyEnv hk) p.1 p.2 := by
  intro p hp
  simp only [tallyHooks2, List.mem_cons] at hp
  rcases hp with rfl | rfl | rfl | hp
  · exact closed_ok (base_ok _) run68 hk
  · exact closed_ok (base_ok _) run45 hk
  · exact closed_ok (base_ok _) run46 hk
  · exact base_ok hk p (by simpa [tallyBase] using hp)
end Go.Proofs
