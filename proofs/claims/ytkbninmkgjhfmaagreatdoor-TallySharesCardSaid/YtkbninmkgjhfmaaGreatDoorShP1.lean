/- The tally dump: Row.plus by the evaluator, at every two rows. -/
import Derived.Test.YtkbninmkgjhfmaaGreatDoorTallyE2
set_option maxHeartbeats 400000
namespace Go.Proofs
open Go Go.Det
set_option maxRecDepth 100000

def clsA (f : Nat → Int) : Nat → Nat → List AV
  | _, 0 => []
  | i, n + 1 => .int .u64 (f i) :: clsA f (i + 1) n
def rowA (c a b d : Int) (f : Nat → Int) : List AV := .int .u64 c :: .int .u64 a :: .int .u64 b :: .int .u64 d :: clsA f 0 65

theorem plus_both (c d : Nat) (a1 a2 a3 b1 b2 b3 : Int) (f g : Nat → Int) :
    (callF (tallyEnv (hookAt [])) (exec (tallyEnv (hookAt [])) 600) 24 [.agg (rowA (Int.ofNat (c + 1)) a1 a2 a3 f), .agg (rowA (Int.ofNat (d + 1)) b1 b2 b3 g)] (heap0 6 [])).map Prod.fst =
      some (.agg (rowA (IntKind.u64.wrap (Int.ofNat (c + 1) + Int.ofNat (d + 1))) (IntKind.u64.wrap (a1 + b1)) (if b2 < a2 then b2 else a2) (if b3 > a3 then b3 else a3) (fun i => IntKind.u64.wrap (f i + g i)))) := by kernel_rfl
theorem plus_left (c a1 a2 a3 b1 b2 b3 : Int) (f g : Nat → Int) :
    (callF (tallyEnv (hookAt [])) (exec (tallyEnv (hookAt [])) 600) 24 [.agg (rowA c a1 a2 a3 f), .agg (rowA 0 b1 b2 b3 g)] (heap0 6 [])).map Prod.fst =
      some (.agg (rowA c a1 a2 a3 f)) := by kernel_rfl
theorem plus_right (d : Nat) (a1 a2 a3 b1 b2 b3 : Int) (f g : Nat → Int) :
    (callF (tallyEnv (hookAt [])) (exec (tallyEnv (hookAt [])) 600) 24 [.agg (rowA 0 a1 a2 a3 f), .agg (rowA (Int.ofNat (d + 1)) b1 b2 b3 g)] (heap0 6 [])).map Prod.fst =
      some (.agg (rowA (Int.ofNat (d + 1)) b1 b2 b3 g)) := by kernel_rfl
end Go.Proofs
