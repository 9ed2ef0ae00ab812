/- The tally dump: the first environment of the tower. -/
import Derived.Test.YtkbninmkgjhfmaaGreatDoorTallyE1
set_option maxHeartbeats 400000
namespace Go.Proofs
open Go Go.Det
set_option maxRecDepth 100000

theorem Tryz.mixed : Tryz.prog.follows .mixedOrders = true := by kernel_rfl
theorem Tryz.names : (Tryz.prog.funcs.all fun fn => fn.body.isNone || !(fn.name == "runtime.NumGoroutine")) = true := by kernel_rfl

noncomputable def tallyEnv (hooks : FuncId → Option Hook) : Env := ⟨Tryz.prog, 6, hooks⟩
theorem tally_ok {l : List (FuncId × Hook)} (h : ∀ p ∈ l, HookOK (tallyEnv (hookAt l)) p.1 p.2) : EnvOK (tallyEnv (hookAt l)) := envOK_of Tryz.names (hookAt_ok h)

def byteAt (n : Int) (s : Nat) : UInt8 := UInt8.ofNat (IntKind.u8.wrap (n.fdiv (2 ^ (min ((s : Int)).toNat 64)))).toNat
def hBig : Hook := fun args σ => match args with
  | [.int .u64 n, .int .i64 1] => some (.str [byteAt n 0], σ)
  | [.int .u64 n, .int .i64 2] => some (.str [byteAt n 8, byteAt n 0], σ)
  | [.int .u64 n, .int .i64 4] => some (.str [byteAt n 24, byteAt n 16, byteAt n 8, byteAt n 0], σ)
  | [.int .u64 n, .int .i64 8] => some (.str [byteAt n 56, byteAt n 48, byteAt n 40, byteAt n 32, byteAt n 24, byteAt n 16, byteAt n 8, byteAt n 0], σ)
  | _ => none

theorem big1 (n : Int) : (callF (tallyEnv (hookAt [])) (exec (tallyEnv (hookAt [])) 300) 133 [.int .u64 n, .int .i64 1] (heap0 6 [])).map Prod.fst = some (.str [byteAt n 0]) := by kernel_rfl
theorem big2 (n : Int) : (callF (tallyEnv (hookAt [])) (exec (tallyEnv (hookAt [])) 300) 133 [.int .u64 n, .int .i64 2] (heap0 6 [])).map Prod.fst = some (.str [byteAt n 8, byteAt n 0]) := by kernel_rfl
theorem big4 (n : Int) : (callF (tallyEnv (hookAt [])) (exec (tallyEnv (hookAt [])) 300) 133 [.int .u64 n, .int .i64 4] (heap0 6 [])).map Prod.fst = some (.str [byteAt n 24, byteAt n 16, byteAt n 8, byteAt n 0]) := by kernel_rfl
theorem big8 (n : Int) : (callF (tallyEnv (hookAt [])) (exec (tallyEnv (hookAt [])) 300) 133 [.int .u64 n, .int .i64 8] (heap0 6 [])).map Prod.fst = some (.str [byteAt n 56, byteAt n 48, byteAt n 40, byteAt n 32, byteAt n 24, byteAt n 16, byteAt n 8, byteAt n 0]) := by kernel_rfl

theorem hBig_ok (hk : FuncId → Option Hook) : HookOK (tallyEnv hk) 133 hBig := by
  have h0 : EnvOK (tallyEnv (hookAt [])) := tally_ok fun p hp => by cases hp
  have : HookOK (tallyEnv (hookAt [])) 133 hBig := by
    refine pure_hook h0 Tryz.mixed (by decide) fun args σ v σ' h => ?_
    unfold hBig at h
    split at h
    · cases h; exact ⟨rfl, rfl, rfl, 300, big1 _⟩
    · cases h; exact ⟨rfl, rfl, rfl, 300, big2 _⟩
    · cases h; exact ⟨rfl, rfl, rfl, 300, big4 _⟩
    · cases h; exact ⟨rfl, rfl, rfl, 300, big8 _⟩
    · cases h
  exact this

theorem sorted_enters (args : Array Value) (w : World) : (callFunc 40 args).run Tryz.prog w = .ok (.enter 40 args) w := by
  have hb : Tryz.f40.body.isSome = true := by kernel_rfl
  have hn : (Tryz.f40.name == "runtime.NumGoroutine") = false := by kernel_rfl
  have h1 : Tryz.f40.name ≠ "runtime.NumGoroutine" := by simpa using hn
  obtain ⟨c, hc⟩ := Option.isSome_iff_exists.1 hb
  simp [callFunc, Tryz.func40, h1, hc]

def tallyBase : List (FuncId × Hook) := [(133, hBig), (293, hCount), (302, hIndexByte), (283, hSame), (269, hOverlaps 1), (181, hOverlaps 3), (40, hSorted 329 9)]

theorem base_ok (hk : FuncId → Option Hook) : ∀ p ∈ tallyBase, HookOK (tallyEnv hk) p.1 p.2 := by
  intro p hp
  simp only [tallyBase, List.mem_cons, List.not_mem_nil, or_false] at hp
  rcases hp with rfl | rfl | rfl | rfl | rfl | rfl | rfl
  · exact hBig_ok hk
  · exact hCount_ok (E := tallyEnv hk) Tryz.func293 (by kernel_rfl) (by kernel_rfl) (by kernel_rfl) (by kernel_rfl)
  · exact hIndexByte_ok (E := tallyEnv hk) Tryz.func302 (by kernel_rfl) (by kernel_rfl) (by kernel_rfl) (by kernel_rfl)
  · exact hSame_ok (E := tallyEnv hk) Tryz.func283 (by kernel_rfl) (by kernel_rfl) (by kernel_rfl) (by kernel_rfl)
  · exact hOverlaps_ok (E := tallyEnv hk) (tS := 96) (tR := 4) (e := 9) Tryz.func269 (by kernel_rfl) (by kernel_rfl) (by kernel_rfl) (by kernel_rfl) (by kernel_rfl) (by kernel_rfl)
  · exact hOverlaps_ok (E := tallyEnv hk) (tS := 121) (tR := 4) (e := 210) Tryz.func181 (by kernel_rfl) (by kernel_rfl) (by kernel_rfl) (by kernel_rfl) (by kernel_rfl) (by kernel_rfl)
  · exact hSorted_ok (E := tallyEnv hk) (show Tryz.prog.underlying 9 = some .string by kernel_rfl) Tryz.sortedC sorted_enters

#print axioms base_ok
end Go.Proofs
