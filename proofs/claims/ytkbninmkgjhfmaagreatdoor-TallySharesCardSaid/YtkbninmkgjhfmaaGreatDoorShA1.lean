/- The tally dump: what Add leaves, in the evaluator's words; the hooks for it. -/
import Derived.Test.YtkbninmkgjhfmaaGreatDoorShP2
import Derived.Test.YtkbninmkgjhfmaaGreatDoorShB2
set_option maxHeartbeats 400000
namespace Go.Proofs
open Go Go.Det
set_option maxRecDepth 100000

/-- A tally's own two blocks. -/
def tallyS (te : TypeId) (es : List (AV × AV × Nat)) (clk : Nat) : AS := (((heap0 8 []).put 6 (some (.cells [.map (some 7)] te false none))).put 7 (some (.map es clk)))

def hClass : Hook := fun args σ => match args with
  | [.ann (.int .u64 _) c] => some (.int .i64 c, σ)
  | _ => none

theorem hClass_ok (hk : FuncId → Option Hook) : HookOK (tallyEnv hk) 21 hClass := by
  intro B w0 w ρ σ σ' r args xs v h hr hG hx
  unfold hClass at h
  split at h
  · rename_i n c
    simp only [Option.some.injEq, Prod.mk.injEq] at h
    obtain ⟨rfl, rfl⟩ := h
    obtain ⟨x, r1, h1, h2, rfl⟩ := concL_cons hx
    simp only [concL, Option.some.injEq] at h2
    subst h2
    obtain ⟨h3, h4⟩ := conc_ann h1
    cases conc_int h3
    simp only [annP, Bool.and_eq_true, decide_eq_true_eq] at h4
    obtain ⟨⟨h5, h6⟩, h7⟩ := h4
    obtain ⟨N, rfl⟩ := Int.eq_ofNat_of_zero_le h6
    refine nr_of_calls (enters_in Tryz.func21 (by kernel_rfl) (by kernel_rfl) _ _) (Tryz.class_any N w (by omega)) ?_
    rintro e w' ⟨rfl, rfl⟩
    refine ⟨_, rfl, ρ, .refl ρ, hr, ?_⟩
    rw [← Nat.eq_of_beq_eq_true h5]
    rfl
  · cases h

def addHooks : List (FuncId × Hook) := [(21, hClass), (24, hPlus)]
theorem addHooks_ok (hk : FuncId → Option Hook) : ∀ p ∈ addHooks, HookOK (tallyEnv hk) p.1 p.2 := by
  intro p hp
  simp only [addHooks, List.mem_cons, List.not_mem_nil, or_false] at hp
  rcases hp with rfl | rfl
  · exact hClass_ok hk
  · exact hPlus_ok hk
noncomputable abbrev EA : Env := tallyEnv (hookAt addHooks)
theorem EA_ok : EnvOK EA := tally_ok (addHooks_ok _)

def out7 : Option (AV × AS) → Option (AV × Option AObj) := Option.map fun p => (p.1, p.2.get 7)

/-- What Add leaves: at an empty tally, at one that has the key alone. -/
def AddNew (f : FuncId) (te : TypeId) (key : AV) (c : Nat) : Prop := ∀ (n : Int) (clk : Nat), out7 (callF EA (exec EA 600) f [.ptr (some (6, 0)), key, .ann (.int .u64 n) c] (tallyS te [] clk)) =
  some (.tuple [], some (.map [(key, .agg (rowA 1 n n n (fun i => if i = c then 1 else 0)), clk)] (clk + 1)))
def AddOld (f : FuncId) (te : TypeId) (key : AV) (c : Nat) : Prop := ∀ (n : Int) (clk b k : Nat) (s l m : Int) (g : Nat → Int), out7 (callF EA (exec EA 600) f [.ptr (some (6, 0)), key, .ann (.int .u64 n) c] (tallyS te [(key, .agg (rowA (Int.ofNat (k + 1)) s l m g), b)] clk)) =
  some (.tuple [], some (.map [(key, .agg (rowA (IntKind.u64.wrap (Int.ofNat (k + 1) + 1)) (IntKind.u64.wrap (s + n)) (if n < l then n else l) (if n > m then n else m) (fun i => IntKind.u64.wrap (g i + if i = c then 1 else 0))), b)] clk))
end Go.Proofs
