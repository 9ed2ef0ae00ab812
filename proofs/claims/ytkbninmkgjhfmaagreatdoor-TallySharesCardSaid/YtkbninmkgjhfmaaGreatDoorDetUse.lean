/- A run of the evaluator as a contract in the kit's form, over a world of which it touches no block in K. -/
import Derived.Test.YtkbninmkgjhfmaaGreatDoorDetClosed
set_option maxHeartbeats 400000
namespace Go.Det
open Go
section
variable {K : Nat → Prop} {w : World} {ρ : Rho} {σ σ' : AS} {E : Env}

theorem det_call (hE : EnvOK E) (hm : E.P.follows .mixedOrders = true) {n : Nat} {f : FuncId} {args : List AV} {v : AV} {xs : List Value} (hk : E.hooks f = none)
    (h : callF E (exec E n) f args σ = some (v, σ')) (hr : Rel K w ρ σ w) (hg : GR ρ E.G) (hx : concL ρ args = some xs) :
    Calls E.P f xs.toArray w fun e w' => ∃ x ρ', e = .returned x ∧ ρ.Le ρ' ∧ Rel K w ρ' σ' w' ∧ conc ρ' v = some x := by
  have h0 := (callF_enter (r := none) hE (exec_sound hE hm n) hk h hr hg hx).2
  refine (callsIn_wide.1 (show CallsIn Fence.wide 0 E.P f xs.toArray w _ from h0)).mono ?_
  rintro e w' ⟨x, rfl, ρ', l1, l2, l3⟩
  exact ⟨x, ρ', rfl, l1, l2, l3⟩

/-- A contract in the kit's form, for a hook. -/
theorem nr_of_calls {P : Program} {f : FuncId} {xs : List Value} {r : Option Nat} {R : Ending → World → Prop} {Q : Value → World → Prop} (he : (callFunc f xs.toArray).run P w = .ok (.enter f xs.toArray) w) (h : Calls P f xs.toArray w R)
    (hq : ∀ e w', R e w' → ∃ x, e = .returned x ∧ Q x w') : NR (FW r) P (callFunc f xs.toArray) w Q := by
  have h0 : CallsIn (FW r) 0 P f xs.toArray w R := callsIn_wide.2 h
  exact .inr (.inl ⟨f, xs.toArray, w, he, h0.mono hq⟩)

theorem enters_in {P : Program} {f : FuncId} {fn : Func} (hf : P.funcs[f]? = some fn) (hb : fn.body.isSome = true) (hn : (fn.name == "runtime.NumGoroutine") = false) (args : Array Value) (w : World) : (callFunc f args).run P w = .ok (.enter f args) w := by
  have h1 : fn.name ≠ "runtime.NumGoroutine" := by simpa using hn
  obtain ⟨c, hc⟩ := Option.isSome_iff_exists.1 hb
  simp [callFunc, hf, h1, hc]
end
end Go.Det
