/- Calls, rounds, code: what the evaluator does stands for what the model does, whatever the tape and the heap. Conditions: none beyond those of each theorem. -/
import Derived.Test.YtkbninmkgjhfmaaGreatDoorDetSound
set_option maxHeartbeats 400000
namespace Go.Det
open Go
section
variable {B : Nat → Prop} {w0 w : World} {ρ : Rho} {σ σ' : AS} {E : Env} {go : ExecT}

theorem res_sound {P : Program} {T : Tm} {tmps : Array Value} {f : ResultVar → Sem Value} (hf : ∀ t, f (.tmp t) = pure (tmps.getD t undef)) (hc : ∀ a t, f (.cell a t) = do loadVar t (← asAddr (tmps.getD a undef)))
    (ht : TRel ρ T tmps) (hr : Rel B w0 ρ σ w) : ∀ {rs : List ResultVar} {l : List AV}, resA P T σ rs = some l → ∃ xs, concL ρ l = some xs ∧ (rs.mapM f).run P w = .ok xs w
  | [], l, h => by simp only [resA, Option.some.injEq] at h; subst h; exact ⟨[], rfl, rfl⟩
  | .tmp t :: r, l, h => by
    simp only [resA] at h
    cases e : aeval T 0 (.tmp t) with
    | none => rw [e] at h; cases h
    | some v =>
      rw [e] at h
      simp only [Option.bind_some] at h
      cases e' : resA P T σ r with
      | none => rw [e'] at h; cases h
      | some l' =>
        rw [e'] at h
        simp only [Option.map_some, Option.some.injEq] at h
        subst h
        have h1 := aeval_sound (a := { tmps, defers := [] }) e ht (fun g hg => by omega)
        obtain ⟨xs, h2, h3⟩ := res_sound hf hc ht hr e'
        refine ⟨_, concL_mk h1 h2, ?_⟩
        simp only [List.mapM_cons, Sem.run_bind, hf, Sem.run_pure, Result.andThen_ok, h3]
        rfl
  | .cell a t :: r, l, h => by
    simp only [resA] at h
    split at h
    · rename_i i o e
      cases e1 : loadT P t i o σ with
      | none => rw [e1] at h; cases h
      | some v =>
        rw [e1] at h
        simp only [Option.bind_some] at h
        cases e' : resA P T σ r with
        | none => rw [e'] at h; cases h
        | some l' =>
          rw [e'] at h
          simp only [Option.map_some, Option.some.injEq] at h
          subst h
          obtain ⟨b, N, hb, hx⟩ := conc_ptr (aeval_sound (a := { tmps, defers := [] }) e ht (fun g hg => by omega))
          obtain ⟨x, x1, x2⟩ := run_loadT (P := P) e1 hr hb
          obtain ⟨xs, h2, h3⟩ := res_sound hf hc ht hr e'
          refine ⟨_, concL_mk x2 h2, ?_⟩
          have hx' : tmps.getD a undef = .pointer (some ⟨b, o, none⟩) := hx
          simp only [List.mapM_cons, Sem.run_bind, hc, hx', asAddr, Sem.run_pure, Result.andThen_ok, x1, h3]
    · cases h

theorem results_sound {P : Program} {T : Tm} {tmps : Array Value} {fn : Func} {l : List AV} (ht : TRel ρ T tmps) (hr : Rel B w0 ρ σ w) (h : resA P T σ fn.results.toList = some l) :
    ∃ x, conc ρ (oneA l) = some x ∧ (results fn tmps).run P w = .ok x w := by
  obtain ⟨xs, h1, h2⟩ := res_sound (P := P) (tmps := tmps) (f := fun | .tmp t => pure (tmps.getD t undef) | .cell a t => do loadVar t (← asAddr (tmps.getD a undef))) (fun _ => rfl) (fun _ _ => rfl) ht hr h
  refine ⟨if h : xs.toArray.size = 1 then xs.toArray[0] else .tuple xs.toArray, ?_, ?_⟩
  rotate_left
  · unfold results
    simp only [Sem.run_bind]
    have hm : ∀ {g : ResultVar → Sem Value}, (fn.results.toList.mapM g).run P w = .ok xs w → (fn.results.mapM g).run P w = .ok xs.toArray w := fun {g} hg => by
      rw [Array.mapM_eq_mapM_toList]
      simp only [Sem.run_map, hg]
      rfl
    exact (congrArg (fun r => Result.andThen r fun a w' => Sem.run P (pure (if h : a.size = 1 then a[0] else .tuple a)) w') (hm h2)).trans rfl
  have hlen := concL_length h1
  match l, xs, h1, hlen with
  | [], [], h1, _ => simp [oneA, conc, concL]
  | [v], [x], h1, _ =>
    obtain ⟨y, z, k1, k2, k3⟩ := concL_cons h1
    simp only [List.cons.injEq] at k3
    obtain ⟨rfl, rfl⟩ := k3
    simpa [oneA] using k1
  | v :: u :: r, x :: y :: s, h1, _ => simp [oneA, conc, h1]

theorem callF_enter (hE : EnvOK E) (hgo : Snd E go) {f : FuncId} {args : List AV} {xs : List Value} {v : AV} {r : Option Nat} (hk : E.hooks f = none) (h : callF E go f args σ = some (v, σ')) (hr : Rel B w0 ρ σ w) (hg : GR ρ E.G)
    (hx : concL ρ args = some xs) : (callFunc f xs.toArray).run E.P w = .ok (.enter f xs.toArray) w ∧ CallsIn (FW r) 0 E.P f xs.toArray w fun e w'' => ∃ x, e = .returned x ∧ Post B w0 ρ v σ' x w'' := by
  unfold callF at h
  rw [hk] at h
  simp only at h
  cases hf : E.P.funcs[f]? with
  | none => rw [hf] at h; cases h
  | some fn =>
    rw [hf] at h
    simp only at h
    cases hb : fn.body with
    | none => rw [hb] at h; cases h
    | some c =>
      rw [hb] at h
      simp only at h
      cases hT : Tm.ofArgs 0 args ⟨max args.length fn.ntmps, .nil⟩ with
      | none => rw [hT] at h; cases h
      | some T0 =>
        rw [hT] at h
        simp only [Option.bind_some] at h
        have hlen := concL_length hx
        have ht := TRel.args (pre := []) hT hx rfl (by simpa using TRel.empty (ρ := ρ) (max args.length fn.ntmps)) (Nat.le_max_left _ _)
        have htm : ([] ++ xs ++ List.replicate (max args.length fn.ntmps - xs.length) undef).toArray = xs.toArray ++ Array.replicate (fn.ntmps - xs.toArray.size) undef := by
          apply Array.toList_inj.1
          simp
          rw [hlen]
          omega
        rw [htm] at ht
        have hname := hE.name f fn hf (by rw [hb]; rfl)
        refine ⟨?_, ?_⟩
        · have h1 : fn.name ≠ "runtime.NumGoroutine" := by simpa using hname
          simp [callFunc, hf, h1, hb]
        · have key : CallsIn (FW none) 0 E.P f xs.toArray w fun e w'' => ∃ x, e = .returned x ∧ Post B w0 ρ v σ' x w'' := by
            refine callsIn_of_wp_marks hf hb trivial ?_ rfl
            have fin : ∀ {x : AX} {T : Tm} {D : List Nat} {σ1 : AS}, go none c T0 [] σ = some (x, T, D, σ1) → (x = .normal ∨ x = .ret) → ((leaveA D σ1).bind fun σ2 => (resA E.P T σ2 fn.results.toList).map fun l => (oneA l, σ2)) = some (v, σ') →
                c.wpIn (FW none) 0 E.P (bodyPostM (FW none) 0 E.P fn fun e w'' => ∃ x, e = .returned x ∧ Post B w0 ρ v σ' x w'') { tmps := xs.toArray ++ Array.replicate (fn.ntmps - xs.toArray.size) undef, defers := [] } w := by
              intro x T D σ1 hgo1 hx1 h1
              have hw := (hgo B w0 w ρ σ σ1 none none c T0 T [] D x { tmps := xs.toArray ++ Array.replicate (fn.ntmps - xs.toArray.size) undef, defers := [] } hgo1 hr ht trivial hg trivial).1
              refine wpIn_mono hw ?_
              rintro e a' w' ⟨rfl, ρ', l1, l2, l3, l4⟩
              cases hl : leaveA D σ1 with
              | none => rw [hl] at h1; cases h1
              | some σ2 =>
                rw [hl] at h1
                simp only [Option.bind_some] at h1
                cases hres : resA E.P T σ2 fn.results.toList with
                | none => rw [hres] at h1; cases h1
                | some l =>
                  rw [hres] at h1
                  simp only [Option.map_some, Option.some.injEq, Prod.mk.injEq] at h1
                  obtain ⟨rfl, rfl⟩ := h1
                  have hlv := leave_sound (P := E.P) (fn := fn) (r := none) (R := fun e w'' => ∃ x, e = .returned x ∧ Post B w0 ρ (oneA l) σ2 x w'') (tmps := a'.tmps) hl l4 l2
                    (fun w'' hr'' => by
                      obtain ⟨y, y1, y2⟩ := results_sound (P := E.P) l3 hr'' hres
                      exact ⟨y, y2, y, rfl, ρ', l1, hr'', y1⟩)
                  rcases hx1 with rfl | rfl <;> exact hlv
            cases hg1 : go none c T0 [] σ with
            | none => rw [hg1] at h; cases h
            | some q =>
              obtain ⟨x, T, D, σ1⟩ := q
              rw [hg1] at h
              cases x with
              | normal => exact fin hg1 (.inl rfl) h
              | ret => exact fin hg1 (.inr rfl) h
              | exit id => cases h
          cases r with
          | none => exact key
          | some l => exact key

theorem callF_sound (hE : EnvOK E) (hgo : Snd E go) {f : FuncId} {args : List AV} {xs : List Value} {v : AV} {r : Option Nat} (h : callF E go f args σ = some (v, σ')) (hr : Rel B w0 ρ σ w) (hg : GR ρ E.G)
    (hx : concL ρ args = some xs) : NR (FW r) E.P (callFunc f xs.toArray) w (Post B w0 ρ v σ') := by
  cases hk : E.hooks f with
  | some hook =>
    unfold callF at h
    rw [hk] at h
    exact hE.hook f hook hk B w0 w ρ σ σ' r args xs v h hr hg hx
  | none => exact .inr (.inl ⟨f, xs.toArray, w, callF_enter hE hgo hk h hr hg hx⟩)
end
end Go.Det
