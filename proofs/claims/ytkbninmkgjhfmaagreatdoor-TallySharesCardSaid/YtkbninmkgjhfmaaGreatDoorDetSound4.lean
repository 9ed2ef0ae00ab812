/- Calls, rounds, code: what the evaluator does stands for what the model does, whatever the tape and the heap. Conditions: none beyond those of each theorem. -/
import Derived.Test.YtkbninmkgjhfmaaGreatDoorDetSound3
import Derived.Test.YtkbninmkgjhfmaaGreatDoorDetDraw
set_option maxHeartbeats 400000
namespace Go.Det
open Go
section
variable {B : Nat → Prop} {w0 w : World} {ρ : Rho} {σ σ' : AS} {E : Env} {go : ExecT}

theorem conc_bool_inv {v : AV} {c : Bool} (h : conc ρ v = some (.bool c)) : v = .bool c := by
  cases v with
  | bool b => simp only [conc, Option.some.injEq, Value.bool.injEq] at h; rw [h]
  | ptr a => rcases a with _ | ⟨i, o⟩ <;> simp [conc] at h
  | slice a l c' q =>
    rcases a with _ | ⟨i, o⟩
    · simp only [conc] at h; split at h <;> simp at h
    · simp only [conc] at h
      cases e : ρ i with
      | none => rw [e] at h; cases h
      | some p => rw [e] at h; simp only [Option.bind_some, concS] at h; split at h <;> (try split at h) <;> simp at h
  | eslice i o alt skip q =>
    simp only [conc] at h
    cases e : ρ i with
    | none => rw [e] at h; cases h
    | some p => rw [e] at h; simp only [Option.bind_some, concZ] at h; split at h <;> (try split at h) <;> simp at h
  | map r => rcases r with _ | i <;> simp [conc] at h
  | ann v tag => obtain ⟨k, n, hh⟩ := annP_int (conc_ann h).2; cases hh
  | func fn a b =>
    simp only [conc] at h
    cases h1 : concFn ρ fn <;> cases h2 : concL ρ a <;> cases h3 : concL ρ b <;> rw [h1] at h <;> simp [h2, h3] at h
  | _ => simp [conc] at h

theorem wantedA_sound {T : Tm} {ops : Array Oper} {o : Oper} {tmps : Array Value} {b : Bool} (h : wantedA T ops o = some b) (ht : TRel ρ T tmps) : Region.wanted o (yielded ops tmps) = b := by
  unfold wantedA at h
  unfold Region.wanted
  cases hg : o.guard with
  | none => rw [hg] at h; exact Option.some.inj h
  | some p =>
    obtain ⟨j, want⟩ := p
    rw [hg] at h
    simp only at h ⊢
    unfold yielded
    cases hj : ops[j]? with
    | none => rw [hj] at h; simp only [Option.some.injEq] at h; subst h; simp
    | some q =>
      rw [hj] at h
      simp only [Option.bind_some] at h ⊢
      cases hd : q.dst with
      | none => rw [hd] at h; simp only [Option.some.injEq] at h; subst h; simp
      | some d =>
        rw [hd] at h
        simp only [Option.bind_some] at h ⊢
        cases e : aeval T 0 (.tmp d) with
        | none => rw [e] at h; cases h
        | some v =>
          rw [e] at h
          have hv := aeval_sound (a := { tmps, defers := [] }) e ht (fun g hg => by omega)
          have hv' : conc ρ v = some (tmps.getD d undef) := hv
          cases hq : tmps[d]? with
          | none =>
            have h1 : tmps.getD d undef = undef := by simp [Array.getD_eq_getD_getElem?, hq]
            rw [h1] at hv'
            cases v <;> simp only [Option.some.injEq] at h <;> first | (subst h; rfl) | skip
            simp [conc, undef] at hv'
          | some x =>
            have h1 : tmps.getD d undef = x := by simp [Array.getD_eq_getD_getElem?, hq]
            rw [h1] at hv'
            cases v with
            | bool c =>
              simp only [Option.some.injEq] at h
              have := conc_bool hv'
              subst this
              simp only
              rw [← h]
              cases c <;> cases want <;> rfl
            | _ =>
              simp only [Option.some.injEq] at h
              subst h
              have hx : ∀ c, x ≠ .bool c := fun c e => by
                subst e
                have := conc_bool_inv hv'
                cases this
              cases x <;> first | rfl | exact absurd rfl (hx _)

theorem evalE_sound (hE : EnvOK E) (hgo : Snd E go) {ops : Array Oper} {T : Tm} {o : Oper} {v : AV} {a : Act} {r : Option Nat} {Q : Exit → Act → World → Prop} {K : Act → World → Prop} (h : evalE E go ops T σ o = some (v, σ'))
    (hr : Rel B w0 ρ σ w) (ht : TRel ρ T a.tmps) (hG : GR ρ E.G) (hK : ∀ x w', Post B w0 ρ v σ' x w' → K (a.put o.dst x) w') :
    (if Region.wanted o (yielded ops a.tmps) then o.wpIn (FW r) 0 E.P a w K Q else (∀ f, o.about E.P w a.eval = some f → (FW r).fn f) ∧ K (a.put o.dst undef) w) := by
  unfold evalE at h
  cases hw : wantedA T ops o with
  | none => rw [hw] at h; cases h
  | some b =>
    rw [hw] at h
    rw [wantedA_sound hw ht]
    cases b with
    | true =>
      simp only [if_true]
      exact ⟨fun _ _ => trivial, (opStep_sound hE hgo h hr ht hG).upon hK⟩
    | false =>
      simp only [Option.some.injEq, Prod.mk.injEq] at h
      obtain ⟨rfl, rfl⟩ := h
      exact ⟨fun _ _ => trivial, hK _ _ ⟨ρ, .refl ρ, hr, rfl⟩⟩

theorem putA_sound {T T' : Tm} {a : Act} {d : Option Tmp} {v : AV} {x : Value} (h : putA T d v = some T') (ht : TRel ρ T a.tmps) (hv : conc ρ v = some x) : TRel ρ T' (a.put d x).tmps := by
  cases d with
  | none => simp only [putA, Option.some.injEq] at h; subst h; exact ht
  | some d => exact ht.set h hv

theorem put_defers (a : Act) (d : Option Tmp) (x : Value) : (a.put d x).defers = a.defers := by cases d <;> rfl

theorem runOps_cons {ops : Array Oper} {o : Oper} {r : List Oper} {T : Tm} {q : Tm × AS} (h : runOps E go ops (o :: r) T σ = some q) :
    ∃ v σ1 T1, evalE E go ops T σ o = some (v, σ1) ∧ putA T o.dst v = some T1 ∧ runOps E go ops r T1 σ1 = some q := by
  simp only [runOps] at h
  unfold evalE
  cases hw : wantedA T ops o with
  | none => rw [hw] at h; cases h
  | some b =>
    rw [hw] at h
    cases b with
    | true =>
      simp only at h ⊢
      cases ho : opStep E go T σ o with
      | none => rw [ho] at h; cases h
      | some p =>
        rw [ho] at h
        simp only at h
        cases hp : putA T o.dst p.1 with
        | none => rw [hp] at h; cases h
        | some T1 => rw [hp] at h; exact ⟨_, _, _, rfl, hp, h⟩
    | false =>
      simp only at h ⊢
      cases hp : putA T o.dst AV.undef with
      | none => rw [hp] at h; cases h
      | some T1 => rw [hp] at h; exact ⟨_, _, _, rfl, hp, h⟩

theorem runOps_sound (hE : EnvOK E) (hgo : Snd E go) {ops : Array Oper} {D : List Nat} {r : Option Nat} : ∀ {l : List Oper} {pre : List Oper} {T T' : Tm} {σ σ' : AS} {ρ ρ0 : Rho} {w : World} {a : Act}, pre ++ l = ops.toList →
    runOps E go ops l T σ = some (T', σ') → ρ0.Le ρ → Rel B w0 ρ σ w → TRel ρ T a.tmps → DR ρ D a.defers → GR ρ E.G →
    wpOpsIn (FW r) 0 E.P ops (PostX B w0 ρ0 .normal T' D σ') (List.range' pre.length l.length) a w
  | [], pre, T, T', σ, σ', ρ, ρ0, w, a, _, h, le, hr, ht, hd, _ => by
    simp only [runOps, Option.some.injEq, Prod.mk.injEq] at h
    obtain ⟨rfl, rfl⟩ := h
    exact ⟨rfl, ρ, le, hr, ht, hd⟩
  | o :: l, pre, T, T', σ, σ', ρ, ρ0, w, a, hl, h, le, hr, ht, hd, hG => by
    obtain ⟨v, σ1, T1, h1, h2, h3⟩ := runOps_cons h
    have ho : ops[pre.length]? = some o := by
      rw [← Array.getElem?_toList, ← hl]; simp
    simp only [List.length_cons, List.range'_succ, wpOpsIn, ho]
    refine evalE_sound hE hgo h1 hr ht hG ?_
    rintro x w' ⟨ρ', l1, l2, l3⟩
    have hpre : (pre ++ [o]) ++ l = ops.toList := by rw [List.append_assoc]; exact hl
    have := runOps_sound hE hgo (D := D) (r := r) hpre h3 (le.trans l1) l2 (putA_sound h2 (ht.mono l1) l3) (by rw [put_defers]; exact hd.mono l1) (hG.mono l1)
    simpa using this

end
end Go.Det
