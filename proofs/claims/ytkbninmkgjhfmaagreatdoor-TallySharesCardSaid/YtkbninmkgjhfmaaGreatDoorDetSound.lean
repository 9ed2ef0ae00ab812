/- Calls, rounds, code: what the evaluator does stands for what the model does, whatever the tape and the heap. Conditions: none beyond those of each theorem. -/
import Derived.Test.YtkbninmkgjhfmaaGreatDoorDetOps10
set_option maxHeartbeats 400000
namespace Go.Det
open Go
section
variable {B : Nat → Prop} {w0 w : World} {ρ : Rho} {σ σ' : AS}

def FW (r : Option Nat) : Fence := { fn := fun _ => True, depth := none, alive := false, round := r }
theorem FW_room (r : Option Nat) (n : Nat) : (FW r).room n := fun _ h => by simp [FW] at h
theorem FW_depth (r : Option Nat) : (FW r).depth.isSome = true → 1 ≤ 0 := fun h => by simp [FW] at h

/-- What the evaluator says stands in the world. -/
def Post (B : Nat → Prop) (w0 : World) (ρ : Rho) (v : AV) (σ' : AS) (x : Value) (w' : World) : Prop := ∃ ρ', ρ.Le ρ' ∧ Rel B w0 ρ' σ' w' ∧ conc ρ' v = some x

/-- An operation of the model comes to a value, at once, through a call, or through a round. -/
def NR (F : Fence) (P : Program) (s : Sem Next) (w : World) (R : Value → World → Prop) : Prop :=
  (∃ x w', (s.run P w = .ok (.value x) w' ∨ (s.run P w = .ok .skip w' ∧ x = undef)) ∧ R x w') ∨
  (∃ f args w', s.run P w = .ok (.enter f args) w' ∧ CallsIn F 0 P f args w' fun e w'' => ∃ x, e = .returned x ∧ R x w'') ∨
  (∃ l f tmps as bd w', s.run P w = .ok (.round l f tmps as bd) w' ∧ RoundIn F 0 P l f tmps as bd w' fun e w'' => ∃ x, e = .returned x ∧ R x w'')

theorem NR.upon {r : Option Nat} {P : Program} {s : Sem Next} {R : Value → World → Prop} {o : Oper} {a : Act} {next : Act → World → Prop} {Q : Exit → Act → World → Prop}
    (h : NR (FW r) P s w R) (k : ∀ x w', R x w' → next (a.put o.dst x) w') : o.uponIn (FW r) 0 P a next Q (s.run P w) := by
  rcases h with ⟨x, w', h1, h2⟩ | ⟨f, args, w', h1, h2⟩ | ⟨l, f, tmps, as, bd, w', h1, h2⟩
  · rcases h1 with h1 | ⟨h1, rfl⟩
    · rw [h1]; exact k _ _ h2
    · rw [h1]; exact k _ _ h2
  · rw [h1]
    refine ⟨FW_depth r, h2.mono ?_⟩
    rintro e w'' ⟨x, rfl, hR⟩
    exact k _ _ hR
  · rw [h1]
    refine ⟨FW_depth r, h2.mono ?_⟩
    rintro e w'' ⟨x, rfl, hR⟩
    exact k _ _ hR

theorem NR.mono {F : Fence} {P : Program} {s : Sem Next} {R R' : Value → World → Prop} (h : NR F P s w R) (k : ∀ x w', R x w' → R' x w') : NR F P s w R' := by
  rcases h with ⟨x, w', h1, h2⟩ | ⟨f, args, w', h1, h2⟩ | ⟨l, f, tmps, as, bd, w', h1, h2⟩
  · exact .inl ⟨x, w', h1, k _ _ h2⟩
  · exact .inr (.inl ⟨f, args, w', h1, h2.mono fun e w'' ⟨x, e1, e2⟩ => ⟨x, e1, k _ _ e2⟩⟩)
  · exact .inr (.inr ⟨l, f, tmps, as, bd, w', h1, h2.mono fun e w'' ⟨x, e1, e2⟩ => ⟨x, e1, k _ _ e2⟩⟩)

/-- A function taken by a contract. -/
def HookOK (E : Env) (f : FuncId) (h : Hook) : Prop :=
  ∀ (B : Nat → Prop) (w0 w : World) (ρ : Rho) (σ σ' : AS) (r : Option Nat) (args : List AV) (xs : List Value) (v : AV), h args σ = some (v, σ') → Rel B w0 ρ σ w → GR ρ E.G → concL ρ args = some xs →
    NR (FW r) E.P (callFunc f xs.toArray) w (Post B w0 ρ v σ')

structure EnvOK (E : Env) : Prop where
  name : ∀ (f : FuncId) (fn : Func), E.P.funcs[f]? = some fn → fn.body.isSome = true → (fn.name == "runtime.NumGoroutine") = false
  hook : ∀ f h, E.hooks f = some h → HookOK E f h

def concX : AX → Exit
  | .normal => .normal
  | .exit id => .exit id
  | .ret => .ret

def DR (ρ : Rho) : List Nat → List Deferred → Prop
  | [], [] => True
  | d :: D, x :: ds => (∃ r N, ρ d = some (r, N) ∧ x = { target := .collected r, args := #[] }) ∧ DR ρ D ds
  | _, _ => False

theorem DR.mono {ρ' : Rho} (le : ρ.Le ρ') : ∀ {D : List Nat} {ds : List Deferred}, DR ρ D ds → DR ρ' D ds
  | [], [], _ => trivial
  | _ :: _, _ :: _, ⟨⟨r, N, h1, h2⟩, h3⟩ => ⟨⟨r, N, le _ _ h1, h2⟩, DR.mono le h3⟩
  | [], _ :: _, h => h.elim
  | _ :: _, [], h => h.elim

theorem DR.append : ∀ {D D' : List Nat} {ds ds' : List Deferred}, DR ρ D ds → DR ρ D' ds' → DR ρ (D ++ D') (ds ++ ds')
  | [], _, [], _, _, k => k
  | _ :: _, _, _ :: _, _, ⟨h1, h2⟩, k => ⟨h1, DR.append h2 k⟩
  | [], _, _ :: _, _, h, _ => h.elim
  | _ :: _, _, [], _, h, _ => h.elim

def RdR (ρ : Rho) : Option Nat → Option Nat → Prop
  | none, none => True
  | some l, some l' => ∃ N, ρ l = some (l', N)
  | _, _ => False

theorem RdR.mono {ρ' : Rho} (le : ρ.Le ρ') {a b : Option Nat} (h : RdR ρ a b) : RdR ρ' a b := by
  cases a <;> cases b <;> first | exact h | exact h.elim | skip
  obtain ⟨N, h⟩ := h
  exact ⟨N, le _ _ h⟩

def PostX (B : Nat → Prop) (w0 : World) (ρ : Rho) (x : AX) (T : Tm) (D : List Nat) (σ : AS) : Exit → Act → World → Prop := fun e a w =>
  e = concX x ∧ ∃ ρ', ρ.Le ρ' ∧ Rel B w0 ρ' σ w ∧ TRel ρ' T a.tmps ∧ DR ρ' D a.defers

theorem PostX.mono {ρ' : Rho} {x : AX} {T : Tm} {D : List Nat} {e : Exit} {a : Act} (le : ρ.Le ρ') (h : PostX B w0 ρ' x T D σ e a w) : PostX B w0 ρ x T D σ e a w :=
  let ⟨h1, ρ2, h2, h3⟩ := h; ⟨h1, ρ2, le.trans h2, h3⟩

/-- From a loop's head, the first round being over. -/
def LoopIn (F : Fence) (P : Program) (c : Code) (Q : Exit → Act → World → Prop) (a : Act) (w : World) : Prop :=
  ∀ (b : Frame) (k : List Item) (cs : List Frame), b.roundOf = F.round → F.fn b.fn → F.room (cs.length + 1 + 0) →
    ∃ e a' w', Q e a' w' ∧ ArrivesIn (Machine.fenced P F) P (lone (b.atR a (.inLoop c :: k)) cs w) b k cs e a' w'

theorem loop_body {F : Fence} {P : Program} {c : Code} {Q : Exit → Act → World → Prop} {a : Act} (h : c.wpIn F 0 P (Exit.then (fun a' w' => LoopIn F P c Q a' w') Q) a w) (b : Frame) (k : List Item) (cs : List Frame)
    (hro : b.roundOf = F.round) (hb : F.fn b.fn) (hr : F.room (cs.length + 1 + 0)) :
    ∃ e a' w', Q e a' w' ∧ ArrivesIn (Machine.fenced P F) P (lone (b.atR a (.code c :: .inLoop c :: k)) cs w) b k cs e a' w' := by
  obtain ⟨e, a₁, w₁, hq, harr⟩ := h b (.inLoop c :: k) cs hro hb hr
  cases e with
  | normal =>
    obtain ⟨e₂, a₂, w₂, hq₂, harr₂⟩ := hq b k cs hro hb hr
    exact ⟨e₂, a₂, w₂, hq₂, .of_steps harr harr₂⟩
  | exit id => exact ⟨_, a₁, w₁, hq, .pass (x := .inLoop c) rfl (fun _ _ => .inl (by simp)) harr⟩
  | goto l => exact ⟨_, a₁, w₁, hq, .pass (x := .inLoop c) rfl (fun _ _ => .inl (by simp)) harr⟩
  | ret => exact ⟨_, a₁, w₁, hq, .pass (x := .inLoop c) rfl (fun _ _ => .inl (by simp)) harr⟩
  | panic ch => exact ⟨_, a₁, w₁, hq, .pass (x := .inLoop c) rfl (fun _ _ => .inl (by simp)) harr⟩
  | outgrown => exact ⟨_, a₁, w₁, hq, .pass (x := .inLoop c) rfl (fun _ _ => .inl (by simp)) harr⟩

theorem loop_start {F : Fence} {P : Program} {c : Code} {Q : Exit → Act → World → Prop} {a : Act} (h : c.wpIn F 0 P (Exit.then (fun a' w' => LoopIn F P c Q a' w') Q) a w) : (Code.loop c).wpIn F 0 P Q a w := by
  intro b k cs hro hb hr
  obtain ⟨e, a', w', hq, harr⟩ := loop_body h b k cs hro hb hr
  exact ⟨e, a', w', hq, .of_steps (.one (fenced_calm hb hr rfl) stepR_loop) harr⟩

theorem loop_again {F : Fence} {P : Program} {c : Code} {Q : Exit → Act → World → Prop} {a : Act} (h : c.wpIn F 0 P (Exit.then (fun a' w' => LoopIn F P c Q a' w') Q) a w) : LoopIn F P c Q a w := by
  intro b k cs hro hb hr
  obtain ⟨e, a', w', hq, harr⟩ := loop_body h b k cs hro hb hr
  exact ⟨e, a', w', hq, .of_steps (.one (fenced_calm hb hr rfl) stepR_inLoop) harr⟩

theorem LoopIn.mono {F : Fence} {P : Program} {c : Code} {Q Q' : Exit → Act → World → Prop} {a : Act} (h : LoopIn F P c Q a w) (k : ∀ e a w, Q e a w → Q' e a w) : LoopIn F P c Q' a w :=
  fun b kk cs hro hb hr => let ⟨e, a', w', q, r⟩ := h b kk cs hro hb hr; ⟨e, a', w', k _ _ _ q, r⟩

/-- The evaluator at code is sound. -/
def Snd (E : Env) (go : ExecT) : Prop :=
  ∀ (B : Nat → Prop) (w0 w : World) (ρ : Rho) (σ σ' : AS) (rd rdc : Option Nat) (c : Code) (T T' : Tm) (D D' : List Nat) (x : AX) (a : Act), go rd c T D σ = some (x, T', D', σ') →
    Rel B w0 ρ σ w → TRel ρ T a.tmps → DR ρ D a.defers → GR ρ E.G → RdR ρ rd rdc →
    c.wpIn (FW rdc) 0 E.P (PostX B w0 ρ x T' D' σ') a w ∧ (∀ b, c = .loop b → LoopIn (FW rdc) E.P b (PostX B w0 ρ x T' D' σ') a w)

/-! ### Calls -/
theorem TRel.args : ∀ {args : List AV} {xs : List Value} {i : Nat} {T T' : Tm} {pre : List Value} {n : Nat}, Tm.ofArgs i args T = some T' → concL ρ args = some xs → pre.length = i →
    TRel ρ T (pre ++ List.replicate n undef).toArray → args.length ≤ n → TRel ρ T' (pre ++ xs ++ List.replicate (n - xs.length) undef).toArray
  | [], xs, i, T, T', pre, n, h, hx, _, ht, _ => by
    simp only [Tm.ofArgs, Option.some.injEq] at h
    simp only [concL, Option.some.injEq] at hx
    subst h; subst hx
    simpa using ht
  | v :: r, xs, i, T, T', pre, n, h, hx, hp, ht, hn => by
    obtain ⟨x, ys, h1, h2, rfl⟩ := concL_cons hx
    simp only [Tm.ofArgs] at h
    cases e : T.set i v with
    | none => rw [e] at h; cases h
    | some T1 =>
      rw [e] at h
      simp only [Option.bind_some] at h
      obtain ⟨m, rfl⟩ : ∃ m, n = m + 1 := ⟨n - 1, by simp at hn; omega⟩
      have hs := ht.set e h1
      have harr : ((pre ++ List.replicate (m + 1) undef).toArray.setIfInBounds i x) = ((pre ++ [x]) ++ List.replicate m undef).toArray := by
        apply Array.toList_inj.1
        rw [Array.toList_setIfInBounds, List.replicate_succ]
        rw [List.set_append_right _ _ (by omega), hp, Nat.sub_self, List.set_cons_zero]
        simp
      rw [harr] at hs
      have := TRel.args (i := i + 1) (pre := pre ++ [x]) h h2 (by simp [hp]) hs (by simp at hn; omega)
      simpa using this

theorem TRel.empty (n : Nat) : TRel ρ ⟨n, .nil⟩ (List.replicate n undef).toArray := by
  refine ⟨by simp, fun t _ => ?_⟩
  have h1 : Tm.get ⟨n, .nil⟩ t = AV.undef := by simp [Tm.get, PT.get_nil]
  rw [h1, conc_undef]
  by_cases h : t < n <;> simp [Array.getD_eq_getD_getElem?, h]

theorem leave_sound {P : Program} {fn : Func} {R : Ending → World → Prop} {tmps : Array Value} : ∀ {D : List Nat} {ds : List Deferred} {σ σ' : AS} {w : World} {r : Option Nat},
    leaveA D σ = some σ' → DR ρ D ds → Rel B w0 ρ σ w → (∀ w', Rel B w0 ρ σ' w' → ∃ v, (results fn tmps).run P w' = .ok v w' ∧ R (.returned v) w') → LeavesInM (FW r) 0 P fn tmps R ds .returning w
  | [], [], σ, σ', w, r, h, _, hr, k => by
    simp only [leaveA, Option.some.injEq] at h
    subst h
    exact k w hr
  | d :: D, x :: ds, σ, σ', w, r, h, ⟨⟨b, N, hb, hx⟩, hd⟩, hr, k => by
    subst hx
    simp only [leaveA] at h
    cases hg : σ.get d with
    | none => rw [hg] at h; cases h
    | some ob =>
      cases ob with
      | deferred q =>
        cases q with
        | false => rw [hg] at h; cases h
        | true =>
          rw [hg] at h
          simp only at h
          obtain ⟨ob, h1, h2, _⟩ := hr.objs d _ hg b N hb
          cases ob with
          | deferred c =>
            obtain rfl : c = some [] := h2
            have hput := hr.putObj (o' := .deferred false) (ob' := .deferred none) hg hb rfl rfl
            exact ⟨by simp, .inl ⟨b, _, rfl, run_takeDeferred h1, leave_sound h hd hput k⟩⟩
          | _ => exact h2.elim
      | _ => rw [hg] at h; cases h
  | [], _ :: _, _, _, _, _, _, h, _, _ => h.elim
  | _ :: _, [], _, _, _, _, _, h, _, _ => h.elim

end
end Go.Det
