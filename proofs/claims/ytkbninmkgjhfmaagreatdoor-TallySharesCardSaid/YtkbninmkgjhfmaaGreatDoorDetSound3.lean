/- Rounds, operations, code: what the evaluator does stands for what the model does, whatever the tape and the heap. Conditions: none beyond those of each theorem. -/
import Derived.Test.YtkbninmkgjhfmaaGreatDoorDetSound2
set_option maxHeartbeats 400000
namespace Go.Det
open Go
section
variable {B : Nat → Prop} {w0 w : World} {ρ : Rho} {σ σ' : AS} {E : Env} {go : ExecT}

theorem setL_sound : ∀ {ps : List Tmp} {args : List AV} {xs : List Value} {T T' : Tm} {tmps : Array Value}, setL T (ps.zip args) = some T' → concL ρ args = some xs → TRel ρ T tmps →
    TRel ρ T' ((ps.zip xs).foldl (fun tmps (t, a) => tmps.setIfInBounds t a) tmps)
  | [], args, xs, T, T', tmps, h, _, ht => by simp only [List.zip_nil_left, setL, Option.some.injEq] at h; subst h; simpa using ht
  | p :: ps, [], xs, T, T', tmps, h, hx, ht => by
    simp only [concL, Option.some.injEq] at hx
    subst hx
    simp only [List.zip_nil_right, setL, Option.some.injEq] at h; subst h; simpa using ht
  | p :: ps, v :: args, xs, T, T', tmps, h, hx, ht => by
    obtain ⟨x, ys, h1, h2, rfl⟩ := concL_cons hx
    simp only [List.zip_cons_cons, setL] at h
    cases e : T.set p v with
    | none => rw [e] at h; cases h
    | some T1 =>
      rw [e] at h
      simp only [Option.bind_some] at h
      simpa using setL_sound h h2 (ht.set e h1)

theorem Rel.loop {l b N : Nat} {st : LoopState} {pd : Option Code} {T : Tm} {ps : Array Tmp} {as bd : Code} {d : Nat} (hr : Rel B w0 ρ σ w) (hg : σ.get l = some (.loop st pd T ps as bd d)) (hb : ρ l = some (b, N)) :
    ∃ r, w.heap[b]? = some (.loop r) ∧ r.state = st ∧ r.pending = pd ∧ TRel ρ T r.tmps ∧ r.params = ps ∧ r.assign = as ∧ r.body = bd ∧ ∃ N, ρ d = some (r.defers, N) := by
  obtain ⟨ob, h1, h2, _⟩ := hr.objs l _ hg b N hb
  cases ob with
  | loop r => exact ⟨r, h1, h2⟩
  | _ => exact h2.elim

theorem round_sound (hgo : Snd E go) {l b N : Nat} {args : List AV} {xs : List Value} {v : AV} {r : Option Nat} (h : roundA go l args σ = some (v, σ')) (hr : Rel B w0 ρ σ w) (hG : GR ρ E.G)
    (hb : ρ l = some (b, N)) (hx : concL ρ args = some xs) : NR (FW r) E.P (Instr.yield b xs.toArray) w (Post B w0 ρ v σ') := by
  unfold roundA at h
  cases hg : σ.get l with
  | none => rw [hg] at h; cases h
  | some ob =>
    cases ob with
    | loop st pd T ps as bd d =>
      cases st <;> rw [hg] at h <;> simp only [reduceCtorEq] at h
      cases hc : Nat.beq args.length ps.size with
      | false => rw [hc] at h; cases h
      | true =>
        rw [hc] at h
        simp only [cond] at h
        cases hT : setL T (ps.toList.zip args) with
        | none => rw [hT] at h; cases h
        | some T1 =>
          rw [hT] at h
          simp only [Option.bind_some] at h
          obtain ⟨lr, k1, k2, k3, k4, k5, k6, k7, k8⟩ := hr.loop hg hb
          have hlen := concL_length hx
          have ht1 := setL_sound hT hx k4
          have hy := run_yield (P := E.P) (args := xs.toArray) k1 (by rw [k5]; simp [hlen, beq_eq hc])
          have hzip : ((lr.params.zip xs.toArray).foldl (fun tmps (t, a) => tmps.setIfInBounds t a) lr.tmps) = ((ps.toList.zip xs).foldl (fun tmps (t, a) => tmps.setIfInBounds t a) lr.tmps) := by
            rw [k5, ← Array.foldl_toList, Array.toList_zip]
          rw [hzip, k6, k7] at hy
          refine .inr (.inr ⟨b, lr.fn, _, as, bd, w, hy, ?_⟩)
          refine roundIn_of_wpIn trivial ?_
          cases hga : go (some l) as T1 [] σ with
          | none => rw [hga] at h; cases h
          | some q =>
            obtain ⟨x1, T2, D1, σ1⟩ := q
            rw [hga] at h
            cases x1
            rotate_left
            · cases h
            · cases h
            cases D1 with
            | cons _ _ => cases h
            | nil =>
            simp only at h
            have hw1 := (hgo B w0 w ρ σ σ1 (some l) (some b) as T1 T2 [] [] .normal { tmps := (ps.toList.zip xs).foldl (fun tmps (t, a) => tmps.setIfInBounds t a) lr.tmps, defers := [] } hga hr ht1 trivial hG ⟨N, hb⟩).1
            refine wpIn_mono hw1 ?_
            rintro e a1 w1 ⟨rfl, ρ1, l1, l2, l3, l4⟩
            show ∃ w₂, _
            cases hg1 : σ1.get l with
            | none => rw [hg1] at h; cases h
            | some ob1 =>
              cases ob1 with
              | loop st' pd' T' ps' as' bd' d' =>
                cases st' <;> rw [hg1] at h <;> simp only [reduceCtorEq] at h
                obtain ⟨lr1, m1, m2, m3, m4, m5, m6, m7, m8⟩ := l2.loop hg1 (l1 _ _ hb)
                have hbr := run_beginRound (P := E.P) m1 m2
                refine ⟨_, hbr, ?_⟩
                have hrel2 := l2.putObj (o' := .loop .busy pd' T' ps' as' bd' d') (ob' := .loop { lr1 with state := .busy }) hg1 (l1 _ _ hb) rfl ⟨rfl, m3, m4, m5, m6, m7, m8⟩
                cases hgb : go (some l) bd T2 [] (σ1.put l (some (.loop .busy pd' T' ps' as' bd' d'))) with
                | none => rw [hgb] at h; cases h
                | some q2 =>
                  obtain ⟨x2, T3, D2, σ2⟩ := q2
                  rw [hgb] at h
                  cases D2 with
                  | cons _ _ => cases h
                  | nil =>
                  simp only at h
                  have hw2 := (hgo B w0 _ ρ1 _ σ2 (some l) (some b) bd T2 T3 [] [] x2 a1 hgb hrel2 l3 l4 (hG.mono l1) ⟨N, l1 _ _ hb⟩).1
                  refine wpIn_mono hw2 ?_
                  rintro e2 a2 w2 ⟨rfl, ρ2, n1, n2, n3, n4⟩
                  cases hg2 : σ2.get l with
                  | none => rw [hg2] at h; cases h
                  | some ob2 =>
                    cases ob2 with
                    | loop st'' pd'' T'' ps'' as'' bd'' d'' =>
                      rw [hg2] at h
                      simp only at h
                      have hb2 := n1 _ _ (l1 _ _ hb)
                      obtain ⟨lr2, o1, o2, o3, o4, o5, o6, o7, o8⟩ := n2.loop hg2 hb2
                      have fin : ∀ (jump : Option Code) (st3 : LoopState), (if jump.isNone then LoopState.ready else .done) = st3 → v = .bool jump.isNone → σ' = σ2.put l (some (.loop st3 jump T'' ps'' as'' bd'' d'')) →
                          ∃ y w', (Instr.endRound b jump).run E.P w2 = .ok y w' ∧ ∃ x, Ending.returned y = .returned x ∧ Post B w0 ρ v σ' x w' := by
                        intro jump st3 hst hv hσ
                        refine ⟨_, _, run_endRound (P := E.P) jump o1, _, rfl, ρ2, (l1.trans n1), ?_, by rw [hv]; rfl⟩
                        rw [hσ]
                        exact n2.putObj (o' := .loop st3 jump T'' ps'' as'' bd'' d'') (ob' := .loop { lr2 with state := if jump.isNone then .ready else .done, pending := jump }) hg2 hb2 rfl ⟨hst, rfl, o4, o5, o6, o7, o8⟩
                      cases x2 with
                      | normal =>
                        simp only [Option.some.injEq, Prod.mk.injEq] at h
                        exact fin none .ready rfl h.1.symm h.2.symm
                      | ret =>
                        simp only [Option.some.injEq, Prod.mk.injEq] at h
                        exact fin (some .ret) .done rfl h.1.symm h.2.symm
                      | exit id =>
                        simp only [Option.some.injEq, Prod.mk.injEq] at h
                        exact fin (some (.exit id)) .done rfl h.1.symm h.2.symm
                    | _ => rw [hg2] at h; cases h
              | _ => rw [hg1] at h; cases h
    | _ => rw [hg] at h; cases h

theorem method_sound {P : Program} {t : TypeId} {v : AV} {V : Value} {name : String} {p : FuncId × AV} (h : methodA P t v name = some p) (hv : conc ρ v = some V) (w : World) :
    ∃ R, conc ρ p.2 = some R ∧ (method (P.types.size + Made.depth) t V name).run P w = .ok (p.1, R) w := by
  have hd : P.types.size + Made.depth = (P.types.size + 99) + 1 := rfl
  rw [hd]
  unfold methodA at h
  cases hi : P.info? t with
  | none => rw [hi] at h; cases h
  | some i =>
    rw [hi] at h
    simp only at h
    cases hm : i.methods.find? (·.name == name) with
    | none => rw [hm] at h; cases h
    | some m =>
      rw [hm] at h
      simp only at h
      cases hp : m.path.isEmpty with
      | false => rw [hp] at h; cases h
      | true =>
        rw [hp] at h
        simp only [cond] at h
        have hpe : m.path.toList = [] := by
          have : m.path = #[] := by simpa [Array.isEmpty] using hp
          rw [this]
        cases hfn : m.func with
        | none => rw [hfn] at h; cases h
        | some q =>
          obtain ⟨f, b⟩ := q
          rw [hfn] at h
          cases b with
          | true =>
            simp only at h
            cases hu : P.underlying t with
            | none => rw [hu] at h; cases h
            | some d =>
              rw [hu] at h
              cases d <;> simp only [reduceCtorEq] at h
              cases h
              refine ⟨V, hv, ?_⟩
              unfold method
              simp only [Sem.run_bind, run_typeInfo' hi, Result.andThen_ok, hm, hpe, follow, Sem.run_pure, hfn, receiverAt, run_underlying hu, Place.get]
          | false =>
            simp only at h
            cases hu : P.underlying t with
            | none => rw [hu] at h; cases h
            | some d =>
              rw [hu] at h
              have hnp : ∀ e, d ≠ .pointer e := fun e he => by subst he; cases h
              have hp' : p = (f, v) := by cases d <;> first | (exact (Option.some.inj h).symm) | (cases h)
              subst hp'
              refine ⟨V, hv, ?_⟩
              unfold method
              simp only [Sem.run_bind, run_typeInfo' hi, Result.andThen_ok, hm, hpe, follow, Sem.run_pure, hfn, receiverAt, run_underlying hu]
              cases d <;> first | rfl | exact absurd rfl (hnp _)

theorem NR.bind {F : Fence} {P : Program} {α : Type} {s : Sem α} {f : α → Sem Next} {x : α} {R : Value → World → Prop} (hs : s.run P w = .ok x w) (h : NR F P (f x) w R) : NR F P (s >>= f) w R := by
  have e : (s >>= f).run P w = (f x).run P w := by simp [hs]
  rcases h with ⟨y, w', h1, h2⟩ | ⟨g, args, w', h1, h2⟩ | ⟨l, g, tmps, as, bd, w', h1, h2⟩
  · exact .inl ⟨y, w', by rw [e]; exact h1, h2⟩
  · exact .inr (.inl ⟨g, args, w', by rw [e]; exact h1, h2⟩)
  · exact .inr (.inr ⟨l, g, tmps, as, bd, w', by rw [e]; exact h1, h2⟩)

theorem callM_sound (hE : EnvOK E) (hgo : Snd E go) {t : TypeId} {x v : AV} {X : Value} {name : String} {p : FuncId × AV} {args : List AV} {xs : List Value} {r : Option Nat} (hm : methodA E.P t x name = some p)
    (h : callF E go p.1 (p.2 :: args) σ = some (v, σ')) (hr : Rel B w0 ρ σ w) (hG : GR ρ E.G) (hx : conc ρ x = some X) (hxs : concL ρ args = some xs) :
    NR (FW r) E.P (callMethod (.iface t X) name xs.toArray) w (Post B w0 ρ v σ') := by
  obtain ⟨R, h1, h2⟩ := method_sound hm hx w
  have := callF_sound (r := r) hE hgo h hr hG (concL_mk h1 hxs)
  simp only [callMethod]
  refine NR.bind (x := E.P) (by simp) ?_
  refine NR.bind (x := (p.1, R)) h2 ?_
  have harr : (#[R] ++ xs.toArray) = (R :: xs).toArray := by simp
  rw [harr]
  exact this

theorem invoke_method (name : String) (bs : Array Value) (t : TypeId) (X : Value) (L : List Value) : invoke (.fn (.method name) bs) (Value.iface t X :: L).toArray = callMethod (.iface t X) name L.toArray := by
  simp [invoke]

theorem callV_sound (hE : EnvOK E) (hgo : Snd E go) {f v : AV} {F : Value} {args : List AV} {xs : List Value} {r : Option Nat} (h : callV E go f args σ = some (v, σ')) (hr : Rel B w0 ρ σ w) (hG : GR ρ E.G)
    (hf : conc ρ f = some F) (hx : concL ρ args = some xs) : NR (FW r) E.P (do let d ← Deferred.ofValue F xs.toArray; invoke d.target d.args) w (Post B w0 ρ v σ') := by
  unfold callV at h
  split at h
  · rename_i g fi ca
    obtain ⟨fn, as, bs, h1, h2, h3, rfl⟩ := conc_func hf
    simp only [concFn, Option.some.injEq] at h1
    subst h1
    refine NR.bind (x := { target := .fn (.func g) bs.toArray, args := as.toArray ++ xs.toArray }) rfl ?_
    have := callF_sound (r := r) hE hgo h hr hG (concL_append (concL_append h2 hx) h3)
    have harr : (as ++ xs ++ bs).toArray = as.toArray ++ xs.toArray ++ bs.toArray := by simp
    rw [harr] at this
    exact this
  · rename_i l fi ca
    obtain ⟨fn, as, bs, h1, h2, h3, rfl⟩ := conc_func hf
    simp only [concFn] at h1
    cases hl : ρ l with
    | none => rw [hl] at h1; cases h1
    | some q =>
      rw [hl] at h1
      simp only [Option.map_some, Option.some.injEq] at h1
      subst h1
      refine NR.bind (x := { target := .fn (.yield q.1) bs.toArray, args := as.toArray ++ xs.toArray }) rfl ?_
      have := round_sound (r := r) hgo h hr hG hl (concL_append h2 hx)
      have harr : (as ++ xs).toArray = as.toArray ++ xs.toArray := by simp
      rw [harr] at this
      exact this
  · rename_i name fi ca
    split at h
    · rename_i t x rest hfa
      cases hm : methodA E.P t x name with
      | none => rw [hm] at h; cases h
      | some p =>
        rw [hm] at h
        simp only [Option.bind_some] at h
        obtain ⟨fn, as, bs, h1, h2, h3, rfl⟩ := conc_func hf
        simp only [concFn, Option.some.injEq] at h1
        subst h1
        have happ := concL_append h2 hx
        rw [hfa] at happ
        obtain ⟨Y, zs, y1, y2, y3⟩ := concL_cons happ
        obtain ⟨X, x1, rfl⟩ := conc_iface y1
        refine NR.bind (x := { target := .fn (.method name) bs.toArray, args := as.toArray ++ xs.toArray }) rfl ?_
        have := callM_sound (r := r) hE hgo hm h hr hG x1 y2
        have harr : as.toArray ++ xs.toArray = (Value.iface t X :: zs).toArray := by rw [← y3]; simp
        rw [harr]
        have e : invoke (.fn (.method name) bs.toArray) (Value.iface t X :: zs).toArray = callMethod (.iface t X) name zs.toArray := by
          simp [invoke]
        show NR _ _ (invoke (.fn (.method name) bs.toArray) (Value.iface t X :: zs).toArray) _ _
        rw [e]
        exact this
    · cases h
  · cases h

theorem opStep_sound (hE : EnvOK E) (hgo : Snd E go) {T : Tm} {o : Oper} {v : AV} {a : Act} {r : Option Nat} (h : opStep E go T σ o = some (v, σ')) (hr : Rel B w0 ρ σ w) (ht : TRel ρ T a.tmps) (hG : GR ρ E.G) :
    NR (FW r) E.P (o.semAt (FW r).round a.eval) w (Post B w0 ρ v σ') := by
  have hnd : ∀ c, o.op ≠ .defer c := fun c e => by unfold opStep at h; rw [e] at h; simp [opA] at h
  rw [Oper.semAt_eq _ _ _ hnd]
  obtain ⟨dst, op, ty, pos, after, guard⟩ := o
  have plain : opA E.P E.G T σ op = some (v, σ') → NR (FW r) E.P (execOp a.eval { dst, op, type := ty, pos, after, guard }) w (Post B w0 ρ v σ') := fun h' => by
    obtain ⟨x, w', ρ', h1, h2, h3, h4⟩ := opA_sound (a := a) (o := { dst, op, type := ty, pos, after, guard }) h' hr ht hG
    exact .inl ⟨x, w', h1, ρ', h2, h3, h4⟩
  cases op
  case call c =>
    obtain ⟨callee, args, argTypes⟩ := c
    cases callee
    case builtin b => exact plain h
    case value f =>
      simp only [opStep] at h
      cases ef : aeval T E.G f with
      | none => rw [ef] at h; cases h
      | some fv =>
        rw [ef] at h
        simp only [Option.bind_some] at h
        cases ea : aevalL T E.G args.toList with
        | none => rw [ea] at h; cases h
        | some l =>
          rw [ea] at h
          simp only [Option.bind_some] at h
          have := callV_sound (r := r) hE hgo h hr hG (aeval_sound ef ht hG) (aevalL_sound ea ht hG)
          have harr : (args.toList.map a.eval).toArray = args.map a.eval := by apply Array.toList_inj.1; simp
          rw [harr] at this
          exact this
    case invoke rv name =>
      simp only [opStep] at h
      cases ef : aeval T E.G rv with
      | none => rw [ef] at h; cases h
      | some fv =>
        rw [ef] at h
        simp only [Option.bind_some] at h
        cases ea : aevalL T E.G args.toList with
        | none => rw [ea] at h; cases h
        | some l =>
          rw [ea] at h
          simp only [Option.bind_some] at h
          split at h
          · rename_i t x
            cases hm : methodA E.P t x name with
            | none => rw [hm] at h; cases h
            | some p =>
              rw [hm] at h
              simp only [Option.bind_some] at h
              obtain ⟨X, x1, hX⟩ := conc_iface (aeval_sound ef ht hG)
              have := callM_sound (r := r) hE hgo hm h hr hG x1 (aevalL_sound ea ht hG)
              have harr : (args.toList.map a.eval).toArray = args.map a.eval := by apply Array.toList_inj.1; simp
              rw [harr] at this
              simp only [execOp]
              refine NR.bind (x := { target := .fn (.method name) #[], args := #[a.eval rv] ++ args.map a.eval }) rfl ?_
              rw [hX]
              have e0 : #[Value.iface t X] ++ args.map a.eval = (Value.iface t X :: args.toList.map a.eval).toArray := by apply Array.toList_inj.1; simp
              have e := invoke_method name #[] t X (args.toList.map a.eval)
              show NR _ _ (invoke (.fn (.method name) #[]) (#[Value.iface t X] ++ args.map a.eval)) _ _
              rw [e0, e, harr]
              exact this
          · cases h
  all_goals exact plain h
end
end Go.Det
