/- Each operation that is no call of a Go function: what the evaluator does stands for what the model does. Conditions: none. -/
import Derived.Test.YtkbninmkgjhfmaaGreatDoorDetOps9
set_option maxHeartbeats 4000000
namespace Go.Det
open Go
section
variable {P : Program} {B : Nat → Prop} {w0 w : World} {ρ : Rho} {σ σ' : AS}

theorem OpR.ofV {s : Sem Next} {s' : Sem Value} {v : AV} (h : VR P B w0 s' ρ w v σ') (e : s = (do Pure.pure (Next.value (← s')))) : OpR P B w0 s ρ w v σ' := by subst e; exact h.op

theorem OpR.ofU {s : Sem Next} {s' : Sem Unit} {w' : World} (h : s'.run P w = .ok () w') (hr : Rel B w0 ρ σ' w') (e : s = (do s'; Pure.pure Next.skip)) : OpR P B w0 s ρ w AV.undef σ' := by
  subst e
  exact ⟨undef, w', ρ, .inr ⟨by simp [h], rfl⟩, .refl ρ, hr, rfl⟩

theorem OpR.val {s : Sem Next} {v : AV} {x : Value} (h : s = Pure.pure (Next.value x)) (hr : Rel B w0 ρ σ w) (hv : conc ρ v = some x) : OpR P B w0 s ρ w v σ := by
  subst h
  exact ⟨x, w, ρ, .inl rfl, .refl ρ, hr, hv⟩

theorem opt_sound {T : Tm} {G : Nat} {a : Act} (ht : TRel ρ T a.tmps) (hg : GR ρ G) {x : Option Operand} {v : Option AV} (h : optA T G x = some v) : OptR ρ v (x.map a.eval) := by
  cases x with
  | none => simp only [optA, Option.some.injEq] at h; subst h; trivial
  | some y =>
    simp only [optA] at h
    cases e : aeval T G y with
    | none => rw [e] at h; cases h
    | some u => rw [e] at h; simp only [Option.map_some, Option.some.injEq] at h; subst h; exact aeval_sound e ht hg

theorem ahead_sound {t : TypeId} {name : String} (h : aheadA P t name = true) (v : Value) (w : World) : (nilAhead (P.types.size + Made.depth) t v name).run P w = .ok (some false) w := by
  have hd : P.types.size + Made.depth = (P.types.size + 99) + 1 := rfl
  rw [hd]
  unfold aheadA at h
  cases hi : P.info? t with
  | none => rw [hi] at h; cases h
  | some i =>
    rw [hi] at h
    simp only at h
    cases hm : i.methods.find? (·.name == name) with
    | none => rw [hm] at h; cases h
    | some m =>
      rw [hm] at h
      simp only [Bool.and_eq_true] at h
      obtain ⟨hp, hf⟩ := h
      have hpe : m.path.toList = [] := by
        have : m.path = #[] := by simpa [Array.isEmpty] using hp
        rw [this]
      cases hfn : m.func with
      | none => rw [hfn] at hf; cases hf
      | some q =>
        obtain ⟨f, b⟩ := q
        cases b with
        | true =>
          unfold nilAhead
          simp only [Sem.run_bind, run_typeInfo' hi, Result.andThen_ok, hm, hpe, followBlind, Sem.run_pure, hfn]
        | false =>
          rw [hfn] at hf
          simp only at hf
          cases hu : P.underlying t with
          | none => rw [hu] at hf; cases hf
          | some d =>
            rw [hu] at hf
            unfold nilAhead
            simp only [Sem.run_bind, run_typeInfo' hi, Result.andThen_ok, hm, hpe, followBlind, Sem.run_pure, hfn, run_underlying hu]
            cases d <;> first | rfl | cases hf

theorem add_sound {o : AObj} {ob : Obj} {i N : Nat} (ha : σ.add o = some (i, σ')) (hr : Rel B w0 ρ σ w) (ho : ∀ ρ', ρ.Le ρ' → ObjR ρ' o N ob) :
    ∃ ρ', ρ.Le ρ' ∧ Rel B w0 ρ' σ' (w.alloc ob) ∧ ρ' i = some (w.heap.size, N) := by
  have hi := AS.add_next ha
  have hf : ρ i = none := hr.fresh _ (by rw [hr.next, hi]; exact Nat.le_refl _)
  have hle : ρ.Le (ρ.upd i (w.heap.size, N)) := Rho.le_upd hf (by rw [hr.next, hi])
  obtain ⟨k1, k2⟩ := hr.alloc (ob := ob) (N := N) ha (ho _ hle)
  exact ⟨_, k2, k1, Rho.upd_same⟩

theorem newT_VR {t : TypeId} {v : AV} {x : Value} {cs : List AV} (h : newT σ t cs = some (v, σ')) (hr : Rel B w0 ρ σ w) (hx : concL ρ cs = some x.cells.toList) :
    VR P B w0 (do pure (.pointer (some (← newVar t x)))) ρ w v σ' := by
  obtain ⟨w', ρ', h1, h2, h3, h4⟩ := run_newT (P := P) h hr hx
  rw [Array.toArray_toList] at h1
  exact ⟨_, w', ρ', by simp [newVar, h1], h2, h3, h4⟩

theorem opA_sound {T : Tm} {G : Nat} {a : Act} {o : Oper} {v : AV} (h : opA P G T σ o.op = some (v, σ')) (hr : Rel B w0 ρ σ w) (ht : TRel ρ T a.tmps) (hg : GR ρ G) :
    OpR P B w0 (execOp a.eval o) ρ w v σ' := by
  obtain ⟨dst, op, ty, pos, after, guard⟩ := o
  simp only at h
  have ev : ∀ {x : Operand} {u : AV}, aeval T G x = some u → conc ρ u = some (a.eval x) := fun e => aeval_sound e ht hg
  cases op
  case move x =>
    simp only [opA] at h
    cases e : aeval T G x with
    | none => rw [e] at h; cases h
    | some u => rw [e] at h; cases h; exact OpR.val rfl hr (ev e)
  case assign x =>
    simp only [opA] at h
    cases e : aeval T G x with
    | none => rw [e] at h; cases h
    | some u => rw [e] at h; cases h; exact OpR.val rfl hr (ev e)
  case pick c x y =>
    simp only [opA] at h
    split at h
    · rename_i q e
      have hc := conc_bool (ev e)
      cases e' : aeval T G (if q then x else y) with
      | none => rw [e'] at h; cases h
      | some u =>
        rw [e'] at h; cases h
        refine OpR.ofV (s' := do pure (if ← asBool (a.eval c) then a.eval x else a.eval y)) ?_ (by simp [execOp])
        refine VR.pure (x := a.eval (if q then x else y)) ?_ hr (ev e')
        rw [hc]
        cases q <;> simp [asBool]
    · cases h
  case alloc e =>
    simp only [opA] at h
    cases hz : zeroT P e with
    | none => rw [hz] at h; cases h
    | some z =>
      rw [hz] at h
      simp only [Option.bind_some] at h
      obtain ⟨zv, z1, z2⟩ := run_zero hz w
      obtain ⟨x, w', ρ', h1, h2, h3, h4⟩ := newT_VR (P := P) (x := zv) h hr (conc_cells (z2 ρ))
      exact OpR.ofV (s' := Instr.alloc e true (.tuple #[])) ⟨x, w', ρ', by simp only [Instr.alloc, Sem.run_bind, z1, Result.andThen_ok]; exact h1, h2, h3, h4⟩ rfl
  case box e x =>
    simp only [opA] at h
    cases e' : aeval T G x with
    | none => rw [e'] at h; cases h
    | some u =>
      rw [e'] at h
      simp only [Option.bind_some] at h
      exact OpR.ofV (s' := Instr.box e (a.eval x)) (newT_VR (P := P) h hr (conc_cells (ev e'))) rfl
  case build t ps =>
    simp only [opA] at h
    cases hz : zeroT P t with
    | none => rw [hz] at h; cases h
    | some z =>
      rw [hz] at h
      simp only [Option.bind_some] at h
      cases hp : partsA T G ps.toList with
      | none => rw [hp] at h; cases h
      | some l =>
        rw [hp] at h
        simp only [Option.bind_some] at h
        obtain ⟨p1, p2⟩ := parts_sound ht hg hp
        have hps : (ps.map fun p => (p.1, a.eval p.2)).toList = ps.toList.map fun p => (p.1, a.eval p.2) := by simp
        rw [← hps] at p1 p2
        exact OpR.ofV (s' := Instr.build t (ps.map fun p => (p.1, a.eval p.2))) (build_sound hz h hr p1 p2) rfl
  case buildSlice t len ps =>
    simp only [opA] at h
    cases hp : partsA T G ps.toList with
    | none => rw [hp] at h; cases h
    | some l =>
      rw [hp] at h
      simp only [Option.bind_some] at h
      obtain ⟨p1, p2⟩ := parts_sound ht hg hp
      refine OpR.ofV (s' := Instr.buildSlice t len (ps.map fun p => (p.1, a.eval p.2))) ?_ rfl
      split at h
      · rename_i e hu
        cases hs : szT P e with
        | none => rw [hs] at h; cases h
        | some n =>
          rw [hs] at h
          simp only [Option.bind_some] at h
          cases hz : zeroT P e with
          | none => rw [hz] at h; cases h
          | some z =>
            rw [hz] at h
            simp only [Option.bind_some] at h
            cases hq : (Nat.ble (len * n) (2 ^ 24) && Nat.beq z.cells.length n) with
            | false => rw [hq] at h; cases h
            | true =>
              rw [hq] at h
              simp only [cond] at h
              simp only [Bool.and_eq_true] at hq
              have hle : len * n ≤ 2 ^ 24 := Nat.le_of_ble_eq_true hq.1
              have hzn := beq_eq hq.2
              cases hf : fillA (fun i => some (i * n, n)) (repN len z.cells) l with
              | none => rw [hf] at h; cases h
              | some cs =>
                rw [hf] at h
                simp only [Option.bind_some] at h
                cases ha : σ.add (.cells cs e true none) with
                | none => rw [ha] at h; cases h
                | some p =>
                  obtain ⟨i, σ1⟩ := p
                  rw [ha] at h
                  simp only [Option.map_some, Option.some.injEq, Prod.mk.injEq] at h
                  obtain ⟨rfl, rfl⟩ := h
                  obtain ⟨zv, z1, z2⟩ := run_zero hz w
                  have hcl := zeros_conc (z2 ρ) len (len * n) (by rw [hzn])
                  have hps : (ps.map fun p => (p.1, a.eval p.2)).toList = ps.toList.map fun p => (p.1, a.eval p.2) := by simp
                  rw [← hps] at p1 p2
                  obtain ⟨ys, y1, y2⟩ := fillA_sound hf hcl p1 p2
                  obtain ⟨ρ', l1, l2, l3⟩ := add_sound (N := 0) (ob := .cells ys.toArray e) ha hr (fun ρ' le => ⟨rfl, ⟨ys, concL_mono le _ _ y1, rfl⟩, fun _ o _ hh => by simp at hh⟩)
                  refine ⟨.slice (some ⟨w.heap.size, 0, none⟩) len len, _, ρ', ?_, l1, l2, by simp [conc, l3, concS]⟩
                  rw [Array.toArray_toList] at y2
                  have hnot : ¬ (len * n > 2 ^ 24) := by omega
                  have e0 : ∀ f : Nat → Value, Array.map f (Array.range 0) = #[] := fun f => by simp
                  simp only [Instr.buildSlice, Sem.run_bind, run_underlying hu, Result.andThen_ok, run_sizeOf' hs, Sem.run_ite, hnot, if_false, Sem.run_pure]
                  by_cases h0 : len * n = 0
                  · simp only [h0, e0] at y2
                    simp only [h0, e0, if_true, y2, newRow, Sem.run_bind, run_newObj_alloc, Sem.run_pure, Result.andThen_ok]
                  · simp only [h0, if_false, z1, y2, newRow, Sem.run_bind, run_newObj_alloc, Sem.run_pure, Result.andThen_ok]
      · cases h
  case load t x =>
    simp only [opA] at h
    split at h
    · rename_i i o e
      obtain ⟨b, N, hb, hx⟩ := conc_ptr (ev e)
      cases hl : loadT P t i o σ with
      | none => rw [hl] at h; cases h
      | some u =>
        rw [hl] at h; cases h
        obtain ⟨y, y1, y2⟩ := run_loadT (P := P) hl hr hb
        exact OpR.ofV (s' := Instr.loadAt t (a.eval x)) (VR.pure (x := y) (by rw [hx]; simp [Instr.loadAt, Instr.sureAddr, y1]) hr y2) rfl
    · cases h
  case store t x y =>
    simp only [opA] at h
    split at h
    · rename_i i o e
      obtain ⟨b, N, hb, hx⟩ := conc_ptr (ev e)
      cases ey : aeval T G y with
      | none => rw [ey] at h; cases h
      | some u =>
        rw [ey] at h
        simp only [Option.bind_some] at h
        cases hl : storeT P t i o u σ with
        | none => rw [hl] at h; cases h
        | some σ1 =>
          rw [hl] at h; cases h
          obtain ⟨w', y1, y2⟩ := run_storeT (P := P) hl hr hb (ev ey)
          exact OpR.ofU (s' := Instr.storeAt t (a.eval x) (a.eval y)) (by rw [hx]; simp [Instr.storeAt, Instr.sureAddr, y1]) y2 rfl
    · cases h
  case nilCheck x =>
    simp only [opA] at h
    split at h
    · rename_i p e
      obtain ⟨b, N, hb, hx⟩ := conc_ptr (i := p.1) (o := p.2) (ev e)
      cases h
      exact OpR.val (x := .pointer (some ⟨b, p.2, none⟩)) (by simp [execOp, hx]) hr (by rw [← hx]; exact ev e)
    · rename_i t u e
      obtain ⟨y, _, hx⟩ := conc_iface (ev e)
      cases h
      exact OpR.val (x := .iface t y) (by simp [execOp, hx]) hr (by rw [← hx]; exact ev e)
    · rename_i f p q e
      obtain ⟨fn, xs, ys, hf, _, _, hx⟩ := conc_func (ev e)
      simp only [concFn, Option.some.injEq] at hf
      subst hf
      cases h
      exact OpR.val (x := .func (.func f) xs.toArray ys.toArray) (by simp [execOp, hx]) hr (by rw [← hx]; exact ev e)
    · rename_i l p q e
      obtain ⟨fn, xs, ys, hf, _, _, hx⟩ := conc_func (ev e)
      simp only [concFn] at hf
      cases hl : ρ l with
      | none => rw [hl] at hf; cases hf
      | some pp =>
        rw [hl] at hf
        simp only [Option.map_some, Option.some.injEq] at hf
        subst hf
        cases h
        exact OpR.val (x := .func (.yield pp.1) xs.toArray ys.toArray) (by simp [execOp, hx]) hr (by rw [← hx]; exact ev e)
    · rename_i name t u r q e
      cases hah : aheadA P t name with
      | false => rw [hah] at h; cases h
      | true =>
        rw [hah] at h
        simp only [cond] at h
        obtain ⟨fn, xs, ys, hf, hxs, _, hx⟩ := conc_func (ev e)
        simp only [concFn, Option.some.injEq] at hf
        subst hf
        obtain ⟨y, zs, hy, _, rfl⟩ := concL_cons hxs
        obtain ⟨y', _, rfl⟩ := conc_iface hy
        cases h
        have hrun := ahead_sound (P := P) hah y' w
        refine ⟨.func (.method name) (Value.iface t y' :: zs).toArray ys.toArray, w, ρ, .inl ?_, .refl ρ, hr, by rw [← hx]; exact ev e⟩
        simp [execOp, hx, hrun]
    · cases h
  case binOp op t x y yt =>
    simp only [opA] at h
    cases ex : aeval T G x with
    | none => rw [ex] at h; cases h
    | some p =>
      rw [ex] at h
      simp only [Option.bind_some] at h
      cases ey : aeval T G y with
      | none => rw [ey] at h; cases h
      | some q =>
        rw [ey] at h
        simp only [Option.bind_some] at h
        cases hb : binA P op t (Operand.isConst' x) (Operand.isConst' y) p.bare q.bare with
        | none => rw [hb] at h; cases h
        | some z =>
          rw [hb] at h; cases h
          obtain ⟨u, u1, u2⟩ := binA_sound hb (conc_bare (ev ex)) (conc_bare (ev ey)) w
          exact OpR.ofV (s' := do eqGuard op t x y (a.eval x) (a.eval y); binOp op t (a.eval x) (a.eval y)) (VR.pure u2 hr u1) rfl
  case unOp op t x =>
    simp only [opA] at h
    split at h
    · rename_i b e
      cases h
      exact OpR.ofV (s' := Op.unary .not (a.eval x)) (VR.pure (x := .bool !b) (by rw [conc_bool (ev e)]; rfl) hr rfl) rfl
    · rename_i k n e
      cases h
      exact OpR.ofV (s' := Op.unary .neg (a.eval x)) (VR.pure (x := .int k (k.wrap (0 - n))) (by rw [conc_int (ev e)]; rfl) hr rfl) rfl
    · rename_i k n e
      cases hb : binInt .xor k (if k.signed then -1 else k.max) n with
      | none => rw [hb] at h; cases h
      | some z =>
        rw [hb] at h; cases h
        obtain ⟨u, u1, u2⟩ := binInt_sound (ρ := ρ) (P := P) hb ⟨by simp, by simp⟩ t w
        refine OpR.ofV (s' := Op.unary .xor (a.eval x)) (VR.pure (x := u) ?_ hr u1) rfl
        rw [conc_int (ev e)]
        simpa [binOp, Op.unary] using u2
    · cases h
  case convert s d x =>
    simp only [opA] at h
    cases ex : aeval T G x with
    | none => rw [ex] at h; cases h
    | some p =>
      rw [ex] at h
      simp only [Option.bind_some] at h
      exact OpR.ofV (s' := convert s d (a.eval x)) (convA_sound h hr (ev ex)) rfl
  case makeInterface t x =>
    simp only [opA] at h
    split at h
    · cases h
    · rename_i d hn hu
      cases ex : aeval T G x with
      | none => rw [ex] at h; cases h
      | some p =>
        rw [ex] at h; cases h
        refine OpR.ofV (s' := Instr.makeInterface t (a.eval x)) (VR.pure (x := .iface t (a.eval x)) ?_ hr (by simp [conc, ev ex])) rfl
        simp only [Instr.makeInterface, Sem.run_bind, run_underlying hu, Result.andThen_ok]
        cases d <;> first | rfl | exact absurd rfl (hn _)
    · cases h
  case makeFunc fn fi ca =>
    simp only [opA] at h
    have key : ∀ {r : Option (AV × AS)}, r = some (v, σ') → r = ((aevalL T G fi.toList).bind fun p => (aevalL T G ca.toList).map fun q => (.func fn p q, σ)) → concFn ρ fn = some fn →
        OpR P B w0 (execOp a.eval { dst, op := .makeFunc fn fi ca, type := ty, pos, after, guard }) ρ w v σ' := by
      intro r hr1 hr2 hc
      subst hr2
      cases e1 : aevalL T G fi.toList with
      | none => rw [e1] at hr1; cases hr1
      | some p =>
        rw [e1] at hr1
        simp only [Option.bind_some] at hr1
        cases e2 : aevalL T G ca.toList with
        | none => rw [e2] at hr1; cases hr1
        | some q =>
          rw [e2] at hr1; cases hr1
          have h1 := aevalL_sound e1 ht hg
          have h2 := aevalL_sound e2 ht hg
          refine OpR.ofV (s' := Instr.makeFunc fn (fi.map a.eval) (ca.map a.eval)) (VR.pure (x := .func fn (fi.map a.eval) (ca.map a.eval)) rfl hr ?_) rfl
          simp only [conc, hc, h1, h2, Option.bind_some, Option.map_some]
          congr 2 <;> (apply Array.toList_inj.1; simp)
    cases fn
    case yield l => cases h
    all_goals exact key h rfl rfl
  case makeMap t r =>
    simp only [opA] at h
    have key : ∀ {i : Nat}, σ.add (.map [] 0) = some (i, σ') → v = .map (some i) → ∀ (s : Sem Value), s.run P w = .ok (.map (some w.heap.size)) (w.alloc (.map #[] 0)) → VR P B w0 s ρ w v σ' := by
      intro i ha hv s hs
      obtain ⟨ρ', l1, l2, l3⟩ := add_sound (N := 0) (ob := .map #[] 0) ha hr (fun _ _ => ⟨rfl, rfl⟩)
      exact ⟨_, _, ρ', hs, l1, l2, by subst hv; simp [conc, l3]⟩
    split at h
    · cases ha : σ.add (.map [] 0) with
      | none => rw [ha] at h; cases h
      | some p =>
        rw [ha] at h; cases h
        exact OpR.ofV (s' := Instr.makeMap t none) (key ha rfl _ (by simp [Instr.makeMap])) rfl
    · rename_i x
      split at h
      · rename_i k e kk n hu ex
        cases ha : σ.add (.map [] 0) with
        | none => rw [ha] at h; cases h
        | some p =>
          rw [ha] at h; cases h
          have hx := conc_int (ev ex)
          exact OpR.ofV (s' := Instr.makeMap t (some (a.eval x))) (key ha rfl _ (by simp [Instr.makeMap, run_underlying hu, hx, asInt, asIntOf])) rfl
      · cases h
  case makeSlice t l c =>
    simp only [opA] at h
    split at h
    · rename_i e k n k' m hu el ec
      cases hs : szT P e with
      | none => rw [hs] at h; cases h
      | some size =>
        rw [hs] at h
        simp only [Option.bind_some] at h
        cases hby : byT P e with
        | none => rw [hby] at h; cases h
        | some bytes =>
          rw [hby] at h
          simp only [Option.bind_some] at h
          cases hz : zeroT P e with
          | none => rw [hz] at h; cases h
          | some z =>
            rw [hz] at h
            simp only [Option.bind_some] at h
            split at h
            · rename_i hcond
              obtain ⟨c1, c2, c3, c4⟩ := hcond
              cases ha : σ.add (.cells (repN m.toNat z.cells) e true none) with
              | none => rw [ha] at h; cases h
              | some p =>
                obtain ⟨i, σ1⟩ := p
                rw [ha] at h
                simp only [Option.bind_some] at h
                cases hq : Nat.beq z.cells.length size with
                | false => rw [hq] at h; cases h
                | true =>
                  rw [hq] at h
                  simp only [cond, Option.some.injEq, Prod.mk.injEq] at h
                  obtain ⟨rfl, rfl⟩ := h
                  have hzn := beq_eq hq
                  obtain ⟨zv, z1, z2⟩ := run_zero hz w
                  obtain ⟨inf, hi, hib⟩ := byT_some hby
                  have hcl := zeros_conc (z2 ρ) m.toNat (m.toNat * size) (by rw [hzn])
                  obtain ⟨ρ', l1, l2, l3⟩ := add_sound (N := 0) (ob := .cells ((Array.range (m.toNat * size)).map (zv.cells[· % zv.cells.size]!)) e) ha hr (fun ρ' le => ⟨rfl, ⟨_, concL_mono le _ _ hcl, rfl⟩, fun _ o _ hh => by simp at hh⟩)
                  refine OpR.ofV (s' := Instr.makeSlice t (a.eval l) (a.eval c)) ⟨.slice (some ⟨w.heap.size, 0, none⟩) n.toNat m.toNat, _, ρ', ?_, l1, l2, by simp [conc, l3, concS]⟩ rfl
                  have hwl : IntKind.i64.wrap n = n := by unfold IntKind.wrap IntKind.bits; simp [IntKind.signed]; omega
                  have hwc : IntKind.i64.wrap m = m := by unfold IntKind.wrap IntKind.bits; simp [IntKind.signed]; omega
                  have hbm : (inf.bytes : Int) * m ≤ 2 ^ 47 := by rw [hib]; exact c4
                  have hno : ((decide (m < 0) || decide ((inf.bytes : Int) * m > 2 ^ 48)) || decide (n < 0) || decide (n > m)) = false := by
                    simp only [Bool.or_eq_false_iff, decide_eq_false_iff_not]
                    refine ⟨⟨⟨by omega, ?_⟩, by omega⟩, by omega⟩
                    intro hgt
                    have : (2 : Int) ^ 48 = 2 * 2 ^ 47 := by decide
                    omega
                  simp only [Instr.makeSlice, Sem.run_bind, run_underlying hu, Result.andThen_ok, conc_int (ev el), conc_int (ev ec), asInt, asIntOf, Sem.run_pure, run_typeInfo' hi, hwl, hwc, hno, Bool.false_eq_true, if_false, Sem.run_ite, run_askRoom, run_sizeOf' hs]
                  have e0 : ∀ f : Nat → Value, Array.map f (Array.range 0) = #[] := fun f => by simp
                  by_cases h0 : m.toNat * size = 0
                  · simp only [h0, e0, if_true, newRow, Sem.run_bind, run_newObj_alloc, Sem.run_pure, Result.andThen_ok]
                  · simp only [h0, if_false, z1, newRow, Sem.run_bind, run_newObj_alloc, Sem.run_pure, Result.andThen_ok]
            · cases h
    · cases h
  case slice t x lo hi mx =>
    simp only [opA] at h
    cases ex : aeval T G x with
    | none => rw [ex] at h; cases h
    | some p =>
      rw [ex] at h
      simp only [Option.bind_some] at h
      cases e1 : optA T G lo with
      | none => rw [e1] at h; cases h
      | some q1 =>
        rw [e1] at h
        simp only [Option.bind_some] at h
        cases e2 : optA T G hi with
        | none => rw [e2] at h; cases h
        | some q2 =>
          rw [e2] at h
          simp only [Option.bind_some] at h
          cases e3 : optA T G mx with
          | none => rw [e3] at h; cases h
          | some q3 =>
            rw [e3] at h
            simp only [Option.bind_some] at h
            cases es : sliceA P t p q1 q2 q3 σ with
            | none => rw [es] at h; cases h
            | some z =>
              rw [es] at h; cases h
              obtain ⟨u, u1, u2⟩ := sliceA_sound (P := P) es hr (ev ex) (opt_sound ht hg e1) (opt_sound ht hg e2) (opt_sound ht hg e3)
              exact OpR.ofV (s' := Instr.sliceAt t (a.eval x) (lo.map a.eval) (hi.map a.eval) (mx.map a.eval)) (VR.pure u2 hr u1) rfl
  case fieldAddr s x f =>
    simp only [opA] at h
    split at h
    · rename_i fs i o hu ex
      obtain ⟨b, N, hb, hx⟩ := conc_ptr (ev ex)
      split at h
      · rename_i fl hfl
        cases hs : szT P fl.type with
        | none => rw [hs] at h; cases h
        | some n =>
          rw [hs] at h
          simp only [Option.bind_some] at h
          cases hn : Nat.beq n 0 with
          | true => rw [hn] at h; cases h
          | false =>
            rw [hn] at h; cases h
            have hn0 : n ≠ 0 := fun e => by subst e; cases hn
            refine OpR.ofV (s' := Instr.fieldAt s (a.eval x) f) (VR.pure (x := .pointer (some ⟨b, o + fl.offset, none⟩)) ?_ hr (by simp [conc, hb])) rfl
            simp [Instr.fieldAt, run_underlying hu, hfl, hx, Instr.sureAddr, fieldPlace, run_sizeOf' hs, hn0, add_spotless]
      · cases h
    · cases h
  case field t x f =>
    simp only [opA] at h
    split at h
    · rename_i fs cs hu ex
      obtain ⟨xs, hxs, hx⟩ := conc_agg (ev ex)
      split at h
      · rename_i fl hfl
        cases hp : partT P fl.type cs fl.offset with
        | none => rw [hp] at h; cases h
        | some u =>
          rw [hp] at h; cases h
          obtain ⟨y, y1, y2⟩ := run_part hp hxs
          refine OpR.ofV (s' := Instr.field t (a.eval x) f) (VR.pure (x := y) ?_ hr y1) rfl
          simp [Instr.field, run_underlying hu, hfl, hx, asAgg, y2]
      · cases h
    · cases h
  case indexAddr t x ix =>
    simp only [opA] at h
    split at h
    · rename_i n e i o k m hu ex ei
      obtain ⟨b, N, hb, hx⟩ := conc_ptr (ev ex)
      cases hs : szT P e with
      | none => rw [hs] at h; cases h
      | some s =>
        rw [hs] at h
        simp only [Option.bind_some] at h
        split at h
        · rename_i hc
          cases h
          refine OpR.ofV (s' := Instr.indexAt t (a.eval x) (a.eval ix)) (VR.pure (x := .pointer (some ⟨b, o + m.toNat * s, none⟩)) ?_ hr (by simp [conc, hb])) rfl
          simp [Instr.indexAt, run_underlying hu, hx, Instr.sureAddr, conc_int (ev ei), asIntOf, hc, run_sizeOf' hs, add_spotless]
        · cases h
    · rename_i e i o n c q k m hu ex ei
      obtain ⟨b, N, hb, cc, hx⟩ : ∃ b N, ρ i = some (b, N) ∧ ∃ cc, a.eval x = .slice (some ⟨b, o, none⟩) n cc := by
        cases q with
        | false => obtain ⟨b, N, hb, hx⟩ := conc_slice (ev ex); exact ⟨b, N, hb, _, hx⟩
        | true => obtain ⟨b, N, hb, _, hx⟩ := conc_open (ev ex); exact ⟨b, N, hb, _, hx⟩
      cases hs : szT P e with
      | none => rw [hs] at h; cases h
      | some s =>
        rw [hs] at h
        simp only [Option.bind_some] at h
        split at h
        · rename_i hc
          cases h
          refine OpR.ofV (s' := Instr.indexAt t (a.eval x) (a.eval ix)) (VR.pure (x := .pointer (some ⟨b, o + m.toNat * s, none⟩)) ?_ hr (by simp [conc, hb])) rfl
          simp [Instr.indexAt, run_underlying hu, hx, conc_int (ev ei), asIntOf, hc, run_sizeOf' hs, add_spotless]
        · cases h
    · cases h
  case index t x ix =>
    simp only [opA] at h
    split at h
    · rename_i n e cs k m hu ex ei
      obtain ⟨xs, hxs, hx⟩ := conc_agg (ev ex)
      cases hs : szT P e with
      | none => rw [hs] at h; cases h
      | some s =>
        rw [hs] at h
        simp only [Option.bind_some] at h
        split at h
        · rename_i hc
          cases hp : partT P e cs (m.toNat * s) with
          | none => rw [hp] at h; cases h
          | some u =>
            rw [hp] at h; cases h
            obtain ⟨y, y1, y2⟩ := run_part hp hxs
            refine OpR.ofV (s' := Instr.index t (a.eval x) (a.eval ix)) (VR.pure (x := y) ?_ hr y1) rfl
            simp [Instr.index, run_underlying hu, hx, conc_int (ev ei), asIntOf, hc, run_sizeOf' hs, y2]
        · cases h
    · rename_i s k m hu ex ei
      split at h
      · rename_i hc
        split at h
        · rename_i c hsc
          cases h
          refine OpR.ofV (s' := Instr.index t (a.eval x) (a.eval ix)) (VR.pure (x := .int .u8 c.toNat) ?_ hr rfl) rfl
          have hget : (⟨s.toArray⟩ : ByteArray)[m.toNat]? = some c := by
            have hlt := (List.getElem?_eq_some_iff.1 hsc).1
            have hv := (List.getElem?_eq_some_iff.1 hsc).2
            rw [getElem?_pos _ _ (by simpa [ByteArray.size] using hlt)]
            congr 1
          simp only [Instr.index, Sem.run_bind, conc_int (ev ei), conc_str (ev ex), asIntOf, Sem.run_pure, Result.andThen_ok, run_underlying hu, hc, if_true, hget]
        · cases h
      · cases h
    · cases h
  case lookup t x ix ok =>
    simp only [opA] at h
    cases ex : aeval T G x with
    | none => rw [ex] at h; cases h
    | some m =>
      rw [ex] at h
      simp only [Option.bind_some] at h
      cases ei : aeval T G ix with
      | none => rw [ei] at h; cases h
      | some k =>
        rw [ei] at h
        simp only [Option.bind_some] at h
        cases hm : mapGet P t m k σ with
        | none => rw [hm] at h; cases h
        | some f =>
          rw [hm] at h
          simp only [Option.bind_some] at h
          have hσ : σ' = σ ∧ (match f.2 with | some (_, v) => some (if ok then AV.tuple [v, .bool true] else v) | none => (zeroT P f.1).map fun z => if ok then AV.tuple [z, .bool false] else z) = some v := by
            cases hf : f.2 with
            | some p => rw [hf] at h; simp only [Option.some.injEq, Prod.mk.injEq] at h; exact ⟨h.2.symm, by simp [h.1]⟩
            | none =>
              rw [hf] at h
              simp only at h
              cases hz : zeroT P f.1 with
              | none => rw [hz] at h; cases h
              | some z => rw [hz] at h; simp only [Option.map_some, Option.some.injEq, Prod.mk.injEq] at h; exact ⟨h.2.symm, by simp [h.1]⟩
          obtain ⟨rfl, hv⟩ := hσ
          obtain ⟨y, y1, y2⟩ := lookup_sound hm hv hr (ev ex) (ev ei)
          exact OpR.ofV (s' := Instr.lookup t (a.eval x) (a.eval ix) ok) (VR.pure y2 hr y1) rfl
  case mapUpdate t m k x =>
    simp only [opA] at h
    cases em : aeval T G m with
    | none => rw [em] at h; cases h
    | some mv =>
      rw [em] at h
      simp only [Option.bind_some] at h
      cases ek : aeval T G k with
      | none => rw [ek] at h; cases h
      | some kv =>
        rw [ek] at h
        simp only [Option.bind_some] at h
        cases ex : aeval T G x with
        | none => rw [ex] at h; cases h
        | some xv =>
          rw [ex] at h
          simp only [Option.bind_some] at h
          cases hp : mapPut P t mv kv xv σ with
          | none => rw [hp] at h; cases h
          | some σ1 =>
            rw [hp] at h; cases h
            obtain ⟨w', y1, y2⟩ := mapPut_sound hp hr (ev em) (ev ek) (ev ex)
            exact OpR.ofU (s' := Instr.mapUpdate t (a.eval m) (a.eval k) (a.eval x)) y1 y2 rfl
  case insert t m k x =>
    simp only [opA] at h
    cases em : aeval T G m with
    | none => rw [em] at h; cases h
    | some mv =>
      rw [em] at h
      simp only [Option.bind_some] at h
      cases ek : aeval T G k with
      | none => rw [ek] at h; cases h
      | some kv =>
        rw [ek] at h
        simp only [Option.bind_some] at h
        cases ex : aeval T G x with
        | none => rw [ex] at h; cases h
        | some xv =>
          rw [ex] at h
          simp only [Option.bind_some] at h
          cases hp : mapPut P t mv kv xv σ with
          | none => rw [hp] at h; cases h
          | some σ1 =>
            rw [hp] at h; cases h
            obtain ⟨w', y1, y2⟩ := mapPut_sound hp hr (ev em) (ev ek) (ev ex)
            exact OpR.ofU (s' := Instr.mapUpdate t (a.eval m) (a.eval k) (a.eval x)) y1 y2 rfl
  case range t x =>
    simp only [opA] at h
    have key : ∀ {i : Nat} {o : AObj} {ob : Obj}, σ.add o = some (i, σ') → v = .ptr (some (i, 0)) → (∀ ρ', ρ.Le ρ' → ObjR ρ' o 0 ob) → ∀ (s : Sem Value), s.run P w = .ok (.pointer (some ⟨w.heap.size, 0, none⟩)) (w.alloc ob) → VR P B w0 s ρ w v σ' := by
      intro i o ob ha hv ho s hs
      obtain ⟨ρ', l1, l2, l3⟩ := add_sound (N := 0) ha hr ho
      exact ⟨_, _, ρ', hs, l1, l2, by subst hv; simp [conc, l3]⟩
    split at h
    · rename_i k e hu ex
      cases ha : σ.add (.mapIter none 0 [] 0) with
      | none => rw [ha] at h; cases h
      | some p =>
        rw [ha] at h; cases h
        refine OpR.ofV (s' := Instr.range t (a.eval x)) (key (ob := .mapIter none 0 #[] 0) ha rfl (fun _ _ => ⟨rfl, rfl, rfl, rfl⟩) _ ?_) rfl
        rw [conc_mapNil (ev ex)]
        simp [Instr.range, run_underlying hu]
    · rename_i k e m hu ex
      obtain ⟨bm, N, hb, hx⟩ := conc_map (ev ex)
      split at h
      · rename_i es c hgm
        obtain ⟨ob, h1, h2, _⟩ := hr.objs m _ hgm bm N hb
        cases ob with
        | map en c' =>
          obtain ⟨rfl, _⟩ := h2
          cases ha : σ.add (.mapIter (some m) c' [] c') with
          | none => rw [ha] at h; cases h
          | some p =>
            rw [ha] at h; cases h
            refine OpR.ofV (s' := Instr.range t (a.eval x)) (key (ob := .mapIter (some bm) c' #[] c') ha rfl (fun _ le => ⟨⟨bm, N, le _ _ hb, rfl⟩, rfl, rfl, rfl⟩) _ ?_) rfl
            rw [hx]
            simp [Instr.range, run_underlying hu, MapKept.run_getObj_map h1]
        | _ => exact h2.elim
      · cases h
    · rename_i s hu ex
      cases ha : σ.add (.strIter s 0) with
      | none => rw [ha] at h; cases h
      | some p =>
        rw [ha] at h; cases h
        refine OpR.ofV (s' := Instr.range t (a.eval x)) (key (ob := .stringIter ⟨s.toArray⟩ 0) ha rfl (fun _ _ => ⟨rfl, rfl⟩) _ ?_) rfl
        rw [conc_str (ev ex)]
        simp [Instr.range, run_underlying hu]
    · cases h
  case next it str =>
    simp only [opA] at h
    cases ei : aeval T G it with
    | none => rw [ei] at h; cases h
    | some u =>
      rw [ei] at h
      simp only [Option.bind_some] at h
      exact OpR.ofV (s' := Instr.next (a.eval it) str ty) (next_sound h hr (ev ei)) rfl
  case extract t ix =>
    simp only [opA] at h
    split at h
    · rename_i vs e
      obtain ⟨xs, hxs, hx⟩ := conc_tuple (ev e)
      split at h
      · rename_i u hu
        cases h
        obtain ⟨y, y1, y2⟩ := concL_get ix hxs hu
        refine OpR.ofV (s' := Instr.extract (a.eval t) ix) (VR.pure (x := y) ?_ hr y2) rfl
        rw [hx]
        simp [Instr.extract, y1]
      · cases h
    · cases h
  case typeAssert x xt as ok =>
    simp only [opA] at h
    split at h
    · rename_i t u e
      obtain ⟨y, hy, hx⟩ := conc_iface (ev e)
      split at h
      · rename_i want hu
        split at h
        · rename_i i hi
          split at h
          · rename_i hm
            cases h
            refine OpR.ofV (s' := Instr.typeAssert (a.eval x) xt as ok) (VR.pure (x := if ok then .tuple #[.iface t y, .bool true] else .iface t y) ?_ hr (by cases ok <;> simp [conc, concL, hy])) rfl
            rw [hx]
            simp [Instr.typeAssert, run_underlying hu, run_typeInfo' hi, hm]
          · cases h
        · cases h
      · rename_i d hn hu
        split at h
        · rename_i hta
          subst hta
          cases h
          refine OpR.ofV (s' := Instr.typeAssert (a.eval x) xt t ok) (VR.pure (x := if ok then .tuple #[y, .bool true] else y) ?_ hr (by cases ok <;> simp [conc, concL, hy])) rfl
          rw [hx]
          simp only [Instr.typeAssert, Sem.run_bind, run_underlying hu, Result.andThen_ok]
          cases d <;> first | exact absurd rfl (hn _) | simp
        · cases h
      · cases h
    · cases h
  case call c =>
    obtain ⟨callee, args, argTypes⟩ := c
    cases callee
    case builtin b =>
      simp only [opA] at h
      cases ea : aevalL T G args.toList with
      | none => rw [ea] at h; cases h
      | some l =>
        rw [ea] at h
        simp only [Option.bind_some] at h
        have hl := aevalL_sound ea ht hg
        have := builtinA_sound (P := P) (ty := ty) (consts := args.map fun | .const _ => true | _ => false) h hr hl
        obtain ⟨x, w', ρ', h1, h2, h3, h4⟩ := this
        refine ⟨x, w', ρ', ?_, h2, h3, h4⟩
        have hargs : (args.toList.map a.eval).toArray = args.map a.eval := by apply Array.toList_inj.1; simp
        rw [hargs] at h1
        have harr : argTypes.toList.toArray = argTypes := by simp
        rw [harr] at h1
        exact h1
    all_goals (simp [opA] at h)
  all_goals (simp [opA] at h)
end
end Go.Det
