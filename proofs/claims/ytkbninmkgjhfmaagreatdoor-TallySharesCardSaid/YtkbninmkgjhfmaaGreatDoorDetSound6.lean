/- A region that draws its order of evaluation: every order comes to what the evaluator's one order comes to. Conditions: none beyond those of each theorem. -/
import Derived.Test.YtkbninmkgjhfmaaGreatDoorDetSound5
set_option maxHeartbeats 400000
namespace Go.Det
open Go
section
variable {B : Nat → Prop} {w0 w : World} {ρ : Rho} {σ σ' : AS} {E : Env} {go : ExecT} {ops : Array Oper} {T0 : Tm}

/-! ### Blocks that the evaluator has, and the run has not yet -/
theorem Rel.addLate {o : AObj} {i : Nat} (h : Rel B w0 ρ σ w) (ha : σ.add o = some (i, σ')) : Rel B w0 ⟨ρ.f, ρ.n + 1⟩ σ' w ∧ ρ.Le ⟨ρ.f, ρ.n + 1⟩ ∧ i = ρ.n ∧ ρ i = none ∧ σ'.get i = some o := by
  have hi := AS.add_next ha
  have hin : i = ρ.n := by rw [h.next, hi]
  have hf : ρ i = none := h.fresh _ (by rw [hin]; exact Nat.le_refl _)
  unfold AS.add at ha
  cases hc : Nat.blt σ.next 1024 with
  | false => rw [hc] at ha; cases ha
  | true =>
    rw [hc] at ha
    simp only [cond, Option.some.injEq, Prod.mk.injEq] at ha
    obtain ⟨_, rfl⟩ := ha
    have hlt : σ.next < 1024 := blt_lt hc
    subst hi
    have hget : ∀ j, j ≠ σ.next → (⟨PT.set hdepth σ.heap σ.next (some o), σ.next + 1⟩ : AS).get j = σ.get j := fun j hj => AS.get_put_ne (σ := σ) (o := some o) hlt (Ne.symm hj)
    have hne : ∀ j p, ρ j = some p → j ≠ σ.next := fun j p hj e => by rw [e, hf] at hj; cases hj
    refine ⟨⟨h.os, h.tape, h.output, h.size, h.bsz, h.low, ?_, ?_, by show ρ.n + 1 = σ.next + 1; rw [← hin], fun j hj => h.fresh j (by have : ρ.n + 1 ≤ j := hj; omega)⟩, ⟨fun _ _ e => e, Nat.le_succ _, fun _ _ => rfl⟩, hin, hf, AS.get_put_same (σ := σ) (o := some o) hlt⟩
    · intro j oj hj b M hb
      rw [hget j (hne j _ hb)] at hj
      obtain ⟨ob, k1, k2, k3⟩ := h.objs j oj hj b M hb
      exact ⟨ob, k1, ObjR.sub (ρ := ρ) (ρ' := ⟨ρ.f, ρ.n + 1⟩) (fun _ _ e => e) k2, k3⟩
    · intro j k oj ok b M M' hj hk hbj hbk
      rw [hget j (hne j _ hbj)] at hj
      rw [hget k (hne k _ hbk)] at hk
      exact h.inj j k oj ok b M M' hj hk hbj hbk

theorem Rel.mapLate {o : AObj} {ob : Obj} {i : Nat} (h : Rel B w0 ρ σ w) (hi : ρ i = none) (hlt : i < ρ.n) (hg : σ.get i = some o) (ho : ∀ ρ' : Rho, ρ.Sub ρ' → ObjR ρ' o 0 ob) :
    Rel B w0 ⟨fun j => if j = i then some (w.heap.size, 0) else ρ j, ρ.n⟩ σ (w.alloc ob) := by
  generalize hρ : (⟨fun j => if j = i then some (w.heap.size, 0) else ρ j, ρ.n⟩ : Rho) = ρ'
  have hsame : ρ' i = some (w.heap.size, 0) := by rw [← hρ]; show (if i = i then _ else _) = _; simp
  have hne : ∀ j, j ≠ i → ρ' j = ρ j := fun j hj => by rw [← hρ]; show (if j = i then _ else _) = _; simp [hj]
  have hsub : ρ.Sub ρ' := fun j p hj => by
    by_cases e : j = i
    · subst e; rw [hi] at hj; cases hj
    · rw [hne j e]; exact hj
  have hold : ∀ b, b < w.heap.size → (w.alloc ob).heap[b]? = w.heap[b]? := fun b hb => Go.RowKit.Below.heap_alloc w ob b hb
  refine ⟨h.os, h.tape, h.output, by simp; exact Nat.le_succ_of_le h.size, fun k hk => by simp; exact Nat.lt_succ_of_lt (h.bsz k hk),
      fun k hk => by rw [hold k (h.bsz k hk)]; exact h.low k hk, ?_, ?_, by rw [← hρ]; exact h.next, ?_⟩
  · intro j oj hj b M hb
    by_cases e : j = i
    · subst e
      rw [hg] at hj
      cases hj
      rw [hsame] at hb
      cases hb
      exact ⟨ob, World.alloc_heap_new w ob, ho _ hsub, fun _ hk => Nat.lt_irrefl _ (h.bsz _ hk)⟩
    · rw [hne j e] at hb
      obtain ⟨ob', h1, h2, h3⟩ := h.objs j oj hj b M hb
      exact ⟨ob', by rw [hold b (lt_of_heap h1)]; exact h1, h2.sub hsub, h3⟩
  · intro j k oj ok b M M' hj hk hbj hbk
    by_cases ej : j = i <;> by_cases ek : k = i
    · rw [ej, ek]
    · exfalso
      subst ej
      rw [hsame] at hbj
      rw [hne k ek] at hbk
      obtain ⟨ob', h1, _⟩ := h.objs k ok hk b M' hbk
      have := lt_of_heap h1
      cases hbj
      omega
    · exfalso
      subst ek
      rw [hsame] at hbk
      rw [hne j ej] at hbj
      obtain ⟨ob', h1, _⟩ := h.objs j oj hj b M hbj
      have := lt_of_heap h1
      cases hbk
      omega
    · rw [hne j ej] at hbj
      rw [hne k ek] at hbk
      exact h.inj j k oj ok b M M' hj hk hbj hbk
  · intro j hj
    have hj' : ρ.n ≤ j := by rw [← hρ] at hj; exact hj
    rw [hne j (by omega)]
    exact h.fresh j hj'

def newX (b : Nat) : Option Nat → Value
  | none => .pointer (some ⟨b, 0, none⟩)
  | some l => .slice (some ⟨b, 0, none⟩) l l

theorem newV_conc {i b : Nat} {len : Option Nat} (h : ρ i = some (b, 0)) : conc ρ (newV i len) = some (newX b len) := by
  cases len <;> simp [newV, newX, conc, h, concS]

theorem newA_sound {P : Program} {G : Nat} {T : Tm} {a : Act} {o : Oper} {ob : AObj} {len : Option Nat} (h : newA P G T o.op = some (ob, len)) (ht : TRel ρ T a.tmps) (hg : GR ρ G) (w : World) :
    ∃ obj, (execOp a.eval o).run P w = .ok (.value (newX w.heap.size len)) (w.alloc obj) ∧ ∀ ρ' : Rho, ρ.Sub ρ' → ObjR ρ' ob 0 obj := by
  obtain ⟨dst, op, ty, pos, after, guard⟩ := o
  simp only at h
  cases op
  case alloc e =>
    simp only [newA] at h
    cases hz : zeroT P e with
    | none => rw [hz] at h; cases h
    | some z =>
      rw [hz] at h
      simp only [Option.map_some, Option.some.injEq, Prod.mk.injEq] at h
      obtain ⟨rfl, rfl⟩ := h
      obtain ⟨zv, z1, z2⟩ := run_zero hz w
      refine ⟨.cells zv.cells e, ?_, fun ρ' hs => ⟨rfl, ⟨zv.cells.toList, concL_sub hs _ _ (conc_cells (z2 ρ)), rfl⟩, fun _ o _ hh => by simp at hh⟩⟩
      simp [execOp, Instr.alloc, Sem.run_bind, z1, Result.andThen_ok, newVar, newRow, newX]
  case buildSlice t len ps =>
    simp only [newA] at h
    cases hp : partsA T G ps.toList with
    | none => rw [hp] at h; cases h
    | some l =>
      rw [hp] at h
      simp only [Option.bind_some] at h
      obtain ⟨p1, p2⟩ := parts_sound ht hg hp
      split at h
      · rename_i e hu
        cases hs : szT P e with
        | none => rw [hs] at h; cases h
        | some n =>
          rw [hs] at h
          simp only [Option.bind_some] at h
          cases hz : zeroT P e with
          | none => rw [hz] at h; cases h
          | some z =>
            rw [hz] at h
            simp only [Option.bind_some] at h
            cases hq : (Nat.ble (len * n) (2 ^ 24) && Nat.beq z.cells.length n) with
            | false => rw [hq] at h; cases h
            | true =>
              rw [hq] at h
              simp only [cond] at h
              simp only [Bool.and_eq_true] at hq
              have hle : len * n ≤ 2 ^ 24 := Nat.le_of_ble_eq_true hq.1
              have hzn := beq_eq hq.2
              cases hf : fillA (fun i => some (i * n, n)) (repN len z.cells) l with
              | none => rw [hf] at h; cases h
              | some cs =>
                rw [hf] at h
                simp only [Option.map_some, Option.some.injEq, Prod.mk.injEq] at h
                obtain ⟨rfl, rfl⟩ := h
                obtain ⟨zv, z1, z2⟩ := run_zero hz w
                have hcl := zeros_conc (z2 ρ) len (len * n) (by rw [hzn])
                have hps : (ps.map fun p => (p.1, a.eval p.2)).toList = ps.toList.map fun p => (p.1, a.eval p.2) := by simp
                rw [← hps] at p1 p2
                obtain ⟨ys, y1, y2⟩ := fillA_sound hf hcl p1 p2
                refine ⟨.cells ys.toArray e, ?_, fun ρ' hs => ⟨rfl, ⟨ys, concL_sub hs _ _ y1, rfl⟩, fun _ o _ hh => by simp at hh⟩⟩
                rw [Array.toArray_toList] at y2
                have hnot : ¬ (len * n > 2 ^ 24) := by omega
                have e0 : ∀ f : Nat → Value, Array.map f (Array.range 0) = #[] := fun f => by simp
                have key : (Instr.buildSlice t len (ps.map fun p => (p.1, a.eval p.2))).run P w = .ok (newX w.heap.size (some len)) (w.alloc (.cells ys.toArray e)) := by
                  simp only [Instr.buildSlice, Sem.run_bind, run_underlying hu, Result.andThen_ok, run_sizeOf' hs, Sem.run_ite, hnot, if_false, Sem.run_pure]
                  by_cases h0 : len * n = 0
                  · simp only [h0, e0] at y2
                    simp only [h0, e0, if_true, y2, newRow, Sem.run_bind, run_newObj_alloc, Sem.run_pure, Result.andThen_ok, newX]
                  · simp only [h0, if_false, z1, y2, newRow, Sem.run_bind, run_newObj_alloc, Sem.run_pure, Result.andThen_ok, newX]
                show (do Pure.pure (Next.value (← Instr.buildSlice t len (ps.map fun (p : Nat × Operand) => (p.1, a.eval p.2))))).run P w = _
                simp only [Sem.run_bind, key, Result.andThen_ok, Sem.run_pure]
      · cases h
  all_goals (simp [newA] at h)

/-! ### What turns nothing -/
theorem map2 {α : Type} {x : Option α} {f : α → AV} {q : AV × AS} (hx : (x.map fun v => (f v, σ)) = some q) : q.2 = σ := by
  cases x with
  | none => cases hx
  | some y => simp only [Option.map_some, Option.some.injEq] at hx; rw [← hx]
theorem bind2 {α β : Type} {x : Option α} {f : α → Option β} {q : β} (hx : x.bind f = some q) : ∃ y, x = some y ∧ f y = some q := by
  cases x with
  | none => cases hx
  | some y => exact ⟨y, rfl, hx⟩
theorem some2 {v : AV} {q : AV × AS} (hx : some (v, σ) = some q) : q.2 = σ := by cases hx; rfl
theorem cond2 {c : Bool} {v : AV} {q : AV × AS} (hx : cond c (some (v, σ)) none = some q) : q.2 = σ := by
  cases c with
  | false => cases hx
  | true => exact some2 hx
theorem cond2' {c : Bool} {v : AV} {q : AV × AS} (hx : cond c none (some (v, σ)) = some q) : q.2 = σ := by
  cases c with
  | true => cases hx
  | false => exact some2 hx
theorem ite2 {c : Prop} [Decidable c] {x : Option (AV × AS)} {q : AV × AS} (hx : (if c then x else none) = some q) : x = some q := by
  split at hx
  · exact hx
  · cases hx

theorem len_same {P : Program} {ats : List TypeId} {l : List AV} {q : AV × AS} (h : builtinA P .len ats l σ = some q) : q.2 = σ := by
  cases ats with
  | nil => simp [builtinA] at h
  | cons t ts =>
    cases l with
    | nil => simp [builtinA] at h
    | cons x xs =>
      simp only [builtinA] at h
      split at h
      · exact some2 h
      · exact some2 h
      · exact some2 h
      · exact some2 h
      · exact some2 h
      · split at h
        · exact some2 h
        · cases h
      · cases h
theorem cap_same {P : Program} {ats : List TypeId} {l : List AV} {q : AV × AS} (h : builtinA P .cap ats l σ = some q) : q.2 = σ := by
  cases ats with
  | nil => simp [builtinA] at h
  | cons t ts =>
    cases l with
    | nil => simp [builtinA] at h
    | cons x xs =>
      simp only [builtinA] at h
      split at h
      · exact some2 h
      · exact some2 h
      · cases h

theorem minmax_same {P : Program} {ats : List TypeId} {l : List AV} {b : Builtin} {v : AV} (hb : b = .min ∨ b = .max) (h : builtinA P b ats l σ = some (v, σ')) : σ' = σ := by
  rcases hb with rfl | rfl
  · cases l with
    | nil => simp [builtinA] at h
    | cons x r => simp only [builtinA] at h; exact map2 h
  · cases l with
    | nil => simp [builtinA] at h
    | cons x r => simp only [builtinA] at h; exact map2 h

theorem flt_same {P : Program} {G : Nat} {T : Tm} {op : Op} {v : AV} (hf : fltA op = true) (h : opA P G T σ op = some (v, σ')) : σ' = σ := by
  cases op
  case move x => exact map2 h
  case assign x => exact map2 h
  case pick c x y => simp only [opA] at h; split at h; exact map2 h; cases h
  case load t a => simp only [opA] at h; split at h; exact map2 h; cases h
  case nilCheck x =>
    simp only [opA] at h
    split at h
    · exact some2 h
    · exact some2 h
    · exact some2 h
    · exact some2 h
    · exact cond2 h
    · cases h
  case binOp op t x y _ => simp only [opA] at h; obtain ⟨_, _, h⟩ := bind2 h; obtain ⟨_, _, h⟩ := bind2 h; exact map2 h
  case unOp op t x =>
    simp only [opA] at h
    split at h
    · exact some2 h
    · exact some2 h
    · exact map2 h
    · cases h
  case makeInterface t x => simp only [opA] at h; split at h; cases h; exact map2 h; cases h
  case makeFunc fn fi ca => simp only [opA] at h; split at h; cases h; obtain ⟨_, _, h⟩ := bind2 h; exact map2 h
  case slice t x lo hi mx =>
    simp only [opA] at h
    obtain ⟨_, _, h⟩ := bind2 h; obtain ⟨_, _, h⟩ := bind2 h; obtain ⟨_, _, h⟩ := bind2 h; obtain ⟨_, _, h⟩ := bind2 h
    exact map2 (f := id) h
  case fieldAddr s x f =>
    simp only [opA] at h
    split at h
    · split at h
      · obtain ⟨_, _, h⟩ := bind2 h; exact cond2' h
      · cases h
    · cases h
  case field t x f =>
    simp only [opA] at h
    split at h
    · split at h
      · exact map2 (f := id) h
      · cases h
    · cases h
  case indexAddr t x ix =>
    simp only [opA] at h
    split at h
    · obtain ⟨_, _, h⟩ := bind2 h; exact some2 (ite2 h)
    · obtain ⟨_, _, h⟩ := bind2 h; exact some2 (ite2 h)
    · cases h
  case index t x ix =>
    simp only [opA] at h
    split at h
    · obtain ⟨_, _, h⟩ := bind2 h; exact map2 (f := id) (ite2 h)
    · have h := ite2 h
      split at h
      · exact some2 h
      · cases h
    · cases h
  case lookup t x ix ok =>
    simp only [opA] at h
    obtain ⟨_, _, h⟩ := bind2 h; obtain ⟨_, _, h⟩ := bind2 h; obtain ⟨_, _, h⟩ := bind2 h
    split at h
    · exact some2 h
    · exact map2 h
  case extract t ix =>
    simp only [opA] at h
    split at h
    · split at h
      · exact some2 h
      · cases h
    · cases h
  case typeAssert x t a ok =>
    simp only [opA] at h
    split at h
    · split at h
      · split at h
        · split at h
          · exact some2 h
          · cases h
        · cases h
      · exact some2 (ite2 h)
      · cases h
    · cases h
  case call c =>
    obtain ⟨callee, args, ats⟩ := c
    cases callee with
    | builtin b =>
      cases b <;> simp only [fltA, Bool.false_eq_true] at hf
      · simp only [opA] at h
        obtain ⟨l, _, h⟩ := bind2 h
        exact cap_same h
      · simp only [opA] at h
        obtain ⟨l, _, h⟩ := bind2 h
        exact len_same h
      · simp only [opA] at h
        obtain ⟨l, _, h⟩ := bind2 h
        exact minmax_same (by simp) h
      · simp only [opA] at h
        obtain ⟨l, _, h⟩ := bind2 h
        exact minmax_same (by simp) h
    | value f => simp [fltA] at hf
    | invoke r n => simp [fltA] at hf
  all_goals (simp [fltA] at hf)

theorem pure_any {P : Program} {G : Nat} {T : Tm} {op : Op} (hp : pureA op = true) : (opA P G T σ op).map (·.1) = (opA P G T σ' op).map (·.1) := by
  cases op
  case call c =>
    obtain ⟨callee, args, ats⟩ := c
    cases callee with
    | builtin b =>
      cases b <;> simp only [pureA, Bool.false_eq_true] at hp
      all_goals
        simp only [opA, Option.map_bind]
        congr 1
        funext l
        cases l with
        | nil => simp [builtinA]
        | cons x r => simp [builtinA, Function.comp_def]
    | value f => simp [pureA] at hp
    | invoke r n => simp [pureA] at hp
  case nilCheck x =>
    simp only [opA]
    split <;> first | rfl | skip
    rename_i t v r b _
    cases aheadA P t _ <;> rfl
  case makeInterface t x => simp only [opA]; split <;> simp [Function.comp_def]
  case makeFunc fn fi ca => simp only [opA]; split <;> simp [Function.comp_def, Option.map_bind]
  case fieldAddr s x f =>
    simp only [opA]
    split
    · split
      · simp only [Option.map_bind]
        congr 1
        funext n
        simp only [Function.comp_def]
        cases Nat.beq n 0 <;> rfl
      · rfl
    · rfl
  case indexAddr t x ix =>
    simp only [opA]
    split
    · simp only [Option.map_bind]
      congr 1
      funext n
      simp only [Function.comp_def]
      split <;> rfl
    · simp only [Option.map_bind]
      congr 1
      funext n
      simp only [Function.comp_def]
      split <;> rfl
    · rfl
  case index t x ix =>
    simp only [opA]
    split
    · simp only [Option.map_bind]
      congr 1
      funext n
      simp only [Function.comp_def]
      split <;> simp [Function.comp_def]
    · split
      · split <;> rfl
      · rfl
    · rfl
  case extract t ix =>
    simp only [opA]
    split
    · split <;> rfl
    · rfl
  case binOp op t x y _ => simp only [opA, Option.map_bind, Function.comp_def, Option.map_map]
  case unOp op t x => simp only [opA]; split <;> simp [Function.comp_def]
  case field t x f => simp only [opA]; split <;> first | rfl | (split <;> simp [Function.comp_def])
  case pick c x y => simp only [opA]; split <;> simp [Function.comp_def]
  case move x => simp only [opA, Option.map_map, Function.comp_def]
  case assign x => simp only [opA, Option.map_map, Function.comp_def]
  all_goals (simp [pureA] at hp)

theorem pure_evalF {P : Program} {G : Nat} {T : Tm} {o : Oper} (hp : pureA o.op = true) : evalF P G ops T σ o = evalF P G ops T σ' o := by
  unfold evalF
  split
  · exact pure_any hp
  · rfl
  · rfl

/-! a load from elsewhere -/
theorem setN_out : ∀ {vs : List AV} {o : Nat} {cs cs' : List AV}, setN o vs cs = some cs' → cs'.length = cs.length ∧ ∀ k, k < o ∨ o + vs.length ≤ k → cs'[k]? = cs[k]?
  | [], o, cs, cs', h => by simp only [setN, Option.some.injEq] at h; subst h; exact ⟨rfl, fun _ _ => rfl⟩
  | v :: vs, o, cs, cs', h => by
    simp only [setN] at h
    cases hc : (v.one && Nat.blt o cs.length) with
    | false => rw [hc] at h; cases h
    | true =>
      rw [hc] at h
      obtain ⟨h1, h2⟩ := setN_out (vs := vs) h
      refine ⟨by rw [h1, List.length_set], fun k hk => ?_⟩
      rw [h2 k (by simp only [List.length_cons] at hk; omega), List.getElem?_set_ne (by simp only [List.length_cons] at hk; omega)]

theorem takeN_congr {α : Type} : ∀ {n : Nat} {l l' : List α}, (∀ k, k < n → l[k]? = l'[k]?) → takeN n l = takeN n l'
  | 0, _, _, _ => rfl
  | n + 1, l, l', h => by
    have h0 := h 0 (by omega)
    cases l with
    | nil =>
      cases l' with
      | nil => rfl
      | cons y r => simp at h0
    | cons x r =>
      cases l' with
      | nil => simp at h0
      | cons y r' =>
        simp only [List.getElem?_cons_zero, Option.some.injEq] at h0
        subst h0
        simp only [takeN]
        rw [takeN_congr (l := r) (l' := r') fun k hk => by have := h (k + 1) (by omega); simpa using this]

theorem storeT_loadT {P : Program} {t t' : TypeId} {bi bo bn i o n : Nat} {x : AV} (hs : storeT P t bi bo x σ = some σ') (hn : szT P t = some bn) (hm : szT P t' = some n)
    (ha : (!(Nat.beq bi i) || (Nat.ble (o + n) bo && Nat.blt o bo) || Nat.ble (bo + bn) o) = true) : loadT P t' i o σ' = loadT P t' i o σ := by
  unfold storeT at hs
  rw [hn] at hs
  simp only [Option.bind_some] at hs
  cases hl : Nat.beq x.cells.length bn with
  | false => rw [hl] at hs; cases hs
  | true =>
    rw [hl] at hs
    have hlen := Nat.eq_of_beq_eq_true hl
    simp only [cond, storeN] at hs
    split at hs
    · rename_i cs e q hg
      cases hset : setN bo x.cells cs with
      | none => rw [hset] at hs; cases hs
      | some cs' =>
        rw [hset] at hs
        simp only [Option.map_some, Option.some.injEq] at hs
        subst hs
        obtain ⟨h1, h2⟩ := setN_out hset
        have hlt := AS.get_lt hg
        by_cases hbi : bi = i
        · subst hbi
          have hq : ∀ k, (o ≤ k ∧ k < o + n ∨ k = o) → cs'[k]? = cs[k]? := fun k hk => h2 k (by
            simp only [Nat.beq_refl, Bool.not_true, Bool.false_or, Bool.or_eq_true, Bool.and_eq_true, Nat.ble_eq] at ha
            rcases ha with ⟨a1, a2⟩ | a1
            · have := blt_lt a2; omega
            · omega)
          unfold loadT
          cases isAggT P t' with
          | none => rfl
          | some b =>
            cases b with
            | false =>
              simp only
              rw [AS.get_put_same hlt, hg]
              exact hq o (.inr rfl)
            | true =>
              simp only [hm, Option.bind_some, loadN]
              rw [AS.get_put_same hlt, hg]
              simp only
              rw [takeN_congr (l := cs'.drop o) (l' := cs.drop o) fun k hk => by rw [List.getElem?_drop, List.getElem?_drop]; exact hq _ (.inl (by omega))]
        · unfold loadT loadN
          rw [AS.get_put_ne hlt hbi]
    · cases hs

theorem apart_evalF {go : ExecT} {T Tr : Tm} {o r : Oper} {v x : AV} (he : evalE E go ops T σ o = some (v, σ')) (ha : apartA E.P E.G (wroteA E.P E.G ops T o) Tr r.op = true) (hr : evalF E.P E.G ops Tr σ r = some x) :
    evalF E.P E.G ops Tr σ' r = some x := by
  unfold wroteA at ha
  split at ha
  · rename_i t a y hop
    split at ha
    · rename_i bi bo bn hw hae hsz
      unfold apartA at ha
      split at ha
      · rename_i bi' bo' bn' t' a' heq hrop
        cases heq
        split at ha
        · rename_i i oo n hae' hsz'
          unfold evalE at he
          rw [hw] at he
          unfold opStep at he
          rw [hop] at he
          simp only [opA, hae] at he
          cases hy : aeval T E.G y with
          | none => rw [hy] at he; cases he
          | some yv =>
            rw [hy] at he
            simp only [Option.bind_some] at he
            cases hst : storeT E.P t bi bo yv σ with
            | none => rw [hst] at he; cases he
            | some σ1 =>
              rw [hst] at he
              simp only [Option.map_some, Option.some.injEq, Prod.mk.injEq] at he
              obtain ⟨_, rfl⟩ := he
              rw [← hr]
              unfold evalF
              split
              · rw [hrop]
                simp only [opA, hae']
                rw [storeT_loadT hst hsz hsz' ha]
                simp [Function.comp_def]
              · rfl
              · rfl
        · cases ha
      · cases ha
    · unfold apartA at ha
      simp at ha
  · unfold apartA at ha
    simp at ha

theorem flt_opStep {T : Tm} {o : Oper} {q : AV × AS} (hf : fltA o.op = true) (h : opA E.P E.G T σ o.op = some q) : opStep E go T σ o = some q := by
  obtain ⟨dst, op, ty, pos, after, guard⟩ := o
  simp only at h hf
  cases op <;> first | exact h | skip
  rename_i c
  obtain ⟨callee, args, ats⟩ := c
  cases callee with
  | builtin b => exact h
  | value f => simp [fltA] at hf
  | invoke r n => simp [fltA] at hf

theorem evalF_E {T : Tm} {o : Oper} {v : AV} (hf : fltA o.op = true) (h : evalF E.P E.G ops T σ o = some v) : evalE E go ops T σ o = some (v, σ) := by
  unfold evalF at h
  unfold evalE
  cases hw : wantedA T ops o with
  | none => rw [hw] at h; cases h
  | some b =>
    rw [hw] at h
    cases b with
    | false => simp only [Option.some.injEq] at h; subst h; rfl
    | true =>
      simp only at h ⊢
      cases ho : opA E.P E.G T σ o.op with
      | none => rw [ho] at h; cases h
      | some q =>
        rw [ho] at h
        simp only [Option.map_some, Option.some.injEq] at h
        subst h
        obtain ⟨x, y⟩ := q
        have := flt_same hf ho
        subst this
        exact flt_opStep hf ho
end
end Go.Det
