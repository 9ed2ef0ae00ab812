/- All operations that are no calls of Go functions: what the evaluator does stands for what the model does. Conditions: none. -/
import Derived.Test.YtkbninmkgjhfmaaGreatDoorDetOps8
set_option maxHeartbeats 400000
namespace Go.Det
open Go
section
variable {P : Program} {B : Nat → Prop} {w0 w : World} {ρ : Rho} {σ σ' : AS}

theorem set_foldl {o : Nat} : ∀ {vs : List AV} {ws : List Value} {k : Nat} {cs cs' : List AV} {xs : List Value}, setN (o + k) vs cs = some cs' → concL ρ vs = some ws → concL ρ cs = some xs →
    concL ρ cs' = some ((ws.zipIdx k).foldl (fun (a : Array Value) p => a.setIfInBounds (o + p.2) p.1) xs.toArray).toList
  | [], ws, k, cs, cs', xs, h, hv, hc => by
    simp only [setN, Option.some.injEq] at h
    simp only [concL, Option.some.injEq] at hv
    subst h; subst hv
    simpa using hc
  | v :: vs, ws, k, cs, cs', xs, h, hv, hc => by
    obtain ⟨x, ys, h1, h2, rfl⟩ := concL_cons hv
    simp only [setN] at h
    cases hq : (v.one && Nat.blt (o + k) cs.length) with
    | false => rw [hq] at h; cases h
    | true =>
      rw [hq] at h
      simp only [cond] at h
      have hset := concL_set (o + k) hc h1
      rw [set_foldl (o := o) (k := k + 1) h h2 hset]
      simp [List.zipIdx_cons]

theorem fillA_sound {place : Nat → Option (Nat × Nat)} : ∀ {l : List (Nat × AV)} {L : List (Nat × Value)} {cs cs' : List AV} {xs : List Value}, fillA place cs l = some cs' → concL ρ cs = some xs →
    l.map (·.1) = L.map (·.1) → concL ρ (l.map (·.2)) = some (L.map (·.2)) → ∃ ys, concL ρ cs' = some ys ∧ Instr.fill place xs.toArray L = some ys.toArray
  | [], L, cs, cs', xs, h, hc, hi, _ => by
    simp only [fillA, Option.some.injEq] at h
    subst h
    cases L with
    | nil => exact ⟨xs, hc, rfl⟩
    | cons _ _ => simp at hi
  | (i, v) :: l, [], cs, cs', xs, h, hc, hi, _ => by simp at hi
  | (i, v) :: l, (j, V) :: L, cs, cs', xs, h, hc, hi, hv => by
    simp only [List.map_cons, List.cons.injEq] at hi
    obtain ⟨rfl, hi⟩ := hi
    simp only [List.map_cons] at hv
    obtain ⟨x, ys, h1, h2, he⟩ := concL_cons hv
    simp only [List.cons.injEq] at he
    obtain ⟨rfl, rfl⟩ := he
    simp only [fillA] at h
    cases hp : place i with
    | none => rw [hp] at h; cases h
    | some p =>
      rw [hp] at h
      simp only [Option.bind_some] at h
      cases hq : (Nat.beq v.cells.length p.2 && Nat.ble (p.1 + p.2) cs.length) with
      | false => rw [hq] at h; cases h
      | true =>
        rw [hq] at h
        simp only [cond] at h
        simp only [Bool.and_eq_true] at hq
        cases hs : setN p.1 v.cells cs with
        | none => rw [hs] at h; cases h
        | some cs1 =>
          rw [hs] at h
          simp only [Option.bind_some] at h
          have hcells := conc_cells h1
          have hlen := concL_length hcells
          rw [Array.length_toList] at hlen
          have k2 := set_foldl (o := p.1) (k := 0) hs hcells hc
          obtain ⟨ys, y1, y2⟩ := fillA_sound h k2 hi h2
          refine ⟨ys, y1, ?_⟩
          have hxl := concL_length hc
          obtain ⟨off, size⟩ := p
          have hsz : V.cells.size = size := by rw [hlen]; exact beq_eq hq.1
          have hle : off + size ≤ cs.length := Nat.le_of_ble_eq_true hq.2
          have hnot : ¬ (off + size > xs.toArray.size) := by simp only [List.size_toArray]; omega
          rw [← y2]
          simp only [Instr.fill, hp, hsz, ne_eq, not_true_eq_false, hnot, decide_false, Bool.or_self, Bool.false_eq_true, if_false]
          rw [← Array.foldl_toList, Array.toList_zipIdx]

theorem mapM_run {α β : Type} {g : α → Sem β} {f : α → β} {l : List α} (h : ∀ x, x ∈ l → ∀ w, (g x).run P w = .ok (f x) w) (w : World) : (l.mapM g).run P w = .ok (l.map f) w := by
  induction l with
  | nil => rfl
  | cons a l ih =>
    simp only [List.mapM_cons, Sem.run_bind, h a (by simp) w, Result.andThen_ok, ih (fun x hx => h x (by simp [hx])), Sem.run_pure, List.map_cons]

theorem parts_sound {T : Tm} {G : Nat} {a : Act} (ht : TRel ρ T a.tmps) (hg : GR ρ G) : ∀ {ps : List (Nat × Operand)} {l : List (Nat × AV)}, partsA T G ps = some l →
    l.map (·.1) = (ps.map fun p => (p.1, a.eval p.2)).map (·.1) ∧ concL ρ (l.map (·.2)) = some ((ps.map fun p => (p.1, a.eval p.2)).map (·.2))
  | [], l, h => by simp only [partsA, Option.some.injEq] at h; subst h; exact ⟨rfl, rfl⟩
  | (i, x) :: r, l, h => by
    simp only [partsA] at h
    cases e : aeval T G x with
    | none => rw [e] at h; cases h
    | some v =>
      cases e' : partsA T G r with
      | none => rw [e, e'] at h; cases h
      | some l' =>
        rw [e, e'] at h
        simp only [Option.bind_some, Option.map_some, Option.some.injEq] at h
        subst h
        obtain ⟨h1, h2⟩ := parts_sound ht hg e'
        exact ⟨by simp [h1], concL_mk (aeval_sound e ht hg) h2⟩

theorem build_sound {t : TypeId} {z : AV} {l : List (Nat × AV)} {L : Array (Nat × Value)} {v : AV} (hz : zeroT P t = some z)
    (h : (match P.underlying t with
     | some (.struct fs) => cond (fs.toList.all fun f => (szT P f.type).isSome) ((fillA (fun i => match fs[i]? with | some f => (szT P f.type).map fun n => (f.offset, n) | none => none) z.cells l).map fun cs => (AV.agg cs, σ)) none
     | some (.array _ e) => (szT P e).bind fun n => (fillA (fun i => some (i * n, n)) z.cells l).map fun cs => (AV.agg cs, σ)
     | _ => none) = some (v, σ')) (hr : Rel B w0 ρ σ w) (h1 : l.map (·.1) = L.toList.map (·.1)) (h2 : concL ρ (l.map (·.2)) = some (L.toList.map (·.2))) : VR P B w0 (Instr.build t L) ρ w v σ' := by
  obtain ⟨zv, z1, z2⟩ := run_zero hz w
  have hzc := conc_cells (z2 ρ)
  split at h
  · rename_i fs hu
    cases hall : (fs.toList.all fun f => (szT P f.type).isSome) with
    | false => rw [hall] at h; cases h
    | true =>
      rw [hall] at h
      simp only [cond] at h
      cases hf : fillA (fun i => match fs[i]? with | some f => (szT P f.type).map fun n => (f.offset, n) | none => none) z.cells l with
      | none => rw [hf] at h; cases h
      | some cs =>
        rw [hf] at h
        simp only [Option.map_some, Option.some.injEq, Prod.mk.injEq] at h
        obtain ⟨rfl, rfl⟩ := h
        obtain ⟨ys, y1, y2⟩ := fillA_sound hf hzc h1 h2
        have hm : (fs.mapM fun (f : Field) => do pure (f.offset, ← sizeOf f.type)).run P w = .ok (fs.map fun (f : Field) => (f.offset, (szT P f.type).getD 0)) w := by
          rw [Array.mapM_eq_mapM_toList]
          simp only [Sem.run_map]
          rw [mapM_run (f := fun (f : Field) => (f.offset, (szT P f.type).getD 0)) (fun f hf w => by
            have := List.all_eq_true.1 hall f hf
            cases hs : szT P f.type with
            | none => rw [hs] at this; cases this
            | some n => simp [run_sizeOf' hs])]
          simp only [Result.andThen_ok]
          congr 1
          apply Array.toList_inj.1
          simp
        have hpl : (fun (i : Nat) => (fs.map fun (f : Field) => (f.offset, (szT P f.type).getD 0))[i]?) = fun (i : Nat) => match fs[i]? with | some f => (szT P f.type).map fun n => (f.offset, n) | none => none := by
          funext i
          rw [Array.getElem?_map]
          cases hfi : fs[i]? with
          | none => rfl
          | some f =>
            have := List.all_eq_true.1 hall f (Array.mem_toList_iff.2 (Array.mem_of_getElem? hfi))
            cases hs : szT P f.type with
            | none => rw [hs] at this; cases this
            | some n => simp [hs]
        refine VR.pure (x := .agg ys.toArray) ?_ hr (by simp [conc, y1])
        simp only [Array.toArray_toList] at y2
        simp only [Instr.build, Sem.run_bind, z1, Result.andThen_ok, run_underlying hu, hm, hpl, y2, Sem.run_pure]
  · rename_i n e hu
    cases hs : szT P e with
    | none => rw [hs] at h; cases h
    | some n =>
      rw [hs] at h
      simp only [Option.bind_some] at h
      cases hf : fillA (fun i => some (i * n, n)) z.cells l with
      | none => rw [hf] at h; cases h
      | some cs =>
        rw [hf] at h
        simp only [Option.map_some, Option.some.injEq, Prod.mk.injEq] at h
        obtain ⟨rfl, rfl⟩ := h
        obtain ⟨ys, y1, y2⟩ := fillA_sound hf hzc h1 h2
        refine VR.pure (x := .agg ys.toArray) ?_ hr (by simp [conc, y1])
        simp only [Array.toArray_toList] at y2
        simp only [Instr.build, Sem.run_bind, z1, Result.andThen_ok, run_underlying hu, run_sizeOf' hs, y2, Sem.run_pure]
  · cases h
end
end Go.Det
