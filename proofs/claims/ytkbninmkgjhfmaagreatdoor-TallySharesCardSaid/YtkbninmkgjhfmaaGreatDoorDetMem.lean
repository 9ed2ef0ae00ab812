/- Reading and writing cells: what the evaluator does stands for what the model does. Conditions: none. -/
import Derived.Test.YtkbninmkgjhfmaaGreatDoorDetExec
import Derived.Laws.Cells
import Derived.Laws.Entries
set_option maxHeartbeats 400000
namespace Go.Det
open Go
section
variable {P : Program} {B : Nat → Prop} {w0 w : World} {ρ : Rho} {σ σ' : AS}

theorem takeN_some {α : Type} : ∀ (n : Nat) (l r : List α), takeN n l = some r → r = l.take n ∧ r.length = n
  | 0, l, r, h => by simp only [takeN, Option.some.injEq] at h; subst h; simp
  | n + 1, [], r, h => by simp [takeN] at h
  | n + 1, v :: l, r, h => by
    simp only [takeN] at h
    cases e : takeN n l with
    | none => rw [e] at h; cases h
    | some r' =>
      rw [e] at h
      simp only [Option.map_some, Option.some.injEq] at h
      subst h
      obtain ⟨h1, h2⟩ := takeN_some n l r' e
      subst h1
      simp at h2 ⊢
      omega

theorem get_of_takeN {α : Type} {n o j : Nat} {l r : List α} {v : α} (h : takeN n (l.drop o) = some r) (hj : r[j]? = some v) : l[o + j]? = some v := by
  obtain ⟨h1, h2⟩ := takeN_some n _ r h
  subst h1
  have hlt := (List.getElem?_eq_some_iff.1 hj).1
  rw [List.getElem?_take] at hj
  split at hj
  · simpa using hj
  · cases hj

theorem add_spotless (b o k : Nat) : (⟨b, o, none⟩ : Addr).add k = ⟨b, o + k, none⟩ := by unfold Addr.add; split <;> simp_all

theorem concL_get' {ρ : Rho} : ∀ (n : Nat) {a : List AV} {x : List Value} {u : Value}, concL ρ a = some x → x[n]? = some u → ∃ v, a[n]? = some v ∧ conc ρ v = some u
  | n, [], x, u, h, k => by simp only [concL, Option.some.injEq] at h; subst h; simp at k
  | 0, v :: r, x, u, h, k => by
    obtain ⟨y, z, h1, h2, rfl⟩ := concL_cons h
    simp only [List.getElem?_cons_zero, Option.some.injEq] at k; subst k
    exact ⟨v, by simp, h1⟩
  | n + 1, v :: r, x, u, h, k => by
    obtain ⟨y, z, h1, h2, rfl⟩ := concL_cons h
    simp only [List.getElem?_cons_succ] at k ⊢
    exact concL_get' n h2 k

/-- Cells of a row, read. -/
theorem run_loadN {i b N o n : Nat} {l : List AV} (h : loadN σ i o n = some l) (hr : Rel B w0 ρ σ w) (hb : ρ i = some (b, N)) :
    ∃ xs, concL ρ l = some xs ∧ xs.length = n ∧ (loadCells ⟨b, o, none⟩ n).run P w = .ok xs.toArray w := by
  unfold loadN at h
  cases hg : σ.get i with
  | none => rw [hg] at h; cases h
  | some ob =>
    cases ob with
    | cells cs e wr q =>
      rw [hg] at h
      simp only at h
      obtain ⟨hl, hn⟩ := takeN_some n _ l h
      obtain ⟨ob, h1, h2, _⟩ := hr.objs i _ hg b N hb
      cases ob with
      | cells c e' fr =>
        obtain ⟨_, ⟨ls, hls, _⟩, _⟩ := h2
        have hx : concL ρ l = some ((ls.drop o).take n) := by rw [hl]; exact concL_take n (concL_drop o hls)
        have hlen := concL_length hx
        refine ⟨_, hx, hlen.trans hn, ?_⟩
        have := run_loadCells_list (P := P) w ⟨b, o, none⟩ ((ls.drop o).take n) (fun j u hj => by
          obtain ⟨v, hv, hc⟩ := concL_get' j hx hj
          have hv' := get_of_takeN h hv
          obtain ⟨x, hx1, hx2⟩ := hr.cell hg hb hv'
          rw [hc] at hx2
          cases hx2
          rw [add_spotless]
          exact hx1)
        rw [hlen, hn] at this
        exact this
      | _ => exact h2.elim
    | _ => rw [hg] at h; cases h

theorem conc_one {v : AV} {x : Value} (h : conc ρ v = some x) (h1 : v.one = true) : x.oneCell' = true := by
  cases v with
  | agg cs => simp [AV.one] at h1
  | tuple cs => simp [AV.one] at h1
  | ann v tag => obtain ⟨k, n, rfl⟩ := annP_int (conc_ann h).2; rfl
  | bool b => simp only [conc, Option.some.injEq] at h; subst h; rfl
  | int k n => simp only [conc, Option.some.injEq] at h; subst h; rfl
  | str s => simp only [conc, Option.some.injEq] at h; subst h; rfl
  | ptr a =>
    cases a with
    | none => simp only [conc, Option.some.injEq] at h; subst h; rfl
    | some p => simp only [conc] at h; cases hp : ρ p.1 with
      | none => rw [hp] at h; cases h
      | some q => rw [hp] at h; simp only [Option.map_some, Option.some.injEq] at h; subst h; rfl
  | slice a l c q =>
    cases a with
    | none =>
      simp only [conc] at h
      cases q <;> simp at h
      subst h; rfl
    | some p => simp only [conc] at h; cases hp : ρ p.1 with
      | none => rw [hp] at h; cases h
      | some r =>
        rw [hp] at h
        simp only [Option.bind_some, concS] at h
        split at h
        · split at h
          · cases h; rfl
          · cases h
        · cases h; rfl
  | eslice i o alt skip q =>
    simp only [conc] at h
    cases hp : ρ i with
    | none => rw [hp] at h; cases h
    | some r =>
      rw [hp] at h
      simp only [Option.bind_some, concZ] at h
      split at h
      · cases h; rfl
      · split at h
        · cases h; rfl
        · cases h
  | map a =>
    cases a with
    | none => simp only [conc, Option.some.injEq] at h; subst h; rfl
    | some p => simp only [conc] at h; cases hp : ρ p with
      | none => rw [hp] at h; cases h
      | some q => rw [hp] at h; simp only [Option.map_some, Option.some.injEq] at h; subst h; rfl
  | func fn a c =>
    simp only [conc] at h
    cases e1 : concFn ρ fn with
    | none => rw [e1] at h; cases h
    | some f =>
      cases e2 : concL ρ a with
      | none => rw [e1, e2] at h; cases h
      | some xs =>
        cases e3 : concL ρ c with
        | none => rw [e1, e2, e3] at h; cases h
        | some ys => rw [e1, e2, e3] at h; simp only [Option.bind_some, Option.map_some, Option.some.injEq] at h; subst h; rfl
  | nilFunc => simp only [conc, Option.some.injEq] at h; subst h; rfl
  | iface t v =>
    simp only [conc] at h
    cases e1 : conc ρ v with
    | none => rw [e1] at h; cases h
    | some f => rw [e1] at h; simp only [Option.map_some, Option.some.injEq] at h; subst h; rfl
  | nilIface => simp only [conc, Option.some.injEq] at h; subst h; rfl

/-- A row of cells as the evaluator knows it. -/
def RowR (ρ : Rho) (cs : List AV) (q : Option Nat) (N : Nat) (c : Array Value) : Prop :=
  ∃ l, concL ρ cs = some l ∧ (match q with | none => c.toList = l | some sz => l <+: c.toList ∧ N * sz ≤ c.size ∧ cs.length ≤ N * sz)

theorem prefix_set {α : Type} {l m : List α} {n : Nat} {x : α} (h : l <+: m) (hn : n < l.length) : l.set n x <+: m.set n x := by
  obtain ⟨t, rfl⟩ := h
  rw [List.set_append_left _ _ hn]
  exact ⟨t, rfl⟩

theorem RowR.set {cs : List AV} {q : Option Nat} {N o : Nat} {c : Array Value} {v : AV} {x : Value} (h : RowR ρ cs q N c) (ho : o < cs.length) (hv : conc ρ v = some x) :
    RowR ρ (cs.set o v) q N (c.setIfInBounds o x) := by
  obtain ⟨l, hl, hq⟩ := h
  have hlen := concL_length hl
  refine ⟨l.set o x, concL_set o hl hv, ?_⟩
  cases q with
  | none => simp only at hq ⊢; rw [Array.toList_setIfInBounds, hq]
  | some sz =>
    simp only at hq ⊢
    refine ⟨?_, by simpa using hq.2.1, by simpa using hq.2.2⟩
    rw [Array.toList_setIfInBounds]
    exact prefix_set hq.1 (by omega)

theorem RowR.lt {cs : List AV} {q : Option Nat} {N o : Nat} {c : Array Value} (h : RowR ρ cs q N c) (ho : o < cs.length) : o < c.size := by
  obtain ⟨l, hl, hq⟩ := h
  have hlen := concL_length hl
  cases q with
  | none => simp only at hq; rw [← Array.length_toList, hq]; omega
  | some sz => simp only at hq; have := hq.1.length_le; rw [Array.length_toList] at this; omega

theorem run_store_row {b o : Nat} {c : Array Value} {e : TypeId} {fr : Nat × Nat} {x : Value} (hw : w.heap[b]? = some (.cells c e fr)) (ho : o < c.size) (hf : FrFree fr c.size) (hx : x.oneCell' = true) :
    (store ⟨b, o, none⟩ x).run P w = .ok () (w.putObj b (.cells (c.setIfInBounds o x) e fr)) := by
  rw [run_store P w _ x _ hx]
  have h1 : w.cell? ⟨b, o, none⟩ = some c[o] := by simp [World.cell?, hw, ho]
  have h2 : w.frozen? ⟨b, o, none⟩ = false := by
    simp only [World.frozen?, hw]
    have := hf o ho
    simp only [Bool.and_eq_false_iff, decide_eq_false_iff_not]
    by_cases h : fr.1 ≤ o
    · exact .inr fun h' => this ⟨h, h'⟩
    · exact .inl h
  simp only [h1, h2, Bool.false_eq_true, if_false]
  congr 1
  have hlt := lt_of_heap hw
  have hg : w.heap[b]'hlt = .cells c e fr := by rw [Array.getElem?_eq_getElem hlt] at hw; exact Option.some.inj hw
  simp only [World.setCell, World.putObj, Option.isSome_none, Bool.false_eq_true, if_false]
  congr 1
  apply Array.ext_getElem?
  intro j
  rw [Array.getElem?_modify, Array.getElem?_setIfInBounds]
  by_cases hj : b = j
  · subst hj
    simp [hg, hlt]
  · simp [hj]

theorem run_storeCells_row {b : Nat} {e : TypeId} {fr : Nat × Nat} {q : Option Nat} {N : Nat} : ∀ (vs : List AV) (xs : List Value) (o k : Nat) (cs cs' : List AV) (c : Array Value) (w : World),
    setN (o + k) vs cs = some cs' → concL ρ vs = some xs → w.heap[b]? = some (.cells c e fr) → RowR ρ cs q N c → FrFree fr c.size →
    ∃ w' c', (storeCells ⟨b, o, none⟩ xs k).run P w = .ok () w' ∧ w'.heap[b]? = some (.cells c' e fr) ∧ c'.size = c.size ∧ RowR ρ cs' q N c' ∧
      w'.os = w.os ∧ w'.tape = w.tape ∧ w'.output = w.output ∧ w'.heap.size = w.heap.size ∧ (∀ j, j ≠ b → w'.heap[j]? = w.heap[j]?)
  | [], xs, o, k, cs, cs', c, w, h, hx, hw, hrow, hf => by
    simp only [setN, Option.some.injEq] at h
    simp only [concL, Option.some.injEq] at hx
    subst h; subst hx
    exact ⟨w, c, rfl, hw, rfl, hrow, rfl, rfl, rfl, rfl, fun _ _ => rfl⟩
  | v :: vs, xs, o, k, cs, cs', c, w, h, hx, hw, hrow, hf => by
    obtain ⟨x, ys, hv, hys, rfl⟩ := concL_cons hx
    simp only [setN] at h
    cases hc : (v.one && Nat.blt (o + k) cs.length) with
    | false => rw [hc] at h; cases h
    | true =>
      rw [hc] at h
      simp only [cond] at h
      simp only [Bool.and_eq_true] at hc
      have hlt : o + k < cs.length := blt_lt hc.2
      have hst := run_store_row (P := P) hw (hrow.lt hlt) hf (conc_one hv hc.1)
      have hb := lt_of_heap hw
      have hw' : (w.putObj b (.cells (c.setIfInBounds (o + k) x) e fr)).heap[b]? = some (.cells (c.setIfInBounds (o + k) x) e fr) := World.putObj_heap_same hb
      obtain ⟨w', c', h1, h2, h3, h4, h5, h6, h7, h8, h9⟩ := run_storeCells_row vs ys o (k + 1) (cs.set (o + k) v) cs' (c.setIfInBounds (o + k) x) (w.putObj b (.cells (c.setIfInBounds (o + k) x) e fr)) h hys hw' (hrow.set hlt hv) (by simpa using hf)
      refine ⟨w', c', ?_, h2, by simpa using h3, h4, h5, h6, h7, by simpa using h8, fun j hj => by rw [h9 j hj, World.putObj_heap_other hj]⟩
      simp only [storeCells, Sem.run_bind, add_spotless, hst, Result.andThen_ok, h1]

/-- Cells of a row, written. -/
theorem run_storeN {i b N o : Nat} {vs : List AV} {xs : List Value} (h : storeN σ i o vs = some σ') (hr : Rel B w0 ρ σ w) (hb : ρ i = some (b, N)) (hx : concL ρ vs = some xs) :
    ∃ w', (storeCells ⟨b, o, none⟩ xs).run P w = .ok () w' ∧ Rel B w0 ρ σ' w' := by
  unfold storeN at h
  cases hg : σ.get i with
  | none => rw [hg] at h; cases h
  | some ob =>
    cases ob with
    | cells cs e wr q =>
      cases wr with
      | false => rw [hg] at h; cases h
      | true =>
        rw [hg] at h
        simp only at h
        cases hs : setN o vs cs with
        | none => rw [hs] at h; cases h
        | some cs' =>
          rw [hs] at h
          simp only [Option.map_some, Option.some.injEq] at h
          subst h
          obtain ⟨ob, h1, h2, h3⟩ := hr.objs i _ hg b N hb
          cases ob with
          | cells c e' fr =>
            obtain ⟨rfl, hrow, hfr⟩ := h2
            obtain ⟨w', c', k1, k2, k3, k4, k5, k6, k7, k8, k9⟩ := run_storeCells_row (P := P) (ρ := ρ) (q := q) (N := N) vs xs o 0 cs cs' c w (by simpa using hs) hx h1 hrow (hfr rfl)
            exact ⟨w', k1, hr.put (ob' := .cells c' e' fr) hg hb rfl ⟨rfl, k4, fun _ => by rw [k3]; exact hfr rfl⟩ k5 k6 k7 k8 k2 k9⟩
          | _ => exact h2.elim
    | _ => rw [hg] at h; cases h

/-! types -/
theorem szT_some {t : TypeId} {n : Nat} (h : szT P t = some n) : ∃ i, P.info? t = some i ∧ i.size = n := by
  unfold szT at h
  cases e : P.info? t with
  | none => rw [e] at h; cases h
  | some i => rw [e] at h; exact ⟨i, rfl, Option.some.inj h⟩
theorem byT_some {t : TypeId} {n : Nat} (h : byT P t = some n) : ∃ i, P.info? t = some i ∧ i.bytes = n := by
  unfold byT at h
  cases e : P.info? t with
  | none => rw [e] at h; cases h
  | some i => rw [e] at h; exact ⟨i, rfl, Option.some.inj h⟩

theorem run_typeInfo' {t : TypeId} {i : TypeInfo} (h : P.info? t = some i) (w : World) : (typeInfo t).run P w = .ok i w := by
  simp [typeInfo, h]
theorem run_sizeOf' {t : TypeId} {n : Nat} (h : szT P t = some n) (w : World) : (sizeOf t).run P w = .ok n w := by
  obtain ⟨i, h1, rfl⟩ := szT_some h
  simp [sizeOf, run_typeInfo' h1]
theorem run_zero {t : TypeId} {z : AV} (h : zeroT P t = some z) (w : World) : ∃ v, (zeroValue t).run P w = .ok v w ∧ ∀ ρ, conc ρ z = some v := by
  unfold zeroT at h
  cases e : P.info? t with
  | none => rw [e] at h; cases h
  | some i =>
    rw [e] at h
    simp only at h
    cases e' : i.zero with
    | none => rw [e'] at h; cases h
    | some v =>
      rw [e'] at h
      exact ⟨v, by simp [zeroValue, run_typeInfo' e, e'], fun ρ => conc_ofValue ρ v z h⟩
theorem run_isAgg {t : TypeId} {q : Bool} (h : isAggT P t = some q) (w : World) : (isAgg t).run P w = .ok q w := by
  unfold isAggT at h
  cases e : P.underlying t with
  | none => rw [e] at h; cases h
  | some d =>
    rw [e] at h
    simp only [isAgg, Sem.run_bind, run_underlying e, Result.andThen_ok]
    cases d <;> simp only [Option.some.injEq] at h <;> subst h <;> rfl

theorem conc_cells {v : AV} {x : Value} (h : conc ρ v = some x) : concL ρ v.cells = some x.cells.toList := by
  cases v with
  | agg cs =>
    simp only [conc] at h
    cases e : concL ρ cs with
    | none => rw [e] at h; cases h
    | some l => rw [e] at h; simp only [Option.map_some, Option.some.injEq] at h; subst h; simpa [AV.cells, Value.cells] using e
  | tuple cs =>
    have hx : x.cells.toList = [x] := by
      simp only [conc] at h
      cases e : concL ρ cs with
      | none => rw [e] at h; cases h
      | some l => rw [e] at h; simp only [Option.map_some, Option.some.injEq] at h; subst h; rfl
    rw [hx]; exact concL_mk h rfl
  | _ =>
    have h1 := conc_one h rfl
    have hx : x.cells.toList = [x] := by cases x <;> first | rfl | (simp [Value.oneCell'] at h1)
    rw [hx]; exact concL_mk h rfl

/-- A variable, read. -/
theorem run_loadT {t : TypeId} {i b N o : Nat} {v : AV} (h : loadT P t i o σ = some v) (hr : Rel B w0 ρ σ w) (hb : ρ i = some (b, N)) :
    ∃ x, (loadVar t ⟨b, o, none⟩).run P w = .ok x w ∧ conc ρ v = some x := by
  unfold loadT at h
  cases e : isAggT P t with
  | none => rw [e] at h; cases h
  | some q =>
    rw [e] at h
    cases q with
    | true =>
      simp only at h
      cases e1 : szT P t with
      | none => rw [e1] at h; cases h
      | some n =>
        rw [e1] at h
        simp only [Option.bind_some] at h
        cases e2 : loadN σ i o n with
        | none => rw [e2] at h; cases h
        | some l =>
          rw [e2] at h
          simp only [Option.map_some, Option.some.injEq] at h
          subst h
          obtain ⟨xs, h1, h2, h3⟩ := run_loadN (P := P) e2 hr hb
          exact ⟨.agg xs.toArray, by simp [loadVar, run_isAgg e, run_sizeOf' e1, h3], by simp [conc, h1]⟩
    | false =>
      simp only at h
      cases hg : σ.get i with
      | none => rw [hg] at h; cases h
      | some ob =>
        cases ob with
        | cells cs el wr qq =>
          rw [hg] at h
          simp only at h
          obtain ⟨x, h1, h2⟩ := hr.cell hg hb h
          exact ⟨x, by simp [loadVar, run_isAgg e, h1], h2⟩
        | _ => rw [hg] at h; cases h

/-- A variable, written. -/
theorem run_storeT {t : TypeId} {i b N o : Nat} {v : AV} {x : Value} (h : storeT P t i o v σ = some σ') (hr : Rel B w0 ρ σ w) (hb : ρ i = some (b, N)) (hv : conc ρ v = some x) :
    ∃ w', (storeVar t ⟨b, o, none⟩ x).run P w = .ok () w' ∧ Rel B w0 ρ σ' w' := by
  unfold storeT at h
  cases e1 : szT P t with
  | none => rw [e1] at h; cases h
  | some n =>
    rw [e1] at h
    simp only [Option.bind_some] at h
    cases hc : Nat.beq v.cells.length n with
    | false => rw [hc] at h; cases h
    | true =>
      rw [hc] at h
      simp only [cond] at h
      have hcs := conc_cells hv
      obtain ⟨w', h1, h2⟩ := run_storeN (P := P) h hr hb hcs
      refine ⟨w', ?_, h2⟩
      have hlen : x.cells.size = n := by
        have := concL_length hcs
        rw [← Array.length_toList, this]
        exact Nat.eq_of_beq_eq_true hc
      simp [storeVar, run_sizeOf' e1, hlen, h1]

/-- A new variable. -/
theorem run_newT {t : TypeId} {cs : List AV} {v : AV} {xs : List Value} (h : newT σ t cs = some (v, σ')) (hr : Rel B w0 ρ σ w) (hx : concL ρ cs = some xs) :
    ∃ w' ρ', (newRow t xs.toArray).run P w = .ok ⟨w.heap.size, 0, none⟩ w' ∧ ρ.Le ρ' ∧ Rel B w0 ρ' σ' w' ∧ conc ρ' v = some (.pointer (some ⟨w.heap.size, 0, none⟩)) := by
  unfold newT at h
  cases ha : σ.add (.cells cs t true none) with
  | none => rw [ha] at h; cases h
  | some p =>
    obtain ⟨i, σ1⟩ := p
    rw [ha] at h
    simp only [Option.map_some, Option.some.injEq, Prod.mk.injEq] at h
    obtain ⟨rfl, rfl⟩ := h
    have hi := AS.add_next ha
    have hf : ρ i = none := hr.fresh _ (by rw [hr.next, hi]; exact Nat.le_refl _)
    have hle : ρ.Le (ρ.upd i (w.heap.size, 0)) := Rho.le_upd hf (by rw [hr.next, hi])
    obtain ⟨k1, k2⟩ := hr.alloc (ob := .cells xs.toArray t) (N := 0) ha ⟨rfl, ⟨xs, concL_mono hle _ _ hx, rfl⟩, fun _ o _ hh => by simp at hh⟩
    refine ⟨_, _, by simp [newRow], k2, k1, ?_⟩
    simp [conc, Rho.upd_same]
end
end Go.Det
