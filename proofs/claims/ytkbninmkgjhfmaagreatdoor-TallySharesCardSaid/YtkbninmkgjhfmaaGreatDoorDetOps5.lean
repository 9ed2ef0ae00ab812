/- Append, copy, and what else is built in: what the evaluator does stands for what the model does. Conditions: none. -/
import Derived.Test.YtkbninmkgjhfmaaGreatDoorDetOps4
import Derived.Laws.BytesString
set_option maxHeartbeats 400000
namespace Go.Det
open Go
section
variable {P : Program} {B : Nat → Prop} {w0 w : World} {ρ : Rho} {σ σ' : AS}

theorem len_sound {x : AV} {X : Value} {n : Nat} (h : lenA x = some n) (hx : conc ρ x = some X) (w : World) : (Builtin.lenOf X).run P w = .ok n w := by
  cases x with
  | slice a l c q => simp only [lenA, Option.some.injEq] at h; subst h; obtain ⟨_, _, rfl, _⟩ := conc_slice_any hx; rfl
  | eslice i o alt skip q =>
    simp only [lenA, Option.some.injEq] at h; subst h
    obtain ⟨_, _, _, h2⟩ := conc_eslice hx
    rcases h2 with ⟨_, rfl⟩ | ⟨_, rfl⟩ <;> rfl
  | str s => simp only [lenA, Option.some.injEq] at h; subst h; cases conc_str hx; simp [Builtin.lenOf, bytes_size]
  | _ => simp [lenA] at h

theorem elems_sound {size n : Nat} {x : AV} {X : Value} {l : List AV} (h : elemsA σ size n x = some l) (hr : Rel B w0 ρ σ w) (hx : conc ρ x = some X) :
    ∃ xs, concL ρ l = some xs ∧ (Builtin.firstCells size n X).run P w = .ok xs.toArray w := by
  cases x with
  | slice a len c q =>
    cases a with
    | none =>
      simp only [elemsA, Option.some.injEq] at h; subst h
      obtain ⟨_, rfl⟩ := conc_sliceNil hx
      exact ⟨[], rfl, rfl⟩
    | some p =>
      obtain ⟨i, o⟩ := p
      simp only [elemsA] at h
      obtain ⟨b, N, hb, cc, rfl⟩ : ∃ b N, ρ i = some (b, N) ∧ ∃ cc, X = .slice (some ⟨b, o, none⟩) len cc := by
        cases q with
        | false => obtain ⟨b, N, hb, rfl⟩ := conc_slice hx; exact ⟨b, N, hb, _, rfl⟩
        | true => obtain ⟨b, N, hb, _, rfl⟩ := conc_open hx; exact ⟨b, N, hb, _, rfl⟩
      obtain ⟨xs, h1, _, h3⟩ := run_loadN (P := P) h hr hb
      exact ⟨xs, h1, by simp [Builtin.firstCells, h3]⟩
  | eslice i o alt skip q =>
    simp only [elemsA] at h
    cases hc : Nat.beq (n * size) 0 with
    | false => rw [hc] at h; cases h
    | true =>
      rw [hc] at h
      simp only [cond, Option.some.injEq] at h
      subst h
      have hz : n * size = 0 := Nat.eq_of_beq_eq_true hc
      obtain ⟨_, _, _, h2⟩ := conc_eslice hx
      rcases h2 with ⟨_, rfl⟩ | ⟨_, rfl⟩ <;> exact ⟨[], rfl, by simp [Builtin.firstCells, hz, loadCells, loadCellsFrom]⟩
  | str s =>
    simp only [elemsA, Option.some.injEq] at h; subst h
    cases conc_str hx
    refine ⟨(s.take n).map fun b => .int .u8 b.toNat, ?_, ?_⟩
    · generalize s.take n = t
      induction t with
      | nil => rfl
      | cons b r ih => exact concL_mk rfl ih
    · simp [Builtin.firstCells, extract_bytes]
  | _ => simp [elemsA] at h

theorem nextcap_le (need old : Nat) (h : old < need) : Builtin.nextslicecap need old ≤ 2 * need + 1024 := by
  have grow : ∀ (r c : Nat), c ≤ 2 * need + 1024 → Builtin.growBy need r c ≤ 2 * need + 1024 := by
    intro r
    induction r with
    | zero => intro c hc; exact hc
    | succ r ih =>
      intro c hc
      simp only [Builtin.growBy]
      split
      · exact hc
      · exact ih _ (by omega)
  unfold Builtin.nextslicecap
  split
  · omega
  · split
    · omega
    · exact grow 4 old (by omega)

theorem zeroCells_size (z : Array Value) (n : Nat) : (Builtin.zeroCells z n).size = n * z.size := by simp [Builtin.zeroCells]

section app
variable {ts tx ty e : TypeId} {size bytes n : Nat} {dx : TypeDesc} {z : AV} {X : List AV} {XV : Value} {xs : List Value} {rest : List TypeId} {args : List Value}

/-- What append does where there is room. -/
theorem run_append_in (hu : P.underlying ts = some (.slice e)) (hd : P.underlying tx = some dx) (hn : notInt dx = true) (hs : szT P e = some size)
    (hlen : (Builtin.lenOf XV).run P w = .ok n w) (hX : (Builtin.firstCells size n XV).run P w = .ok xs.toArray w) {base : Option Addr} {len cap : Nat} (hroom : len + n ≤ cap) {w' : World}
    (hst : ∀ a, base = some a → (storeCells (a.add (len * size)) xs).run P w = .ok () w') (hno : base = none → w' = w) :
    (Builtin.append_ (ts :: tx :: rest).toArray ty (.slice base len cap :: XV :: args).toArray).run P w = .ok (.slice base (len + n) cap) w' := by
  cases dx <;> first | (cases hn; done) | skip
  all_goals
    simp only [Builtin.append_, List.getElem?_toArray, List.getElem?_cons_zero, List.getElem?_cons_succ, Sem.run_bind, run_underlying hu, Result.andThen_ok, run_sizeOf' hs, run_underlying hd, Sem.run_pure, hlen, Bool.false_eq_true, if_false]
    rw [if_pos hroom]
    simp only [Bool.not_false, if_true, Sem.run_bind, hX, Result.andThen_ok]
    cases base with
    | none => rw [hno rfl]; rfl
    | some a => simp only [Sem.run_bind, hst a rfl, Result.andThen_ok, Sem.run_pure]

/-- What append does where there is none. -/
theorem run_append_out (hu : P.underlying ts = some (.slice e)) (hd : P.underlying tx = some dx) (hn : notInt dx = true) (hs : szT P e = some size) (hb : byT P e = some bytes) (hz : zeroT P e = some z)
    (hlen : (Builtin.lenOf XV).run P w = .ok n w) (hX : (Builtin.firstCells size n XV).run P w.drew = .ok xs.toArray w.drew) {base : Option Addr} {len cap : Nat} (hroom : cap < len + n) {ol : List Value}
    (hold : (Builtin.firstCells size len (.slice base len cap)).run P w.drew = .ok ol.toArray w.drew) (hcap : Builtin.nextslicecap (len + n) cap * bytes ≤ 2 ^ 48) (hb0 : bytes ≠ 0) :
    ∃ (N : Nat) (r : Array Value), len + n ≤ N ∧ r.size = (N - (len + n)) * z.cells.length ∧
      (Builtin.append_ (ts :: tx :: rest).toArray ty (.slice base len cap :: XV :: args).toArray).run P w =
        .ok (.slice (some ⟨w.heap.size, 0, none⟩) (len + n) N) (w.drew.alloc (.cells (ol.toArray ++ xs.toArray ++ r) e)) := by
  obtain ⟨zv, z1, z2⟩ := run_zero hz w.drew
  obtain ⟨i, hi, rfl⟩ := byT_some hb
  have hzs : zv.cells.size = z.cells.length := by rw [← Array.length_toList]; exact concL_length (conc_cells (z2 ⟨fun _ => none, 0⟩))
  refine ⟨Question.cut (.appendCap (len + n) cap e) (w.tape w.drawn (.appendCap (len + n) cap e)), Builtin.zeroCells zv.cells (Question.cut (.appendCap (len + n) cap e) (w.tape w.drawn (.appendCap (len + n) cap e)) - (len + n)), by simp [Question.cut], by rw [zeroCells_size, hzs], ?_⟩
  cases dx <;> first | (cases hn; done) | skip
  all_goals
    simp only [Builtin.append_, List.getElem?_toArray, List.getElem?_cons_zero, List.getElem?_cons_succ, Sem.run_bind, run_underlying hu, Result.andThen_ok, run_sizeOf' hs, run_underlying hd, Sem.run_pure, hlen, Bool.false_eq_true, if_false]
    rw [if_neg (by omega)]
    simp only [Sem.run_bind, run_typeInfo' hi, Result.andThen_ok, Bool.not_false, if_true, false_or, hb0, and_false, if_false]
    rw [if_neg (by omega)]
    simp only [Sem.run_bind, Sem.run_pure, Result.andThen_ok, run_choose, Question.forced, Bool.false_eq_true, if_false, World.drew_eq, run_askRoom, run_typeInfo' hi, hold, hX, z1, newRow, run_newObj_alloc, World.size_drew]

theorem beq_eq {a b : Nat} (h : Nat.beq a b = true) : a = b := Nat.eq_of_beq_eq_true h

/-- A new row with room. -/
theorem Rel.addOpen {cs : List AV} {xs : List Value} {r : Array Value} {N i : Nat} (hr : Rel B w0 ρ σ w) (ha : σ.add (.cells cs e true (some size)) = some (i, σ')) (hx : concL ρ cs = some xs)
    (hN : cs.length ≤ N * size) (hc : N * size ≤ xs.length + r.size) :
    ∃ ρ', ρ.Le ρ' ∧ Rel B w0 ρ' σ' (w.alloc (.cells (xs.toArray ++ r) e)) ∧ ρ' i = some (w.heap.size, N) := by
  have hi := AS.add_next ha
  have hf : ρ i = none := hr.fresh _ (by rw [hr.next, hi]; exact Nat.le_refl _)
  have hle : ρ.Le (ρ.upd i (w.heap.size, N)) := Rho.le_upd hf (by rw [hr.next, hi])
  obtain ⟨k1, k2⟩ := hr.alloc (ob := .cells (xs.toArray ++ r) e) (N := N) ha
    ⟨rfl, ⟨xs, concL_mono hle _ _ hx, by simp, by simpa using hc, hN⟩, fun _ o _ hh => by simp at hh⟩
  exact ⟨_, k2, k1, Rho.upd_same⟩

/-- Cells laid behind the known ones. -/
theorem run_storeCells_tail {b : Nat} {fr : Nat × Nat} : ∀ (X : List AV) (xs : List Value) (o k : Nat) (l : List Value) (c : Array Value) (w : World),
    concL ρ X = some xs → X.all AV.one = true → w.heap[b]? = some (.cells c e fr) → l.length = o + k → l <+: c.toList → l.length + xs.length ≤ c.size → FrFree fr c.size →
    ∃ w' c', (storeCells ⟨b, o, none⟩ xs k).run P w = .ok () w' ∧ w'.heap[b]? = some (.cells c' e fr) ∧ c'.size = c.size ∧ l ++ xs <+: c'.toList ∧
      w'.os = w.os ∧ w'.tape = w.tape ∧ w'.output = w.output ∧ w'.heap.size = w.heap.size ∧ (∀ j, j ≠ b → w'.heap[j]? = w.heap[j]?)
  | [], xs, o, k, l, c, w, hx, _, hw, _, hp, _, _ => by
    simp only [concL, Option.some.injEq] at hx
    subst hx
    exact ⟨w, c, rfl, hw, rfl, by simpa using hp, rfl, rfl, rfl, rfl, fun _ _ => rfl⟩
  | v :: X, xs, o, k, l, c, w, hx, h1, hw, hlen, hp, hsz, hf => by
    obtain ⟨x, ys, hv, hys, rfl⟩ := concL_cons hx
    simp only [List.all_cons, Bool.and_eq_true] at h1
    simp only [List.length_cons] at hsz
    have hst := run_store_row (P := P) (o := o + k) hw (by omega) hf (conc_one hv h1.1)
    have hb := lt_of_heap hw
    have hp' : l ++ [x] <+: (c.setIfInBounds (o + k) x).toList := by
      rw [Array.toList_setIfInBounds, ← hlen]
      obtain ⟨t, ht⟩ := hp
      have htl : c.size = l.length + t.length := by rw [← Array.length_toList, ← ht, List.length_append]
      cases t with
      | nil => simp at htl; omega
      | cons y t => rw [← ht, List.set_append_right _ _ (Nat.le_refl _), Nat.sub_self, List.set_cons_zero]; exact ⟨t, by simp⟩
    obtain ⟨w', c', k1, k2, k3, k4, k5, k6, k7, k8, k9⟩ := run_storeCells_tail X ys o (k + 1) (l ++ [x]) (c.setIfInBounds (o + k) x) (w.putObj b (.cells (c.setIfInBounds (o + k) x) e fr)) hys h1.2
      (World.putObj_heap_same hb) (by simp; omega) hp' (by simp; omega) (by simpa using hf)
    refine ⟨w', c', ?_, k2, by simpa using k3, by simpa using k4, k5, k6, k7, by simpa using k8, fun j hj => by rw [k9 j hj, World.putObj_heap_other hj]⟩
    simp only [storeCells, Sem.run_bind, add_spotless, hst, Result.andThen_ok, k1]

/-- A row gets a new name. -/
theorem Rel.move {i j b N : Nat} {o : AObj} (h : Rel B w0 ρ (σ.put i (some o)) w) (hlt : i < 1024) (hb : ρ i = some (b, N)) (ha : (σ.put i none).add o = some (j, σ')) :
    ∃ ρ', ρ.Le ρ' ∧ Rel B w0 ρ' σ' w ∧ ρ' j = some (b, N) := by
  have hnext : (σ.put i none).next = (σ.put i (some o)).next := rfl
  unfold AS.add at ha
  cases hc : Nat.blt (σ.put i none).next 1024 with
  | false => rw [hc] at ha; cases ha
  | true =>
    rw [hc] at ha
    simp only [cond, Option.some.injEq, Prod.mk.injEq] at ha
    obtain ⟨rfl, rfl⟩ := ha
    have hjlt : (σ.put i none).next < 1024 := blt_lt hc
    generalize hj : (σ.put i none).next = j at *
    have hn : ρ.n = j := by rw [h.next, ← hnext]
    have hf : ρ j = none := h.fresh _ (by omega)
    have hle : ρ.Le (ρ.upd j (b, N)) := Rho.le_upd hf hn
    have hij : i ≠ j := fun e => by subst e; rw [hf] at hb; cases hb
    have hnew : (⟨PT.set hdepth (σ.put i none).heap j (some o), j + 1⟩ : AS).get j = some o := AS.get_put_same (σ := σ.put i none) (o := some o) hjlt
    have hget : ∀ x, x ≠ j → (⟨PT.set hdepth (σ.put i none).heap j (some o), j + 1⟩ : AS).get x = (σ.put i none).get x := fun x hx => AS.get_put_ne (σ := σ.put i none) (o := some o) hjlt (Ne.symm hx)
    have hliv : ∀ x ox, x ≠ j → (⟨PT.set hdepth (σ.put i none).heap j (some o), j + 1⟩ : AS).get x = some ox → x ≠ i ∧ (σ.put i (some o)).get x = some ox := fun x ox hx hg => by
      rw [hget x hx] at hg
      have hxi : x ≠ i := fun e => by subst e; rw [AS.get_put_same hlt] at hg; cases hg
      rw [AS.get_put_ne hlt (Ne.symm hxi)] at hg
      exact ⟨hxi, by rw [AS.get_put_ne hlt (Ne.symm hxi)]; exact hg⟩
    refine ⟨_, hle, ⟨h.os, h.tape, h.output, h.size, h.bsz, h.low, ?_, ?_, rfl, ?_⟩, Rho.upd_same⟩
    · intro x ox hx c M hcx
      by_cases e : x = j
      · subst e
        rw [hnew] at hx; cases hx
        rw [Rho.upd_same] at hcx; cases hcx
        obtain ⟨ob, h1, h2, h3⟩ := h.objs i o (AS.get_put_same hlt) b N hb
        exact ⟨ob, h1, h2.mono hle, h3⟩
      · obtain ⟨_, hg⟩ := hliv x ox e hx
        rw [Rho.upd_ne e] at hcx
        obtain ⟨ob, h1, h2, h3⟩ := h.objs x ox hg c M hcx
        exact ⟨ob, h1, h2.mono hle, h3⟩
    · intro x y ox oy c M M' hx hy hcx hcy
      by_cases ex : x = j <;> by_cases ey : y = j
      · rw [ex, ey]
      · exfalso
        obtain ⟨n1, g1⟩ := hliv y oy ey hy
        rw [Rho.upd_ne ey] at hcy
        subst ex
        rw [Rho.upd_same] at hcx; cases hcx
        exact n1 (h.inj y i oy o b M' N g1 (AS.get_put_same hlt) hcy hb)
      · exfalso
        obtain ⟨n1, g1⟩ := hliv x ox ex hx
        rw [Rho.upd_ne ex] at hcx
        subst ey
        rw [Rho.upd_same] at hcy; cases hcy
        exact n1 (h.inj x i ox o b M N g1 (AS.get_put_same hlt) hcx hb)
      · obtain ⟨_, g1⟩ := hliv x ox ex hx
        obtain ⟨_, g2⟩ := hliv y oy ey hy
        rw [Rho.upd_ne ex] at hcx
        rw [Rho.upd_ne ey] at hcy
        exact h.inj x y ox oy c M M' g1 g2 hcx hcy
    · intro x hx
      have hx' : j + 1 ≤ x := hx
      rw [Rho.upd_ne (by omega)]
      exact h.fresh x (by omega)

theorem appendX_sound {s v : AV} {S : Value} (h : appendX e size bytes n X s σ = some (v, σ')) (hu : P.underlying ts = some (.slice e)) (hd : P.underlying tx = some dx) (hn : notInt dx = true)
    (hs : szT P e = some size) (hb : byT P e = some bytes) (hz : zeroT P e = some z) (hzl : z.cells.length = size) (hXl : X.length = n * size) (hX1 : X.all AV.one = true)
    (hlen : (Builtin.lenOf XV).run P w = .ok n w) (hX : concL ρ X = some xs) (hXr : (Builtin.firstCells size n XV).run P w = .ok xs.toArray w) (hXd : (Builtin.firstCells size n XV).run P w.drew = .ok xs.toArray w.drew)
    (hr : Rel B w0 ρ σ w) (hS : conc ρ s = some S) : VR P B w0 (Builtin.append_ (ts :: tx :: rest).toArray ty (S :: XV :: args).toArray) ρ w v σ' := by
  have hxl := concL_length hX
  unfold appendX at h
  split at h
  · -- a slice of known capacity
    rename_i base len cap
    cases hc : Nat.ble (len + n) cap with
    | true =>
      rw [hc] at h
      simp only [cond] at h
      have hroom : len + n ≤ cap := Nat.le_of_ble_eq_true hc
      cases base with
      | none =>
        simp only [Option.some.injEq, Prod.mk.injEq] at h
        obtain ⟨rfl, rfl⟩ := h
        obtain ⟨_, rfl⟩ := conc_sliceNil hS
        exact VR.pure (run_append_in hu hd hn hs hlen hXr hroom (fun a e => by cases e) (fun _ => rfl)) hr (by simp [conc])
      | some q =>
        obtain ⟨i, o⟩ := q
        simp only at h
        cases hst : storeN σ i (o + len * size) X with
        | none => rw [hst] at h; cases h
        | some σ1 =>
          rw [hst] at h
          simp only [Option.map_some, Option.some.injEq, Prod.mk.injEq] at h
          obtain ⟨rfl, rfl⟩ := h
          obtain ⟨b, N, hbi, rfl⟩ := conc_slice hS
          obtain ⟨w', k1, k2⟩ := run_storeN (P := P) hst hr hbi hX
          exact ⟨_, w', ρ, run_append_in hu hd hn hs hlen hXr hroom (fun a e => by cases e; rw [add_spotless]; exact k1) (fun e => by cases e), .refl ρ, k2, by simp [conc, hbi, concS]⟩
    | false =>
      rw [hc] at h
      simp only [cond] at h
      have hroom : cap < len + n := by
        rcases Nat.lt_or_ge cap (len + n) with h' | h'
        · exact h'
        · rw [Nat.ble_eq_true_of_le h'] at hc; cases hc
      cases hg : (Nat.ble (Builtin.nextslicecap (len + n) cap * bytes) (2 ^ 48) && Nat.blt (len + n) (2 ^ 62) && !(Nat.beq bytes 0)) with
      | false => rw [hg] at h; cases h
      | true =>
        rw [hg] at h
        simp only at h
        simp only [Bool.and_eq_true] at hg
        have hcap : Builtin.nextslicecap (len + n) cap * bytes ≤ 2 ^ 48 := Nat.le_of_ble_eq_true hg.1.1
        have hb0 : bytes ≠ 0 := fun e => by subst e; simp at hg
        cases ho : elemsA σ size len (.slice base len cap false) with
        | none => rw [ho] at h; cases h
        | some old =>
          rw [ho] at h
          simp only [Option.bind_some] at h
          cases hol : Nat.beq old.length (len * size) with
          | false => rw [hol] at h; cases h
          | true =>
            rw [hol] at h
            simp only at h
            cases ha : σ.add (.cells (old ++ X) e true (some size)) with
            | none => rw [ha] at h; cases h
            | some p =>
              obtain ⟨i, σ1⟩ := p
              rw [ha] at h
              simp only [Option.map_some, Option.some.injEq, Prod.mk.injEq] at h
              obtain ⟨rfl, rfl⟩ := h
              obtain ⟨ol, o1, o2⟩ := elems_sound (P := P) ho hr.drew hS
              obtain ⟨bs, hbs⟩ : ∃ bs, S = .slice bs len cap := by
                cases base with
                | none => obtain ⟨_, rfl⟩ := conc_sliceNil hS; exact ⟨_, rfl⟩
                | some q => obtain ⟨b, N, _, rfl⟩ := conc_slice (i := q.1) (o := q.2) hS; exact ⟨_, rfl⟩
              subst hbs
              obtain ⟨N, r, hN, hrs, hrun⟩ := run_append_out (ty := ty) (rest := rest) (args := args) hu hd hn hs hb hz hlen hXd hroom o2 hcap hb0
              have holl := concL_length o1
              have hol' := beq_eq hol
              have hmul : (len + n) * size ≤ N * size := Nat.mul_le_mul_right _ hN
              have hadd : (len + n) * size = len * size + n * size := Nat.add_mul _ _ _
              obtain ⟨ρ', l1, l2, l3⟩ := Rel.addOpen (r := r) (N := N) hr.drew ha (concL_append o1 hX) (by simp; omega) (by
                simp only [List.length_append]; rw [hrs, hzl, holl, hxl, hol', hXl, Nat.sub_mul]; omega)
              refine ⟨_, _, ρ', hrun, l1, ?_, by simp [conc, l3, concS, hN]⟩
              simpa [Array.append_assoc] using l2
  · -- an empty slice at the end of a row with room
    rename_i i o alt skip q
    cases hc : Nat.beq n 0 with
    | false => rw [hc] at h; cases h
    | true =>
      rw [hc] at h
      simp only [cond, Option.some.injEq, Prod.mk.injEq] at h
      obtain ⟨rfl, rfl⟩ := h
      obtain rfl : n = 0 := beq_eq hc
      have hx0 : xs = [] := by cases xs with
        | nil => rfl
        | cons _ _ => simp at hxl; omega
      subst hx0
      obtain ⟨b, N, hbi, h2⟩ := conc_eslice hS
      rcases h2 with ⟨k, rfl⟩ | ⟨k, rfl⟩
      · exact ⟨_, w, ρ, run_append_in (w' := w) hu hd hn hs hlen hXr (Nat.zero_le _) (fun a e => rfl) (fun _ => rfl), .refl ρ, hr, hS⟩
      · exact ⟨_, w, ρ, run_append_in (w' := w) hu hd hn hs hlen hXr (Nat.zero_le _) (fun a e => rfl) (fun _ => rfl), .refl ρ, hr, hS⟩
  · -- a slice of a row with room
    rename_i i o len skip
    cases hg : σ.get i with
    | none => rw [hg] at h; cases h
    | some ob =>
      cases ob with
      | cells cs e' wr q =>
        cases wr with
        | false => rw [hg] at h; cases h
        | true =>
          cases q with
          | none => rw [hg] at h; cases h
          | some size' =>
            rw [hg] at h
            simp only at h
            obtain ⟨b, N, hbi, hN, rfl⟩ := conc_open hS
            obtain ⟨ob, h1, h2, h3⟩ := hr.objs i _ hg b N hbi
            cases ob with
            | cells c e'' fr =>
              obtain ⟨rfl, ⟨l, hl, hp, hNc, hcN⟩, hfr⟩ := h2
              cases hc : (Nat.beq size size' && Nat.beq o (skip * size) && Nat.blt 0 size && Nat.ble (o + (len + n) * size) cs.length) with
              | true =>
                rw [hc] at h
                simp only [cond] at h
                simp only [Bool.and_eq_true] at hc
                obtain ⟨⟨⟨c1, c2⟩, c3⟩, c4⟩ := hc
                obtain rfl := beq_eq c1
                obtain rfl := beq_eq c2
                have c3 := blt_lt c3
                have c4 := Nat.le_of_ble_eq_true c4
                cases hst : storeN σ i (skip * size + len * size) X with
                | none => rw [hst] at h; cases h
                | some σ1 =>
                  rw [hst] at h
                  simp only [Option.map_some, Option.some.injEq, Prod.mk.injEq] at h
                  obtain ⟨rfl, rfl⟩ := h
                  have hroom : skip + (len + n) ≤ N := by
                    have : (skip + (len + n)) * size ≤ N * size := by rw [Nat.add_mul]; omega
                    exact Nat.le_of_mul_le_mul_right this c3
                  obtain ⟨w', k1, k2⟩ := run_storeN (P := P) hst hr hbi hX
                  exact ⟨_, w', ρ, run_append_in hu hd hn hs hlen hXr (by omega) (fun a e => by cases e; rw [add_spotless]; exact k1) (fun e => by cases e), .refl ρ, k2,
                    by simp [conc, hbi, concS]; omega⟩
              | false =>
                rw [hc] at h
                simp only [cond] at h
                cases hc2 : (Nat.beq e e'' && Nat.beq o 0 && Nat.beq skip 0 && Nat.blt 0 size && Nat.beq size size' && Nat.beq cs.length (len * size) && Nat.ble ((2 * (len + n) + 1024) * bytes) (2 ^ 48) && Nat.blt (len + n) (2 ^ 62) && !(Nat.beq bytes 0)) with
                | false => rw [hc2] at h; cases h
                | true =>
                  rw [hc2] at h
                  simp only at h
                  simp only [Bool.and_eq_true] at hc2
                  obtain ⟨⟨⟨⟨⟨⟨⟨⟨d1, d2⟩, d3⟩, d4⟩, d5⟩, d6⟩, d7⟩, d8⟩, d9⟩ := hc2
                  obtain rfl := beq_eq d1
                  obtain rfl := beq_eq d2
                  obtain rfl := beq_eq d3
                  obtain rfl := beq_eq d5
                  have d6 := beq_eq d6
                  have d4 := blt_lt d4
                  have d7 := Nat.le_of_ble_eq_true d7
                  have hb0 : bytes ≠ 0 := fun e => by subst e; simp at d9
                  have hlt := AS.get_lt hg
                  cases ha : (σ.put i none).add (.cells (cs ++ X) e true (some size)) with
                  | none => rw [ha] at h; cases h
                  | some p =>
                    obtain ⟨j, σ1⟩ := p
                    rw [ha] at h
                    simp only [Option.map_some, Option.some.injEq, Prod.mk.injEq] at h
                    obtain ⟨rfl, rfl⟩ := h
                    have hll := concL_length hl
                    by_cases hroom : len + n ≤ N
                    · -- in its place
                      have hNs : (len + n) * size ≤ N * size := Nat.mul_le_mul_right _ hroom
                      have hadd : (len + n) * size = len * size + n * size := Nat.add_mul _ _ _
                      obtain ⟨w', c', s1, s2, s3, s4, s5, s6, s7, s8, s9⟩ := run_storeCells_tail (P := P) (b := b) (fr := fr) X xs (len * size) 0 l c w hX hX1 h1 (by omega) hp (by omega) (hfr rfl)
                      have hput := hr.put (o' := .cells (cs ++ X) e true (some size)) (ob' := .cells c' e fr) hg hbi rfl ⟨rfl, ⟨l ++ xs, concL_append hl hX, s4, by rw [s3]; exact hNc, by simp; omega⟩, fun _ => by rw [s3]; exact hfr rfl⟩ s5 s6 s7 s8 s2 s9
                      obtain ⟨ρ', l1, l2, l3⟩ := Rel.move hput hlt hbi ha
                      refine ⟨_, w', ρ', run_append_in (base := some ⟨b, 0, none⟩) hu hd hn hs hlen hXr (by omega) (fun a e => by cases e; rw [add_spotless, Nat.zero_add]; exact s1) (fun e => by cases e), l1, l2, by simp [conc, l3, concS, hroom]⟩
                    · -- in a new row
                      have ho : (Builtin.firstCells size len (.slice (some ⟨b, 0, none⟩) len (N - 0))).run P w.drew = .ok l.toArray w.drew := by
                        have hln : loadN σ i 0 (len * size) = some cs := by
                          have tk : ∀ (m : List AV), takeN m.length m = some m := fun m => by
                            induction m with
                            | nil => rfl
                            | cons a m ih => simp [takeN, ih]
                          simp only [loadN, hg, List.drop_zero]
                          rw [← d6]; exact tk cs
                        obtain ⟨xs', t1, _, t3⟩ := run_loadN (P := P) hln hr.drew hbi
                        rw [hl] at t1
                        cases t1
                        simp [Builtin.firstCells, t3]
                      have hcap : Builtin.nextslicecap (len + n) (N - 0) * bytes ≤ 2 ^ 48 := Nat.le_trans (Nat.mul_le_mul_right _ (nextcap_le _ _ (by omega))) d7
                      obtain ⟨M, r, hM, hrs, hrun⟩ := run_append_out (ty := ty) (rest := rest) (args := args) hu hd hn hs hb hz hlen hXd (by omega) ho hcap hb0
                      have hmul : (len + n) * size ≤ M * size := Nat.mul_le_mul_right _ hM
                      have hadd : (len + n) * size = len * size + n * size := Nat.add_mul _ _ _
                      obtain ⟨ρ', l1, l2, l3⟩ := Rel.addOpen (r := r) (N := M) (hr.drew.kill hlt) ha (concL_append hl hX) (by simp; omega) (by
                        simp only [List.length_append]; rw [hrs, hzl, hll, hxl, d6, hXl, Nat.sub_mul]; omega)
                      refine ⟨_, _, ρ', hrun, l1, ?_, by simp [conc, l3, concS, hM]⟩
                      simpa [Array.append_assoc] using l2
            | _ => exact h2.elim
      | _ => rw [hg] at h; cases h
  · cases h
end app
end
end Go.Det
