/- What is built in, conversions, iterators: what the evaluator does stands for what the model does. Conditions: none. -/
import Derived.Test.YtkbninmkgjhfmaaGreatDoorDetOps6
set_option maxHeartbeats 400000
namespace Go.Det
open Go
section
variable {P : Program} {B : Nat → Prop} {w0 w : World} {ρ : Rho} {σ σ' : AS}

theorem repN_get (z : List AV) : ∀ (n i : Nat), i < n * z.length → (repN n z)[i]? = z[i % z.length]?
  | 0, i, h => by simp at h
  | n + 1, i, h => by
    have hm : 0 < z.length := by
      rcases Nat.eq_zero_or_pos z.length with e | e
      · rw [e] at h; simp at h
      · exact e
    simp only [repN]
    by_cases hi : i < z.length
    · rw [List.getElem?_append_left hi, Nat.mod_eq_of_lt hi]
    · have hi' : z.length ≤ i := Nat.le_of_not_lt hi
      rw [List.getElem?_append_right hi', repN_get z n (i - z.length) (by rw [Nat.succ_mul] at h; omega), Nat.mod_eq_sub_mod hi']
theorem repN_length (z : List AV) : ∀ n, (repN n z).length = n * z.length
  | 0 => by simp [repN]
  | n + 1 => by simp [repN, repN_length z n, Nat.succ_mul]; omega

theorem concL_of_get : ∀ {l : List AV} {xs : List Value}, l.length = xs.length → (∀ (i : Nat) (v : AV), l[i]? = some v → ∃ x, xs[i]? = some x ∧ conc ρ v = some x) → concL ρ l = some xs
  | [], [], _, _ => rfl
  | [], _ :: _, h, _ => by simp at h
  | _ :: _, [], h, _ => by simp at h
  | v :: l, x :: xs, h, k => by
    obtain ⟨y, h1, h2⟩ := k 0 v (by simp)
    simp only [List.getElem?_cons_zero, Option.some.injEq] at h1
    subst h1
    exact concL_mk h2 (concL_of_get (by simpa using h) fun i u hu => by have := k (i + 1) u (by simpa using hu); simpa using this)

theorem zeros_conc {z : AV} {zv : Value} (hz : conc ρ z = some zv) (n m : Nat) (hm : m = n * z.cells.length) : concL ρ (repN n z.cells) = some ((Array.range m).map (zv.cells[· % zv.cells.size]!)).toList := by
  subst hm
  have hc := conc_cells hz
  have hl := concL_length hc
  rw [Array.length_toList] at hl
  refine concL_of_get (by simp [repN_length]) fun i v hv => ?_
  have hi : i < n * z.cells.length := by have := (List.getElem?_eq_some_iff.1 hv).1; rwa [repN_length] at this
  rw [repN_get _ _ _ hi] at hv
  obtain ⟨u, h1, h2⟩ := concL_get _ hc hv
  refine ⟨u, ?_, h2⟩
  rw [Array.getElem?_toList] at h1
  simp only [Array.getElem?_toList, Array.getElem?_map, Array.getElem?_range, hi, if_true, Option.map_some, Option.some.injEq]
  rw [hl, Array.getElem!_eq_getD, Array.getD_eq_getD_getElem?, h1]
  rfl

theorem zeroCells_eq (z : Array Value) (n : Nat) : Builtin.zeroCells z n = (Array.range (n * z.size)).map (z[· % z.size]!) := rfl

theorem variablesAt_true {b o n : Nat} {c : Array Value} {e : TypeId} {fr : Nat × Nat} (hw : w.heap[b]? = some (.cells c e fr)) (hs : szT P e = some 1) (h : o + n ≤ c.size) :
    (variablesAt ⟨b, o, none⟩ e n).run P w = .ok true w := by
  obtain ⟨i, hi, hsz⟩ := szT_some hs
  have hc : P.cellsOf e = 1 := by simp [Program.cellsOf, hi, hsz]
  have hd : P.depth = (2 * (P.types.size + Made.depth) + 1) + 1 := rfl
  have hl : liesAt P P.depth e (c.size / P.cellsOf e) o e n = true := by
    rw [hc]
    rw [hd]
    simp only [liesAt, Bool.or_eq_true]
    refine .inl ?_
    rw [hd]
    simp only [rowAt, hc, Nat.div_one, Nat.mod_one]
    have : sameLayout P (2 * (P.types.size + Made.depth) + 1 + 1) e e = true := by simp [sameLayout]
    simp [this, h]
  simp [variablesAt, World.shape?, hw, hl]

theorem freeze_world {b o n : Nat} {c : Array Value} {e : TypeId} {fr : Nat × Nat} (hw : w.heap[b]? = some (.cells c e fr)) (hn : n ≠ 0) :
    ∃ fr', w.freeze ⟨b, o, none⟩ n = w.putObj b (.cells c e fr') ∧ (fr = (0, 0) → fr' = (o, o + n)) := by
  obtain ⟨lo, hi⟩ := fr
  refine ⟨if lo == hi then (o, o + n) else (min lo o, max hi (o + n)), ?_, fun h => by cases h; simp⟩
  have hlt := lt_of_heap hw
  have hg : w.heap[b]'hlt = .cells c e (lo, hi) := by rw [Array.getElem?_eq_getElem hlt] at hw; exact Option.some.inj hw
  simp only [World.freeze, hn, if_false, World.putObj]
  congr 1
  apply Array.ext_getElem?
  intro j
  rw [Array.getElem?_modify, Array.getElem?_setIfInBounds]
  by_cases hj : b = j
  · subst hj; simp [hg, hlt]
  · simp [hj]

theorem alloc_freeze (w : World) (c : Array Value) (e : TypeId) : (w.alloc (.cells c e)).freeze ⟨w.heap.size, c.size, none⟩ 1 = w.alloc (.cells c e (c.size, c.size + 1)) := by
  simp only [World.freeze, World.alloc, Nat.one_ne_zero, if_false]
  congr 1
  apply Array.ext_getElem?
  intro j
  rw [Array.getElem?_modify, Array.getElem?_push, Array.getElem?_push]
  by_cases hj : w.heap.size = j
  · subst hj; simp
  · simp [hj, Ne.symm hj]

theorem convA_sound {s d : TypeId} {x v : AV} {X : Value} (h : convA P s d x σ = some (v, σ')) (hr : Rel B w0 ρ σ w) (hx : conc ρ x = some X) : VR P B w0 (convert s d X) ρ w v σ' := by
  unfold convA at h
  split at h
  · rename_i ds k k' n hu hd
    cases h
    cases conc_int hx
    refine VR.pure (x := .int k (k.wrap n)) ?_ hr rfl
    simp only [convert, Sem.run_bind, run_underlying hu, run_underlying hd, Result.andThen_ok]
    cases ds <;> rfl
  · rename_i ds t hu hd
    cases h
    cases conc_str hx
    refine VR.pure (x := .string ⟨t.toArray⟩) ?_ hr rfl
    simp only [convert, Sem.run_bind, run_underlying hu, run_underlying hd, Result.andThen_ok]
    cases ds <;> rfl
  · rename_i ds e t hu hd
    cases conc_str hx
    split at h
    · rename_i he
      cases ha : σ.add (.cells (t.map fun b => .int .u8 b.toNat) e true (some 1)) with
      | none => rw [ha] at h; cases h
      | some p =>
        obtain ⟨i, σ1⟩ := p
        rw [ha] at h
        simp only [Option.map_some, Option.some.injEq, Prod.mk.injEq] at h
        obtain ⟨rfl, rfl⟩ := h
        have hi := AS.add_next ha
        have hf : ρ i = none := hr.fresh _ (by rw [hr.next, hi]; exact Nat.le_refl _)
        generalize hN : Question.cut (.appendCap t.length 0 e) (w.tape w.drawn (.appendCap t.length 0 e)) = N
        have hNl : t.length ≤ N := by rw [← hN]; simp [Question.cut]
        have hle : ρ.Le (ρ.upd i (w.heap.size, N)) := Rho.le_upd hf (by rw [hr.next, hi])
        have hcl : concL (ρ.upd i (w.heap.size, N)) (t.map fun b => .int .u8 b.toNat) = some (t.map fun b => .int .u8 b.toNat) := by
          clear ha
          induction t with
          | nil => rfl
          | cons b r ih => exact concL_mk rfl (by
              have : ∀ {l : List UInt8}, concL (ρ.upd i (w.heap.size, N)) (l.map fun b => .int .u8 b.toNat) = some (l.map fun b => .int .u8 b.toNat) := by
                intro l
                induction l with
                | nil => rfl
                | cons b r ih => exact concL_mk rfl ih
              exact this)
        let c : Array Value := (t.map fun b => Value.int .u8 b.toNat).toArray ++ Array.replicate (N - t.length) (.int .u8 0)
        have hcs : c.size = N := by simp [c]; omega
        obtain ⟨k1, k2⟩ := (hr.drew).alloc (ob := .cells c e (c.size, c.size + 1)) (N := N) ha
          ⟨rfl, ⟨_, hcl, by simp [c], by rw [hcs]; omega, by simpa using hNl⟩, fun _ o ho hh => by have : o < c.size := ho; have : c.size ≤ o := hh.1; omega⟩
        refine ⟨.slice (some ⟨w.heap.size, 0, none⟩) t.length N, _, _, ?_, k2, k1, by simp [conc, Rho.upd_same, concS, hNl]⟩
        have hsh : (w.drew.alloc (.cells c e)).shape? w.heap.size = some (e, c.size) := by
          have := World.alloc_heap_new w.drew (.cells c e)
          simp only [World.size_drew] at this
          unfold World.shape?; rw [this]
        have hcc : (Array.map (fun b => Value.int .u8 b.toNat) t.toArray) ++ Array.replicate (N - t.length) (.int .u8 0) = c := by simp [c]
        have hfz := alloc_freeze w.drew c e
        simp only [World.size_drew] at hfz
        simp only [convert, Sem.run_bind, run_underlying hu, run_underlying hd, run_underlying he, Result.andThen_ok, Conv.stringToBytes, run_choose, Question.forced, Bool.false_eq_true, if_false, World.drew_eq, bytes_size, hN, newRow, run_newObj_alloc, Sem.run_pure, hcc, markStringish, run_shape, World.size_drew, hsh, run_freeze, hfz]
    · cases h
  · rename_i e a n c q hu hd
    split at h
    · rename_i he
      cases hl : elemsA σ 1 n (.slice a n 0 false) with
      | none => rw [hl] at h; cases h
      | some l =>
        rw [hl] at h
        simp only [Option.bind_some] at h
        cases hb : bytesOfA l with
        | none => rw [hb] at h; cases h
        | some s' =>
          rw [hb] at h
          simp only [Option.map_some, Option.some.injEq, Prod.mk.injEq] at h
          obtain ⟨rfl, rfl⟩ := h
          cases a with
          | none =>
            obtain ⟨_, rfl⟩ := conc_sliceNil hx
            simp only [elemsA, Option.some.injEq] at hl
            subst hl
            simp only [bytesOfA, Option.some.injEq] at hb
            subst hb
            exact VR.pure (x := .string .empty) (by rw [run_convert_bytes_string w s d e none n c hu he hd]; rfl) hr rfl
          | some p =>
            obtain ⟨i, o⟩ := p
            obtain ⟨b, N, hbi, cc, rfl⟩ : ∃ b N, ρ i = some (b, N) ∧ ∃ cc, X = .slice (some ⟨b, o, none⟩) n cc := by
              cases q with
              | false => obtain ⟨b, N, hb, rfl⟩ := conc_slice hx; exact ⟨b, N, hb, _, rfl⟩
              | true => obtain ⟨b, N, hb, _, rfl⟩ := conc_open hx; exact ⟨b, N, hb, _, rfl⟩
            simp only [elemsA, Nat.mul_one] at hl
            obtain ⟨xs, k1, k2, k3⟩ := run_loadN (P := P) hl hr hbi
            obtain ⟨ns, rfl, rfl⟩ := bytesOf_ints hb k1
            refine VR.pure (x := .string ⟨(ns.map fun n => UInt8.ofNat n.toNat).toArray⟩) ?_ hr rfl
            rw [run_convert_bytes_string w s d e _ n cc hu he hd, run_bytesToString w _ n cc ns k3]
            have := foldl_push ns []
            simp only [List.nil_append] at this
            rw [← this]
            rfl
    · cases h
  · rename_i t i o hu hd
    obtain ⟨b, N, hbi, rfl⟩ := conc_ptr hx
    cases hs : szT P t with
    | none => rw [hs] at h; cases h
    | some n =>
      rw [hs] at h
      simp only [Option.bind_some] at h
      cases hg : σ.get i with
      | none => rw [hg] at h; cases h
      | some ob =>
        cases ob with
        | cells cs e wr q =>
          rw [hg] at h
          simp only at h
          cases hc : (!(Nat.beq n 0) && Nat.blt o cs.length) with
          | false => rw [hc] at h; cases h
          | true =>
            rw [hc] at h
            simp only [cond, Option.some.injEq, Prod.mk.injEq] at h
            obtain ⟨rfl, rfl⟩ := h
            simp only [Bool.and_eq_true] at hc
            have hn : n ≠ 0 := fun e => by subst e; simp at hc
            have ho := blt_lt hc.2
            obtain ⟨ob, h1, h2, _⟩ := hr.objs i _ hg b N hbi
            cases ob with
            | cells c e' fr =>
              obtain ⟨_, hrow, _⟩ := h2
              have hoc : o < c.size := RowR.lt (ρ := ρ) (q := q) (N := N) hrow ho
              refine VR.pure (x := .pointer (some ⟨b, o, none⟩)) ?_ hr hx
              have hnot : ¬ (c.size ≤ o) := by omega
              simp [convert, run_underlying hu, run_underlying hd, Conv.unsafePointer, Conv.seenAt, viewAt, World.shape?, h1, cellsIn, run_sizeOf' hs, hn, hnot]
            | _ => exact h2.elim
        | _ => rw [hg] at h; cases h
  · rename_i u i o hu hd
    obtain ⟨b, N, hbi, rfl⟩ := conc_ptr hx
    cases hs : szT P u with
    | none => rw [hs] at h; cases h
    | some n =>
      rw [hs] at h
      simp only [Option.bind_some] at h
      cases hg : σ.get i with
      | none => rw [hg] at h; cases h
      | some ob =>
        cases ob with
        | cells cs e wr q =>
          cases q with
          | some _ => rw [hg] at h; cases h
          | none =>
            rw [hg] at h
            simp only at h
            cases hc : (!(Nat.beq n 0) && liesAt P P.depth e (cs.length / P.cellsOf e) o u 1) with
            | false => rw [hc] at h; cases h
            | true =>
              rw [hc] at h
              simp only [cond, Option.some.injEq, Prod.mk.injEq] at h
              obtain ⟨rfl, rfl⟩ := h
              simp only [Bool.and_eq_true] at hc
              have hn : n ≠ 0 := fun e => by subst e; simp at hc
              obtain ⟨ob, h1, h2, _⟩ := hr.objs i _ hg b N hbi
              cases ob with
              | cells c e' fr =>
                obtain ⟨rfl, ⟨l, hl, hq⟩, _⟩ := h2
                have hcs : c.size = cs.length := by rw [← Array.length_toList, hq]; exact concL_length hl
                refine VR.pure (x := .pointer (some ⟨b, o, none⟩)) ?_ hr hx
                have hv : (variablesAt ⟨b, o, none⟩ u 1).run P w = .ok true w := by simp [variablesAt, World.shape?, h1, hcs, hc.2]
                simp [convert, run_underlying hu, run_underlying hd, Conv.unsafePointer, Conv.seenAt, viewAt, World.shape?, h1, run_sizeOf' hs, hn, hv]
              | _ => exact h2.elim
        | _ => rw [hg] at h; cases h
  · cases h
end
end Go.Det
