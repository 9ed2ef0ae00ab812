/- Builtins, conversions, iterators, literals: what the evaluator does stands for what the model does. Conditions: none. -/
import Derived.Test.YtkbninmkgjhfmaaGreatDoorDetOps5
set_option maxHeartbeats 400000
namespace Go.Det
open Go
section
variable {P : Program} {B : Nat → Prop} {w0 w : World} {ρ : Rho} {σ σ' : AS}

theorem appendA_sound {ts tx ty : TypeId} {s x v : AV} {S X : Value} {rest : List TypeId} {args : List Value} (h : appendA P ts tx s x σ = some (v, σ')) (hr : Rel B w0 ρ σ w) (hS : conc ρ s = some S) (hx : conc ρ x = some X) :
    VR P B w0 (Builtin.append_ (ts :: tx :: rest).toArray ty (S :: X :: args).toArray) ρ w v σ' := by
  unfold appendA at h
  split at h
  · rename_i e dx hu hd
    cases hn : notInt dx with
    | false => rw [hn] at h; cases h
    | true =>
      rw [hn] at h
      simp only [cond] at h
      cases hs : szT P e with
      | none => rw [hs] at h; cases h
      | some size =>
        rw [hs] at h
        simp only [Option.bind_some] at h
        cases hb : byT P e with
        | none => rw [hb] at h; cases h
        | some bytes =>
          rw [hb] at h
          simp only [Option.bind_some] at h
          cases hz : zeroT P e with
          | none => rw [hz] at h; cases h
          | some z =>
            rw [hz] at h
            simp only [Option.bind_some] at h
            cases hl : lenA x with
            | none => rw [hl] at h; cases h
            | some n =>
              rw [hl] at h
              simp only [Option.bind_some] at h
              cases he : elemsA σ size n x with
              | none => rw [he] at h; cases h
              | some XS =>
                rw [he] at h
                simp only [Option.bind_some] at h
                cases hc : (Nat.beq z.cells.length size && Nat.beq XS.length (n * size) && XS.all AV.one) with
                | false => rw [hc] at h; cases h
                | true =>
                  rw [hc] at h
                  simp only at h
                  simp only [Bool.and_eq_true] at hc
                  obtain ⟨xs, e1, e2⟩ := elems_sound (P := P) he hr hx
                  obtain ⟨xs', e3, e4⟩ := elems_sound (P := P) he hr.drew hx
                  rw [e1] at e3
                  cases e3
                  exact appendX_sound h hu hd hn hs hb hz (beq_eq hc.1.1) (beq_eq hc.1.2) hc.2 (len_sound hl hx w) e1 e2 e4 hr hS
  · cases h

theorem copyA_sound {td ty : TypeId} {d x v : AV} {D X : Value} {rest : List TypeId} {args : List Value} (h : copyA P td d x σ = some (v, σ')) (hr : Rel B w0 ρ σ w) (hD : conc ρ d = some D) (hx : conc ρ x = some X) :
    VR P B w0 (Builtin.copy_ (td :: rest).toArray ty (D :: X :: args).toArray) ρ w v σ' := by
  unfold copyA at h
  split at h
  · rename_i e base len c q hu
    cases hs : szT P e with
    | none => rw [hs] at h; cases h
    | some size =>
      rw [hs] at h
      simp only [Option.bind_some] at h
      cases hl : lenA x with
      | none => rw [hl] at h; cases h
      | some n =>
        rw [hl] at h
        simp only [Option.bind_some] at h
        cases he : elemsA σ size (min n len) x with
        | none => rw [he] at h; cases h
        | some XS =>
          rw [he] at h
          simp only [Option.bind_some] at h
          obtain ⟨xs, e1, e2⟩ := elems_sound (P := P) he hr hx
          have hmin : Nat.min n len = min n len := rfl
          cases base with
          | none =>
            simp only [Option.some.injEq, Prod.mk.injEq] at h
            obtain ⟨rfl, rfl⟩ := h
            obtain ⟨_, rfl⟩ := conc_sliceNil hD
            refine VR.pure (x := .int .i64 (min n len : Nat)) ?_ hr rfl
            simp [Builtin.copy_, run_underlying hu, len_sound hl hx, run_sizeOf' hs, hmin, e2, goInt]
          | some p =>
            obtain ⟨i, o⟩ := p
            simp only at h
            cases hst : storeN σ i o XS with
            | none => rw [hst] at h; cases h
            | some σ1 =>
              rw [hst] at h
              simp only [Option.map_some, Option.some.injEq, Prod.mk.injEq] at h
              obtain ⟨rfl, rfl⟩ := h
              obtain ⟨b, N, hb, cc, rfl⟩ : ∃ b N, ρ i = some (b, N) ∧ ∃ cc, D = .slice (some ⟨b, o, none⟩) len cc := by
                cases q with
                | false => obtain ⟨b, N, hb, rfl⟩ := conc_slice hD; exact ⟨b, N, hb, _, rfl⟩
                | true => obtain ⟨b, N, hb, _, rfl⟩ := conc_open hD; exact ⟨b, N, hb, _, rfl⟩
              obtain ⟨w', k1, k2⟩ := run_storeN (P := P) hst hr hb e1
              refine ⟨.int .i64 (min n len : Nat), w', ρ, ?_, .refl ρ, k2, rfl⟩
              simp [Builtin.copy_, run_underlying hu, len_sound hl hx, run_sizeOf' hs, hmin, e2, k1, goInt]
  · rename_i e i o alt skip q hu
    cases hs : szT P e with
    | none => rw [hs] at h; cases h
    | some size =>
      rw [hs] at h
      simp only [Option.bind_some] at h
      cases hl : lenA x with
      | none => rw [hl] at h; cases h
      | some n =>
        rw [hl] at h
        simp only [Option.bind_some] at h
        cases he : elemsA σ size 0 x with
        | none => rw [he] at h; cases h
        | some XS =>
          rw [he] at h
          simp only [Option.bind_some] at h
          cases hc : Nat.beq XS.length 0 with
          | false => rw [hc] at h; cases h
          | true =>
            rw [hc] at h
            simp only [cond, Option.some.injEq, Prod.mk.injEq] at h
            obtain ⟨rfl, rfl⟩ := h
            obtain ⟨xs, e1, e2⟩ := elems_sound (P := P) he hr hx
            have hxs : xs = [] := by
              have := concL_length e1
              rw [beq_eq hc] at this
              exact List.length_eq_zero_iff.1 this
            subst hxs
            obtain ⟨b, N, hb, h2⟩ := conc_eslice hD
            refine VR.pure (x := .int .i64 0) ?_ hr rfl
            rcases h2 with ⟨_, rfl⟩ | ⟨_, rfl⟩ <;> simp [Builtin.copy_, run_underlying hu, len_sound hl hx, run_sizeOf' hs, e2, goInt, storeCells]
  · cases h

theorem min2_sound {a b v : AV} {A C : Value} (h : min2A a b = some v) (ha : conc ρ a = some A) (hb : conc ρ b = some C) (w : World) : ∃ x, conc ρ v = some x ∧ (Builtin.min2 A C).run P w = .ok x w := by
  unfold min2A at h
  split at h
  · cases conc_int ha; cases conc_int hb; cases h; exact ⟨_, rfl, rfl⟩
  · cases conc_str ha; cases conc_str hb
    simp only [Option.some.injEq] at h
    subst h
    refine ⟨_, rfl, ?_⟩
    simp only [Builtin.min2, Op.stringOp, toList_bytes, Sem.run_bind, Sem.run_pure, Result.andThen_ok, asBool]
    split <;> rfl
  · cases h

theorem max2_sound {a b v : AV} {A C : Value} (h : max2A a b = some v) (ha : conc ρ a = some A) (hb : conc ρ b = some C) (w : World) : ∃ x, conc ρ v = some x ∧ (Builtin.max2 A C).run P w = .ok x w := by
  unfold max2A at h
  split at h
  · cases conc_int ha; cases conc_int hb; cases h; exact ⟨_, rfl, rfl⟩
  · cases conc_str ha; cases conc_str hb
    simp only [Option.some.injEq] at h
    subst h
    refine ⟨_, rfl, ?_⟩
    simp only [Builtin.max2, Op.stringOp, toList_bytes, Sem.run_bind, Sem.run_pure, Result.andThen_ok, asBool]
    split <;> rfl
  · cases h

theorem fold_sound {f : AV → AV → Option AV} {F : Value → Value → Sem Value} (hf : ∀ {a b v : AV} {A C : Value}, f a b = some v → conc ρ a = some A → conc ρ b = some C → ∀ w, ∃ x, conc ρ v = some x ∧ (F A C).run P w = .ok x w) (w : World) :
    ∀ {l : List AV} {L : List Value} {a v : AV} {A : Value}, foldA f a l = some v → concL ρ l = some L → conc ρ a = some A → ∃ x, conc ρ v = some x ∧ (L.foldlM F A).run P w = .ok x w
  | [], L, a, v, A, h, hl, ha => by
    simp only [concL, Option.some.injEq] at hl
    simp only [foldA, Option.some.injEq] at h
    subst h; subst hl
    exact ⟨A, ha, rfl⟩
  | b :: r, L, a, v, A, h, hl, ha => by
    obtain ⟨C, L', hb, hr', rfl⟩ := concL_cons hl
    simp only [foldA] at h
    cases e : f a.bare b.bare with
    | none => rw [e] at h; cases h
    | some z =>
      rw [e] at h
      simp only [Option.bind_some] at h
      obtain ⟨Z, z1, z2⟩ := hf e (conc_bare ha) (conc_bare hb) w
      obtain ⟨x, x1, x2⟩ := fold_sound hf w h hr' z1
      exact ⟨x, x1, by simp only [List.foldlM_cons, Sem.run_bind, z2, Result.andThen_ok, x2]⟩

theorem bytesOf_ints : ∀ {l : List AV} {s : List UInt8} {xs : List Value}, bytesOfA l = some s → concL ρ l = some xs → ∃ ns : List Int, xs = ns.map (Value.int .u8) ∧ s = ns.map fun n => UInt8.ofNat n.toNat
  | [], s, xs, h, hx => by
    simp only [bytesOfA, Option.some.injEq] at h
    simp only [concL, Option.some.injEq] at hx
    subst h; subst hx
    exact ⟨[], rfl, rfl⟩
  | v :: r, s, xs, h, hx => by
    obtain ⟨x, y, h1, h2, rfl⟩ := concL_cons hx
    cases v with
    | int k n =>
      cases k <;> simp only [bytesOfA, reduceCtorEq] at h
      cases e : bytesOfA r with
      | none => rw [e] at h; cases h
      | some s' =>
        rw [e] at h
        simp only [Option.map_some, Option.some.injEq] at h
        subst h
        obtain ⟨ns, k1, k2⟩ := bytesOf_ints e h2
        subst k1; subst k2
        cases conc_int h1
        exact ⟨n :: ns, rfl, rfl⟩
    | _ => simp [bytesOfA] at h

theorem foldl_push (ns : List Int) : ∀ (acc : List UInt8), ns.foldl (fun (r : ByteArray) n => r.push (UInt8.ofNat n.toNat)) ⟨acc.toArray⟩ = ⟨(acc ++ ns.map fun n => UInt8.ofNat n.toNat).toArray⟩ := by
  induction ns with
  | nil => intro acc; simp
  | cons n ns ih =>
    intro acc
    simp only [List.foldl_cons, List.map_cons]
    have : (⟨acc.toArray⟩ : ByteArray).push (UInt8.ofNat n.toNat) = ⟨(acc ++ [UInt8.ofNat n.toNat]).toArray⟩ := by
      apply ByteArray.ext
      simp [ByteArray.data_push]
    rw [this, ih]
    simp

theorem run_loadBytes {b o : Nat} : ∀ (ns : List Int) (k : Nat) (acc : List UInt8), (∀ j n, ns[j]? = some n → w.cell? ⟨b, o + k + j, none⟩ = some (.int .u8 n)) →
    (loadBytes ⟨b, o + k, none⟩ ⟨acc.toArray⟩ ns.length).run P w = .ok ⟨(acc ++ ns.map fun n => UInt8.ofNat n.toNat).toArray⟩ w
  | [], k, acc, _ => by simp [loadBytes]
  | n :: ns, k, acc, h => by
    have h0 := h 0 n (by simp)
    have hp : (⟨acc.toArray⟩ : ByteArray).push (n.toNat.toUInt8) = ⟨(acc ++ [UInt8.ofNat n.toNat]).toArray⟩ := by
      apply ByteArray.ext
      simp [ByteArray.data_push]
    have ih := run_loadBytes (b := b) (o := o) ns (k + 1) (acc ++ [UInt8.ofNat n.toNat]) (fun j m hj => by
      have := h (j + 1) m (by simpa using hj)
      rwa [show o + k + (j + 1) = o + (k + 1) + j by omega] at this)
    simp only [List.length_cons, loadBytes, Sem.run_bind, run_load]
    simp only [Nat.add_zero] at h0
    simp only [h0, Result.andThen_ok, add_spotless, hp]
    rw [show o + k + 1 = o + (k + 1) by omega, ih]
    simp

end
end Go.Det
