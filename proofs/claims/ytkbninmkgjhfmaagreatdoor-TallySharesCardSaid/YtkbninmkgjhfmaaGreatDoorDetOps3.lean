/- Slices, maps, what goes through them: what the evaluator does stands for what the model does. Conditions: none. -/
import Derived.Test.YtkbninmkgjhfmaaGreatDoorDetOps2
import Derived.MapKept
set_option maxHeartbeats 400000
namespace Go.Det
open Go
section
variable {P : Program} {B : Nat → Prop} {w0 w : World} {ρ : Rho} {σ σ' : AS}

/-! ### Slices -/
def OptR (ρ : Rho) : Option AV → Option Value → Prop
  | none, none => True
  | some v, some x => conc ρ v = some x
  | _, _ => False

theorem bound_sound {x : AV} {X : Value} {y y' n : Nat} {code : BoundsCode} (h : boundA x y = some n) (hx : conc ρ x = some X) (hy : y ≤ y') (w : World) :
    (Instr.sliceBound X y' code).run P w = .ok n w ∧ n ≤ y := by
  cases x with
  | int k m =>
    cases conc_int hx
    simp only [boundA] at h
    split at h
    · rename_i h0
      cases hb : Nat.ble m.toNat y with
      | false => rw [hb] at h; cases h
      | true =>
        rw [hb] at h
        simp only [cond, Option.some.injEq] at h
        subst h
        have hle : m.toNat ≤ y := Nat.le_of_ble_eq_true hb
        refine ⟨?_, hle⟩
        have : 0 ≤ m ∧ m ≤ (y' : Int) := ⟨h0, by omega⟩
        simp [Instr.sliceBound, asIntOf, this]
    · cases h
  | _ => simp [boundA] at h

theorem bounds_sound {isS : Bool} {len cap cap' : Nat} {lo hi mx : Option AV} {LO HI MX : Option Value} {l h m : Nat} (hb : boundsA len cap lo hi mx = some (l, h, m)) (hc : cap ≤ cap')
    (hlo : OptR ρ lo LO) (hhi : OptR ρ hi HI) (hmx : OptR ρ mx MX) (w : World) :
    (Instr.sliceBounds isS len cap' LO HI MX).run P w = .ok (l, h, if mx.isNone then cap' else m) w ∧ l ≤ h ∧ (mx = none → m = cap) ∧ m ≤ cap ∧ (h = len ∨ h ≤ m) ∧ (mx.isSome → h ≤ m) := by
  unfold boundsA at hb
  cases mx with
  | none =>
    cases MX with
    | some _ => exact hmx.elim
    | none =>
      simp only [Option.bind_some] at hb
      cases hi with
      | none =>
        cases HI with
        | some _ => exact hhi.elim
        | none =>
          simp only [Option.bind_some] at hb
          cases lo with
          | none =>
            cases LO with
            | some _ => exact hlo.elim
            | none => simp only [Option.map_some, Option.some.injEq, Prod.mk.injEq] at hb; obtain ⟨rfl, rfl, rfl⟩ := hb; simp [Instr.sliceBounds]
          | some v =>
            cases LO with
            | none => exact hlo.elim
            | some X =>
              dsimp only at hb
              cases e : boundA v len with
              | none => rw [e] at hb; cases hb
              | some n =>
                rw [e] at hb
                simp only [Option.map_some, Option.some.injEq, Prod.mk.injEq] at hb
                obtain ⟨rfl, rfl, rfl⟩ := hb
                have := fun code => bound_sound (P := P) (code := code) e hlo (Nat.le_refl _) w
                simp [Instr.sliceBounds, (this _).1, (this .sliceB).2]
      | some u =>
        cases HI with
        | none => exact hhi.elim
        | some U =>
          dsimp only at hb
          cases e1 : boundA u cap with
          | none => rw [e1] at hb; cases hb
          | some k =>
            rw [e1] at hb
            simp only [Option.bind_some] at hb
            have h1 := fun code => bound_sound (P := P) (code := code) e1 hhi hc w
            cases lo with
            | none =>
              cases LO with
              | some _ => exact hlo.elim
              | none => simp only [Option.map_some, Option.some.injEq, Prod.mk.injEq] at hb; obtain ⟨rfl, rfl, rfl⟩ := hb; cases isS <;> simp [Instr.sliceBounds, (h1 _).1, (h1 .sliceB).2]
            | some v =>
              cases LO with
              | none => exact hlo.elim
              | some X =>
                dsimp only at hb
                cases e : boundA v k with
                | none => rw [e] at hb; cases hb
                | some n =>
                  rw [e] at hb
                  simp only [Option.map_some, Option.some.injEq, Prod.mk.injEq] at hb
                  obtain ⟨rfl, rfl, rfl⟩ := hb
                  have := fun code => bound_sound (P := P) (code := code) e hlo (Nat.le_refl _) w
                  cases isS <;> simp [Instr.sliceBounds, (this _).1, (this .sliceB).2, (h1 _).1, (h1 .sliceB).2]
  | some z =>
    cases MX with
    | none => exact hmx.elim
    | some Z =>
      dsimp only at hb
      cases e0 : boundA z cap with
      | none => rw [e0] at hb; cases hb
      | some m' =>
        rw [e0] at hb
        simp only [Option.bind_some] at hb
        have h0 := fun code => bound_sound (P := P) (code := code) e0 hmx hc w
        cases hi with
        | none => cases hb
        | some u =>
          cases HI with
          | none => exact hhi.elim
          | some U =>
            dsimp only at hb
            cases e1 : boundA u m' with
            | none => rw [e1] at hb; cases hb
            | some k =>
              rw [e1] at hb
              simp only [Option.bind_some] at hb
              have h1 := fun code => bound_sound (P := P) (code := code) e1 hhi (Nat.le_refl _) w
              cases lo with
              | none =>
                cases LO with
                | some _ => exact hlo.elim
                | none => simp only [Option.map_some, Option.some.injEq, Prod.mk.injEq] at hb; obtain ⟨rfl, rfl, rfl⟩ := hb; cases isS <;> simp [Instr.sliceBounds, (h1 _).1, (h1 .sliceB).2, (h0 _).1, (h0 .sliceB).2]
              | some v =>
                cases LO with
                | none => exact hlo.elim
                | some X =>
                  dsimp only at hb
                  cases e : boundA v k with
                  | none => rw [e] at hb; cases hb
                  | some n =>
                    rw [e] at hb
                    simp only [Option.map_some, Option.some.injEq, Prod.mk.injEq] at hb
                    obtain ⟨rfl, rfl, rfl⟩ := hb
                    have := fun code => bound_sound (P := P) (code := code) e hlo (Nat.le_refl _) w
                    cases isS <;> simp [Instr.sliceBounds, (this _).1, (this .sliceB).2, (h1 _).1, (h1 .sliceB).2, (h0 _).1, (h0 .sliceB).2]

theorem extract_bytes (s : List UInt8) (l h : Nat) : (⟨s.toArray⟩ : ByteArray).extract l h = ⟨((s.drop l).take (h - l)).toArray⟩ := by
  apply ByteArray.ext
  simp [ByteArray.data_extract, List.take_drop]

theorem known_sound {i o n K b N : Nat} (h : knownA σ i o n = some K) (hr : Rel B w0 ρ σ w) (hb : ρ i = some (b, N)) : 0 < n ∧ o + K * n ≤ N * n := by
  unfold knownA at h
  cases hg : σ.get i with
  | none => rw [hg] at h; cases h
  | some ob =>
    cases ob with
    | cells cs e wr q =>
      cases q with
      | none => rw [hg] at h; cases h
      | some m =>
        rw [hg] at h
        simp only at h
        cases hc : (Nat.beq n m && Nat.blt 0 n && Nat.ble o cs.length) with
        | false => rw [hc] at h; cases h
        | true =>
          rw [hc] at h
          simp only [cond, Option.some.injEq] at h
          simp only [Bool.and_eq_true] at hc
          obtain ⟨⟨h1, h2⟩, h3⟩ := hc
          obtain rfl : n = m := Nat.eq_of_beq_eq_true h1
          have hn : 0 < n := blt_lt h2
          have ho : o ≤ cs.length := Nat.le_of_ble_eq_true h3
          obtain ⟨ob, _, k2, _⟩ := hr.objs i _ hg b N hb
          cases ob with
          | cells c e' fr =>
            obtain ⟨_, ⟨l, _, hq⟩, _⟩ := k2
            have := hq.2.2
            refine ⟨hn, ?_⟩
            have hd : (cs.length - o) / n * n ≤ cs.length - o := Nat.div_mul_le_self _ _
            rw [h] at hd
            omega
          | _ => exact k2.elim
    | _ => rw [hg] at h; cases h

theorem add_off (b o k : Nat) : (⟨b, o, none⟩ : Addr).add k = ⟨b, o + k, none⟩ := add_spotless b o k

theorem sliceA_sound {t : TypeId} {x v : AV} {X : Value} {lo hi mx : Option AV} {LO HI MX : Option Value} (h : sliceA P t x lo hi mx σ = some v) (hr : Rel B w0 ρ σ w) (hx : conc ρ x = some X)
    (hlo : OptR ρ lo LO) (hhi : OptR ρ hi HI) (hmx : OptR ρ mx MX) : ∃ z, conc ρ v = some z ∧ (Instr.sliceAt t X LO HI MX).run P w = .ok z w := by
  unfold sliceA at h
  split at h
  · -- a text
    rename_i s hu
    cases conc_str hx
    cases mx with
    | some _ => cases h
    | none =>
      cases MX with
      | some _ => exact hmx.elim
      | none =>
        simp only at h
        cases e : boundsA s.length s.length lo hi none with
        | none => rw [e] at h; cases h
        | some p =>
          obtain ⟨l, hh, m⟩ := p
          rw [e] at h
          simp only [Option.map_some, Option.some.injEq] at h
          subst h
          have hb := (bounds_sound (P := P) (isS := false) e (Nat.le_refl _) hlo hhi hmx w).1
          refine ⟨_, rfl, ?_⟩
          simp [Instr.sliceAt, run_underlying hu, Instr.slice, bytes_size, hb, extract_bytes]
  · -- a slice of known capacity
    rename_i e a len cap hu
    cases eb : boundsA len cap lo hi mx with
    | none => rw [eb] at h; cases h
    | some p =>
      obtain ⟨l, hh, m⟩ := p
      rw [eb] at h
      simp only [Option.bind_some] at h
      cases es : szT P e with
      | none => rw [es] at h; cases h
      | some n =>
        rw [es] at h
        simp only [Option.map_some, Option.some.injEq] at h
        subst h
        obtain ⟨hb, k1, k2, k3, k4, k5⟩ := bounds_sound (P := P) (isS := true) eb (Nat.le_refl _) hlo hhi hmx w
        have hm : (if mx.isNone = true then cap else m) = m := by
          cases mx with
          | none => simp; exact (k2 rfl).symm
          | some _ => simp
        rw [hm] at hb
        have hbq : Nat.beq m l = decide (m = l) := by
          by_cases e : m = l
          · subst e; simp
          · rw [decide_eq_false e]
            cases hb : Nat.beq m l with
            | false => rfl
            | true => exact absurd (Nat.eq_of_beq_eq_true hb) e
        cases a with
        | none =>
          obtain ⟨_, rfl⟩ := conc_sliceNil hx
          refine ⟨.slice none (hh - l) (m - l), by rw [hbq]; cases decide (m = l) <;> simp [conc], ?_⟩
          simp [Instr.sliceAt, run_underlying hu, Instr.slice, hb, run_sizeOf' es]
        | some q =>
          obtain ⟨i, o⟩ := q
          obtain ⟨b, N, hbi, rfl⟩ := conc_slice hx
          by_cases hml : m = l
          · subst hml
            refine ⟨.slice (some ⟨b, o, none⟩) (hh - m) (m - m), by simp [conc, hbi, concS], ?_⟩
            simp [Instr.sliceAt, run_underlying hu, Instr.slice, hb, run_sizeOf' es]
          · refine ⟨.slice (some ⟨b, o + l * n, none⟩) (hh - l) (m - l), by simp [conc, hbi, concS, hbq, hml], ?_⟩
            simp [Instr.sliceAt, run_underlying hu, Instr.slice, hb, run_sizeOf' es, hml, add_off]
  · -- a slice of a row with room
    rename_i e i o len skip hu
    cases es : szT P e with
    | none => rw [es] at h; cases h
    | some n =>
      rw [es] at h
      simp only [Option.bind_some] at h
      cases ek : knownA σ i o n with
      | none => rw [ek] at h; cases h
      | some K =>
        rw [ek] at h
        simp only [Option.bind_some] at h
        obtain ⟨b, N, hbi, hN, rfl⟩ := conc_open hx
        obtain ⟨hn, hK⟩ := known_sound ek hr hbi
        cases hc : (Nat.ble len K && Nat.beq o (skip * n)) with
        | false => rw [hc] at h; cases h
        | true =>
          rw [hc] at h
          simp only [cond] at h
          simp only [Bool.and_eq_true] at hc
          have hlk : len ≤ K := Nat.le_of_ble_eq_true hc.1
          obtain rfl : o = skip * n := Nat.eq_of_beq_eq_true hc.2
          have hKN : skip + K ≤ N := by
            have : (skip + K) * n ≤ N * n := by rw [Nat.add_mul]; exact hK
            exact Nat.le_of_mul_le_mul_right this hn
          cases mx with
          | none =>
            cases MX with
            | some _ => exact hmx.elim
            | none =>
              simp only at h
              cases eb : boundsA len K lo hi none with
              | none => rw [eb] at h; cases h
              | some p =>
                obtain ⟨l, hh, m⟩ := p
                rw [eb] at h
                simp only [Option.map_some, Option.some.injEq] at h
                obtain ⟨hb, k1, k2, k3, k4, k5⟩ := bounds_sound (P := P) (isS := true) (cap' := N - skip) eb (by omega) hlo hhi hmx w
                simp only [Option.isNone_none, if_true] at hb
                have hhK : hh ≤ K := by have := k2 rfl; rcases k4 with rfl | h' <;> omega
                cases hq : (Nat.beq l 0 || Nat.blt l K) with
                | true =>
                  rw [hq] at h
                  dsimp only [cond] at h
                  subst h
                  have hl : l = 0 ∨ l < K := by
                    simp only [Bool.or_eq_true] at hq
                    rcases hq with hq | hq
                    · exact .inl (Nat.eq_of_beq_eq_true hq)
                    · exact .inr (blt_lt hq)
                  have hle : hh - l + (skip + l) ≤ N := by omega
                  refine ⟨.slice (some ⟨b, skip * n + l * n, none⟩) (hh - l) (N - (skip + l)), by simp [conc, hbi, concS, hle], ?_⟩
                  simp only [Instr.sliceAt, Sem.run_bind, run_underlying hu, Result.andThen_ok, Instr.slice, hb, run_sizeOf' es, Option.map_some]
                  by_cases h0 : l = 0
                  · subst h0
                    by_cases hz : N - skip = 0
                    · simp [hz]
                    · simp [hz, add_off]
                  · rw [if_neg (show ¬ N - skip = l by omega), add_off]
                    simp only [Sem.run_pure, Result.ok.injEq, Value.slice.injEq, and_true, true_and]
                    omega
                | false =>
                  rw [hq] at h
                  dsimp only [cond] at h
                  subst h
                  simp only [Bool.or_eq_false_iff] at hq
                  have hl0 : l ≠ 0 := fun e => by subst e; simp at hq
                  have hlK : ¬ l < K := fun e => by rw [lt_blt e] at hq; simp at hq
                  have hll : l = K := by omega
                  subst hll
                  have hhl : hh - l = 0 := by omega
                  by_cases hs : skip + l < N
                  · refine ⟨.slice (some ⟨b, skip * n + l * n, none⟩) 0 (N - (skip + l)), by simp [conc, hbi, concZ, hs], ?_⟩
                    simp only [Instr.sliceAt, Sem.run_bind, run_underlying hu, Result.andThen_ok, Instr.slice, hb, run_sizeOf' es, Option.map_some]
                    rw [if_neg (show ¬ N - skip = l by omega), add_off]
                    simp only [Sem.run_pure, Result.ok.injEq, Value.slice.injEq, and_true, true_and]
                    omega
                  · have hs' : skip + l = N := by omega
                    refine ⟨.slice (some ⟨b, skip * n, none⟩) 0 0, by simp [conc, hbi, concZ, hs'], ?_⟩
                    simp only [Instr.sliceAt, Sem.run_bind, run_underlying hu, Result.andThen_ok, Instr.slice, hb, run_sizeOf' es, Option.map_some]
                    rw [if_pos (show N - skip = l by omega)]
                    simp only [Sem.run_pure, Result.ok.injEq, Value.slice.injEq, and_true, true_and]
                    omega
          | some z =>
            simp only at h
            cases eb : boundsA len K lo hi (some z) with
            | none => rw [eb] at h; cases h
            | some p =>
              obtain ⟨l, hh, m⟩ := p
              rw [eb] at h
              simp only [Option.map_some, Option.some.injEq] at h
              obtain ⟨hb, k1, k2, k3, k4, k5⟩ := bounds_sound (P := P) (isS := true) (cap' := N - skip) eb (by omega) hlo hhi hmx w
              simp only [Option.isNone_some, Bool.false_eq_true, if_false] at hb
              subst h
              by_cases hml : m = l
              · subst hml
                refine ⟨.slice (some ⟨b, skip * n, none⟩) (hh - m) (m - m), by simp [conc, hbi, concS], ?_⟩
                simp [Instr.sliceAt, run_underlying hu, Instr.slice, hb, run_sizeOf' es]
              · have hbq : Nat.beq m l = false := by
                  cases hb : Nat.beq m l with
                  | false => rfl
                  | true => exact absurd (Nat.eq_of_beq_eq_true hb) hml
                refine ⟨.slice (some ⟨b, skip * n + l * n, none⟩) (hh - l) (m - l), by simp [conc, hbi, concS, hbq], ?_⟩
                simp [Instr.sliceAt, run_underlying hu, Instr.slice, hb, run_sizeOf' es, hml, add_off]
  · -- an empty slice at the end of a row with room
    rename_i e i o alt skip q hu
    obtain ⟨b, N, hbi, hz⟩ := conc_eslice hx
    cases hn : szT P e with
    | none => rw [hn] at h; cases h
    | some n =>
    rw [hn] at h
    simp only [Option.bind_some] at h
    cases mx with
    | none =>
      cases MX with
      | some _ => exact hmx.elim
      | none =>
        simp only at h
        cases eb : boundsA 0 0 lo hi none with
        | none => rw [eb] at h; cases h
        | some p =>
          obtain ⟨l, hh, m⟩ := p
          rw [eb] at h
          simp only [Option.map_some, Option.some.injEq] at h
          subst h
          have hbs := fun cap' => bounds_sound (P := P) (isS := true) (cap' := cap') eb (Nat.zero_le _) hlo hhi hmx w
          have k := hbs 0
          have hh0 : hh = 0 := by have h1 := k.2.2.1 rfl; have h2 := k.2.2.2.2.1; omega
          have hl0 : l = 0 := by have := k.2.1; omega
          subst hh0; subst hl0
          refine ⟨X, hx, ?_⟩
          rcases hz with ⟨h1, rfl⟩ | ⟨h1, rfl⟩
          · simp [Instr.sliceAt, run_underlying hu, Instr.slice, (hbs _).1, run_sizeOf' hn, add_off]
          · simp [Instr.sliceAt, run_underlying hu, Instr.slice, (hbs _).1, run_sizeOf' hn]
    | some z =>
      simp only at h
      cases eb : boundsA 0 0 lo hi (some z) with
      | none => rw [eb] at h; cases h
      | some p =>
        obtain ⟨l, hh, m⟩ := p
        rw [eb] at h
        simp only [Option.map_some, Option.some.injEq] at h
        subst h
        have hbs := fun cap' => bounds_sound (P := P) (isS := true) (cap' := cap') eb (Nat.zero_le _) hlo hhi hmx w
        have k := hbs 0
        have hm0 : m = 0 := by have := k.2.2.2.1; omega
        have hh0 : hh = 0 := by have := k.2.2.2.2.2 rfl; omega
        have hl0 : l = 0 := by have := k.2.1; omega
        subst hh0; subst hl0; subst hm0
        rcases hz with ⟨h1, rfl⟩ | ⟨h1, rfl⟩
        · exact ⟨.slice (some ⟨b, o, none⟩) 0 0, by simp [conc, hbi, concZ, h1], by simp [Instr.sliceAt, run_underlying hu, Instr.slice, (hbs _).1, run_sizeOf' hn]⟩
        · exact ⟨.slice (some ⟨b, alt, none⟩) 0 0, by simp [conc, hbi, concZ, h1], by simp [Instr.sliceAt, run_underlying hu, Instr.slice, (hbs _).1, run_sizeOf' hn]⟩
  · -- an array's address
    rename_i nn e i o hu
    obtain ⟨b, N, hbi, rfl⟩ := conc_ptr hx
    cases eb : boundsA nn nn lo hi mx with
    | none => rw [eb] at h; cases h
    | some p =>
      obtain ⟨l, hh, m⟩ := p
      rw [eb] at h
      simp only [Option.bind_some] at h
      cases es : szT P e with
      | none => rw [es] at h; cases h
      | some n =>
        rw [es] at h
        simp only [Option.map_some, Option.some.injEq] at h
        subst h
        obtain ⟨hb, k1, k2, k3, k4, k5⟩ := bounds_sound (P := P) (isS := false) eb (Nat.le_refl _) hlo hhi hmx w
        have hm : (if mx.isNone = true then nn else m) = m := by
          cases mx with
          | none => simp; exact (k2 rfl).symm
          | some _ => simp
        rw [hm] at hb
        by_cases hml : m = l
        · subst hml
          refine ⟨.slice (some ⟨b, o, none⟩) (hh - m) (m - m), by simp [conc, hbi, concS], ?_⟩
          simp [Instr.sliceAt, run_underlying hu, Instr.sureAddr, hb, run_sizeOf' es]
        · have hbq : Nat.beq m l = false := by
            cases hb : Nat.beq m l with
            | false => rfl
            | true => exact absurd (Nat.eq_of_beq_eq_true hb) hml
          refine ⟨.slice (some ⟨b, o + l * n, none⟩) (hh - l) (m - l), by simp [conc, hbi, concS, hbq], ?_⟩
          simp [Instr.sliceAt, run_underlying hu, Instr.sureAddr, hb, run_sizeOf' es, hml, add_off]
  · cases h
end
end Go.Det
