/- A region that draws its order of evaluation: every order comes to what the evaluator's one order comes to. Conditions: none beyond those of each theorem. -/
import Derived.Test.YtkbninmkgjhfmaaGreatDoorDetSound8
set_option maxHeartbeats 400000
namespace Go.Det
open Go
section
variable {B : Nat → Prop} {w0 w : World} {ρ : Rho} {σ σ' : AS} {E : Env} {go : ExecT} {ops : Array Oper} {T0 : Tm}

/-- What the evaluator does ahead of the run. -/
theorem DInv.birth {s s1 : DSt} {ρ0 : Rho} {a0 a : Act} {L : Array Bool} {r : DRec} (k : DInv B w0 ρ0 ops a0 s L ρ a w) (hrec : RecOK E ops T0 s.recs r) (h : StepDR E go ops s r s1) (hne : r.k ≠ .eff) :
    ∃ ρ1, DInv B w0 ρ0 ops a0 s1 L ρ1 a w := by
  have hun : L.getD r.i false = false := by
    cases e : L.getD r.i false with
    | false => rfl
    | true => obtain ⟨q, q1, q2⟩ := k.sub _ e; exact absurd q2 (hrec.fresh q q1)
  have base : ∀ (ρ1 : Rho) (σ1 : AS) (last : Option (Nat × Nat)), ρ.Le ρ1 → (∀ j, ρ1 j = ρ j) → Rel B w0 ρ1 σ1 w →
      (∀ i cs e, r.k = .new i cs e → i = ρ.n ∧ ρ.n < ρ1.n) → DInv B w0 ρ0 ops a0 ⟨r :: s.recs, last, σ1⟩ L ρ1 a w := by
    intro ρ1 σ1 last le same rel hnew
    refine ⟨k.lsz, k.closed, ?_, ?_, k.le.trans le, rel, ?_, ?_, k.size, k.defers, ?_, ?_⟩
    · intro i hi
      obtain ⟨q, q1, q2⟩ := k.sub i hi
      exact ⟨q, List.mem_cons_of_mem _ q1, q2⟩
    · intro q hq he
      rcases List.mem_cons.1 hq with rfl | hq'
      · exact absurd he hne
      · exact k.effs q hq' he
    · intro q hq hl d hd
      rcases List.mem_cons.1 hq with rfl | hq'
      · rw [hun] at hl; cases hl
      · exact conc_sub le.sub _ _ (k.vals q hq' hl d hd)
    · intro d hno
      exact k.rest d fun q hq => hno q (List.mem_cons_of_mem _ hq)
    · intro q hq hl i cs e hk
      rcases List.mem_cons.1 hq with rfl | hq'
      · obtain ⟨h1, h2⟩ := hnew i cs e hk
        refine ⟨?_, by rw [h1]; exact k.le.le, by rw [h1]; exact h2⟩
        rw [same]
        exact k.rel.fresh i (by rw [h1]; exact Nat.le_refl _)
      · obtain ⟨n1, n2, n3⟩ := k.news q hq' hl i cs e hk
        exact ⟨by rw [same]; exact n1, n2, Nat.lt_of_lt_of_le n3 le.le⟩
    · intro q hq q' hq' hl hl' i cs e cs' e' hk hk'
      rcases List.mem_cons.1 hq with e1 | m1 <;> rcases List.mem_cons.1 hq' with e2 | m2
      · rw [e1, e2]
      · exfalso
        subst e1
        have h1 := (hnew i cs e hk).1
        have h2 := (k.news q' m2 hl' i cs' e' hk').2.2
        omega
      · exfalso
        subst e2
        have h1 := (hnew i cs' e' hk').1
        have h2 := (k.news q m1 hl i cs e hk).2.2
        omega
      · exact k.apart q m1 q' m2 hl hl' i cs e cs' e' hk hk'
  cases h with
  | flt hk hv => exact ⟨ρ, base ρ _ _ (.refl ρ) (fun _ => rfl) k.rel fun i cs e hk' => by rw [hk] at hk'; cases hk'⟩
  | new hk ha hst =>
    obtain ⟨h1, h2, h3, h4, h5⟩ := k.rel.addLate ha
    refine ⟨_, base _ _ _ h2 (fun _ => rfl) h1 fun i' cs' e' hk' => ?_⟩
    rw [hk] at hk'
    cases hk'
    exact ⟨h3, Nat.lt_succ_self _⟩
  | eff hk hv hst => exact absurd hk hne

/-- Every order from here on. -/
theorem draw_claim (hE : EnvOK E) (hgo : Snd E go) {ρ0 : Rho} {a0 : Act} {rd : Option Nat} {Q : Exit → Act → World → Prop} (ht0 : TRel ρ0 T0 a0.tmps) (hG : GR ρ0 E.G) :
    ∀ {ord : List (Nat × Bool)} {s sf : DSt}, runD E go ops T0 ord s = some sf → DOK E ops T0 s → (∀ i, i < ops.size → ∃ r ∈ sf.recs, r.i = i) →
    (∀ (L : Array Bool) (ρ : Rho) (a : Act) (w : World), DInv B w0 ρ0 ops a0 sf L ρ a w → (∀ r ∈ sf.recs, L.getD r.i false = true) → Q .normal a w) →
    ∀ (fuel : Nat) (L : Array Bool) (ρ : Rho) (a : Act) (w : World), unl ops.size L ≤ fuel → DInv B w0 ρ0 ops a0 s L ρ a w → wpAnyIn (FW rd) 0 E.P .any ops Q fuel L a w
  | [], s, sf, h, hs, hall, hQ => by
    simp only [runD, Option.some.injEq] at h
    subst h
    intro fuel
    induction fuel with
    | zero =>
      intro L ρ a w hu k
      have hz : unl ops.size L = 0 := Nat.le_zero.1 hu
      refine ⟨?_, hQ L ρ a w k fun r hr => unl_zero hz ?_⟩
      · cases hc : Region.ready .any ops L with
        | nil => rfl
        | cons i r =>
          exfalso
          have hi : i ∈ Region.ready .any ops L := by rw [hc]; simp
          obtain ⟨h1, o, ho, _⟩ := (mem_ready k.lsz).1 hi
          rw [unl_zero hz (Array.getElem?_eq_some_iff.1 ho).1] at h1
          cases h1
      · obtain ⟨old, ho⟩ := hs.recs.of_mem hr
        exact (Array.getElem?_eq_some_iff.1 ho.op).1
    | succ fuel ih =>
      intro L ρ a w hu k
      refine ⟨fun hn => hQ L ρ a w k (hs.recs.all k.lsz hn), fun i hi => ?_⟩
      obtain ⟨h1, o, ho, _⟩ := (mem_ready k.lsz).1 hi
      have hlt := (Array.getElem?_eq_some_iff.1 ho).1
      obtain ⟨r, hr, rfl⟩ := hall i hlt
      refine rec_step hE hgo hs k ht0 hG hr hi fun ρ' a' w' k' => ih _ ρ' a' w' ?_ k'
      have := unl_list k.lsz hlt h1
      omega
  | p :: ord, s, sf, h, hs, hall, hQ => by
    simp only [runD] at h
    obtain ⟨s1, h1, h2⟩ := bind2 h
    obtain ⟨r, q1, q2, q3, q4⟩ := stepD_spec hs.recs h1
    obtain ⟨k1, k2⟩ := q4.ok hs q2
    have IH := draw_claim hE hgo (rd := rd) (Q := Q) ht0 hG h2 k1 hall hQ
    by_cases hne : r.k = .eff
    · -- an effect
      have hlater := runD_later h2 k1
      intro fuel
      induction fuel with
      | zero =>
        intro L ρ a w hu k
        exfalso
        have hz : unl ops.size L = 0 := Nat.le_zero.1 hu
        obtain ⟨q, r1, r2⟩ := k.sub r.i (unl_zero hz (Array.getElem?_eq_some_iff.1 q2.op).1)
        exact q2.fresh q r1 r2
      | succ fuel ih =>
        intro L ρ a w hu k
        have hun : L.getD r.i false = false := by
          cases e : L.getD r.i false with
          | false => rfl
          | true => obtain ⟨q, r1, r2⟩ := k.sub _ e; exact absurd r2 (q2.fresh q r1)
        refine ⟨fun hn => ?_, fun i hi => ?_⟩
        · exfalso
          have hall' := hs.recs.all k.lsz hn
          have : r.i ∈ Region.ready .any ops L := (mem_ready k.lsz).2 ⟨hun, r.o, q2.op, fun e he => by
            obtain ⟨q, r1, r2⟩ := q2.direct e he
            exact r2 ▸ hall' q r1⟩
          rw [hn] at this
          cases this
        · obtain ⟨hL, o, ho, hd⟩ := (mem_ready k.lsz).1 hi
          have hlt := (Array.getElem?_eq_some_iff.1 ho).1
          have hdec := unl_list k.lsz hlt hL
          by_cases hin : ∃ q ∈ s.recs, q.i = i
          · obtain ⟨q, hq, rfl⟩ := hin
            exact rec_step hE hgo hs k ht0 hG hq hi fun ρ' a' w' k' => ih _ ρ' a' w' (by omega) k'
          · -- it is the effect itself
            have hir : i = r.i := by
              obtain ⟨q, hq, rfl⟩ := hall i hlt
              rcases hlater q hq with h | h
              · rw [k2] at h
                rcases List.mem_cons.1 h with rfl | h
                · rfl
                · exact absurd ⟨q, h, rfl⟩ hin
              · exfalso
                have hb : Bef ops r.i q.i := by
                  cases q4 with
                  | flt hk => rw [hk] at hne; cases hne
                  | new hk => rw [hk] at hne; cases hne
                  | eff hk => exact h _ _ rfl
                have := k.closed.befR ho hd hb
                rw [hun] at this
                cases this
            subst hir
            have hoo : o = r.o := by have := q2.op; rw [ho] at this; exact Option.some.inj this
            subst hoo
            obtain ⟨ht, hag⟩ := env_rec (newer := []) k ht0 q2 (.inl rfl) (fun q hq => by cases hq) hun hd
            have hsz : (envV a0.tmps a.tmps (fun d => memN d r.reads) s.recs).size = a.tmps.size := by rw [envV_size, k.size]
            unfold wpOpIn
            rw [q2.op]
            simp only
            cases q4 with
            | flt hk => rw [hk] at hne; cases hne
            | new hk => rw [hk] at hne; cases hne
            | eff hk hv hst =>
              refine evalE_at hE hgo hv k.rel ht hsz hag (hG.mono k.le) ?_
              rintro x w' ⟨ρ', l1, l2, l3⟩
              refine IH _ _ ρ' _ _ (by omega) (k.list ht0 k1.recs (by simp) (fun q hq => (List.mem_cons.1 hq).symm) (fun q hq => List.mem_cons_of_mem _ hq) hi l1.sub (k.le.trans l1) l2 l3 fun q hq _ hl i cs e hqk => ?_)
              obtain ⟨n1, n2, n3⟩ := k.news q hq hl i cs e hqk
              exact ⟨by rw [l1.old i n3]; exact n1, Nat.lt_of_lt_of_le n3 l1.le⟩
    · intro fuel L ρ a w hu k
      obtain ⟨ρ1, k'⟩ := k.birth q2 q4 hne
      exact IH fuel L ρ1 a w hu k'

theorem draw_sound (hE : EnvOK E) (hgo : Snd E go) (hm : E.P.follows .mixedOrders = true) {id : Nat} {T T' : Tm} {D : List Nat} {a : Act} {rd : Option Nat} (h : runDraw E go ops T σ = some (T', σ')) (hr : Rel B w0 ρ σ w) (ht : TRel ρ T a.tmps)
    (hd : DR ρ D a.defers) (hG : GR ρ E.G) : (Code.region id ops true).wpIn (FW rd) 0 E.P (PostX B w0 ρ .normal T' D σ') a w := by
  unfold runDraw at h
  obtain ⟨sf, h1, h2⟩ := bind2 h
  cases hmk : Nat.beq (maskR sf.recs) (2 ^ ops.size - 1) with
  | false => rw [hmk] at h2; cases h2
  | true =>
    rw [hmk] at h2
    simp only [cond] at h2
    cases hl : lastT T sf.recs with
    | none => rw [hl] at h2; cases h2
    | some T1 =>
      rw [hl] at h2
      simp only [Option.map_some, Option.some.injEq, Prod.mk.injEq] at h2
      obtain ⟨rfl, rfl⟩ := h2
      have hall : ∀ i, i < ops.size → ∃ r ∈ sf.recs, r.i = i := fun i hi => maskR_spec (by
        unfold bitN
        rw [Nat.eq_of_beq_eq_true hmk, Nat.testBit_two_pow_sub_one]
        simpa using hi)
      have h0 : DOK E ops T ⟨[], none, σ⟩ := ⟨trivial, fun e m he => by (cases he), (fun r hr => by cases hr), fun r hr => by cases hr⟩
      refine wpIn_region_any hm (@draw_claim B w0 E go ops T hE hgo ρ a rd _ ht hG _ _ _ h1 h0 hall ?_ _ _ ρ a _ (by unfold unl; exact Nat.le_trans List.countP_le_length (by simp)) ?_)
      · intro L ρ' a' w' k hlist
        refine ⟨rfl, ρ', k.le, k.rel, ?_, by rw [k.defers]; exact hd.mono k.le⟩
        have := lastT_sound (t := a'.tmps) (ht.mono k.le) hl fun r hr d hd => k.vals r hr (hlist r hr) d hd
        refine this.congr (by rw [envV_size, k.size]) fun x => ?_
        rw [envV_get k.size rfl]
        split
        · rfl
        · rename_i hno
          symm
          exact k.rest x fun r hr _ hrd => hno ⟨r, hr, hrd⟩
      · have hfalse : ∀ i, (Array.replicate ops.size false).getD i false = false := fun i => by
          by_cases h : i < ops.size <;> simp [Array.getD_eq_getD_getElem?, h]
        exact ⟨by simp, (fun i o e _ hl => by rw [hfalse] at hl; cases hl), (fun i hi => by rw [hfalse] at hi; cases hi), (fun r hr => by cases hr), .refl ρ, hr.drew, (fun r hr => by cases hr), (fun d _ => rfl), rfl, rfl, (fun r hr => by cases hr), (fun r hr => by cases hr)⟩
end
end Go.Det
