/- A region that draws its order of evaluation: every order comes to what the evaluator's one order comes to. Conditions: none beyond those of each theorem. -/
import Derived.Test.YtkbninmkgjhfmaaGreatDoorDetSound6
set_option maxHeartbeats 400000
namespace Go.Det
open Go
section
variable {B : Nat → Prop} {w0 w : World} {ρ : Rho} {σ σ' : AS} {E : Env} {go : ExecT} {ops : Array Oper} {T0 : Tm}

/-- The temporaries as an operation meets them: only those that it reads are looked at. -/
def envV (t0 t : Array Value) (p : Tmp → Bool) : List DRec → Array Value
  | [] => t0
  | r :: rs => (match r.o.dst with
     | some d => cond (p d) ((envV t0 t p rs).setIfInBounds d (t.getD d undef)) (envV t0 t p rs)
     | none => envV t0 t p rs)

theorem envV_size {t0 t : Array Value} {p : Tmp → Bool} : ∀ {rs : List DRec}, (envV t0 t p rs).size = t0.size
  | [] => rfl
  | r :: rs => by
    simp only [envV]
    cases r.o.dst with
    | none => exact envV_size
    | some d => simp only; cases p d <;> simp [envV_size]

theorem envV_get {t0 t : Array Value} {p : Tmp → Bool} {x : Tmp} (hsz : t.size = t0.size) (hp : p x = true) : ∀ {rs : List DRec},
    (envV t0 t p rs).getD x undef = if ∃ r ∈ rs, r.o.dst = some x then t.getD x undef else t0.getD x undef
  | [] => by simp [envV]
  | r :: rs => by
    have ih := envV_get (t0 := t0) (t := t) (p := p) (x := x) hsz hp (rs := rs)
    simp only [envV]
    cases hd : r.o.dst with
    | none =>
      simp only [ih]
      congr 1
      simp [hd]
    | some d =>
      simp only
      by_cases e : d = x
      · subst e
        rw [hp]
        simp only [cond]
        have : (∃ q ∈ r :: rs, q.o.dst = some d) := ⟨r, by simp, hd⟩
        rw [if_pos this]
        by_cases hlt : d < t0.size
        · have : d < (envV t0 t p rs).size := by rw [envV_size]; exact hlt
          simp [Array.getD_eq_getD_getElem?, this]
        · have h1 : (envV t0 t p rs).size ≤ d := by rw [envV_size]; exact Nat.le_of_not_lt hlt
          have h2 : t.size ≤ d := by rw [hsz]; exact Nat.le_of_not_lt hlt
          simp [Array.getD_eq_getD_getElem?, h1, h2]
      · have hq : (∃ q ∈ r :: rs, q.o.dst = some x) ↔ (∃ q ∈ rs, q.o.dst = some x) := by
          constructor
          · rintro ⟨q, hq, hqd⟩
            rcases List.mem_cons.1 hq with rfl | hq
            · rw [hd] at hqd; cases hqd; exact absurd rfl e
            · exact ⟨q, hq, hqd⟩
          · rintro ⟨q, hq, hqd⟩; exact ⟨q, List.mem_cons_of_mem _ hq, hqd⟩
        simp only [hq]
        cases p d with
        | false => exact ih
        | true =>
          simp only [cond]
          rw [← ih]
          simp [Array.getD_eq_getD_getElem?, Array.getElem?_setIfInBounds_ne e]

theorem envA_sound {t0 t : Array Value} {bef : Nat} {reads : List Tmp} (ht : TRel ρ T0 t0) : ∀ {rs : List DRec} {T : Tm}, envA T0 bef reads rs = some T →
    (∀ r ∈ rs, bitN bef r.i = true → ∀ d, r.o.dst = some d → conc ρ r.v = some (t.getD d undef)) → TRel ρ T (envV t0 t (fun d => memN d reads) rs)
  | [], T, h, _ => by simp only [envA, Option.some.injEq] at h; subst h; exact ht
  | r :: rs, T, h, hv => by
    have hv' : ∀ q ∈ rs, bitN bef q.i = true → ∀ d, q.o.dst = some d → conc ρ q.v = some (t.getD d undef) := fun q hq => hv q (List.mem_cons_of_mem _ hq)
    simp only [envA, envV] at h ⊢
    cases hd : r.o.dst with
    | none => rw [hd] at h; exact envA_sound ht h hv'
    | some d =>
      rw [hd] at h
      simp only at h ⊢
      cases hm : memN d reads with
      | false => rw [hm] at h; exact envA_sound ht h hv'
      | true =>
        rw [hm] at h
        simp only [cond] at h ⊢
        cases hb : bitN bef r.i with
        | false => rw [hb] at h; cases h
        | true =>
          rw [hb] at h
          simp only [cond] at h
          obtain ⟨T1, h1, h2⟩ := bind2 h
          exact (envA_sound ht h1 hv').set h2 (hv r (by simp) hb d hd)

theorem lastT_sound {t0 t : Array Value} (ht : TRel ρ T0 t0) : ∀ {rs : List DRec} {T : Tm}, lastT T0 rs = some T →
    (∀ r ∈ rs, ∀ d, r.o.dst = some d → conc ρ r.v = some (t.getD d undef)) → TRel ρ T (envV t0 t (fun _ => true) rs)
  | [], T, h, _ => by simp only [lastT, Option.some.injEq] at h; subst h; exact ht
  | r :: rs, T, h, hv => by
    simp only [lastT] at h
    obtain ⟨T1, h1, h2⟩ := bind2 h
    have ih := lastT_sound ht h1 fun q hq => hv q (List.mem_cons_of_mem _ hq)
    simp only [envV]
    cases hd : r.o.dst with
    | none => rw [hd] at h2; simp only [putA, Option.some.injEq] at h2; subst h2; exact ih
    | some d => rw [hd] at h2; exact ih.set h2 (hv r (by simp) d hd)

theorem TRel.congr {T : Tm} {t t' : Array Value} (h : TRel ρ T t) (hs : t.size = t'.size) (he : ∀ x, t.getD x undef = t'.getD x undef) : TRel ρ T t' :=
  ⟨by rw [← hs]; exact h.1, fun x hx => by rw [← he]; exact h.2 x hx⟩

/-! ### What holds on the way -/
def Live (E : Env) (ops : Array Oper) (s : DSt) (r : DRec) : Prop :=
  bitN (deadOf s.last) r.i = true ∨ match r.k with
    | .eff => True
    | .flt => evalF E.P E.G ops r.T s.σ r.o = some r.v
    | .new i cs e => s.σ.get i = some (.cells cs e true none)

structure DOK (E : Env) (ops : Array Oper) (T0 : Tm) (s : DSt) : Prop where
  recs : RecsOK E ops T0 s.recs
  last : ∀ e m, s.last = some (e, m) → (∃ r ∈ s.recs, r.i = e ∧ r.k = .eff) ∧ ∀ x, bitN m x = true → Bef ops x e
  live : ∀ r ∈ s.recs, Live E ops s r
  calm : ∀ r ∈ s.recs, r.k = .flt → pureA r.o.op = true → ∀ σ, evalF E.P E.G ops r.T σ r.o = some r.v

structure DInv (B : Nat → Prop) (w0 : World) (ρ0 : Rho) (ops : Array Oper) (a0 : Act) (s : DSt) (L : Array Bool) (ρ : Rho) (a : Act) (w : World) : Prop where
  lsz : L.size = ops.size
  closed : Closed ops L
  sub : ∀ i, L.getD i false = true → ∃ r ∈ s.recs, r.i = i
  effs : ∀ r ∈ s.recs, r.k = .eff → L.getD r.i false = true
  le : ρ0.Le ρ
  rel : Rel B w0 ρ s.σ w
  vals : ∀ r ∈ s.recs, L.getD r.i false = true → ∀ d, r.o.dst = some d → conc ρ r.v = some (a.tmps.getD d undef)
  rest : ∀ d, (∀ r ∈ s.recs, L.getD r.i false = true → r.o.dst ≠ some d) → a.tmps.getD d undef = a0.tmps.getD d undef
  size : a.tmps.size = a0.tmps.size
  defers : a.defers = a0.defers
  news : ∀ r ∈ s.recs, L.getD r.i false = false → ∀ i cs e, r.k = .new i cs e → ρ i = none ∧ ρ0.n ≤ i ∧ i < ρ.n
  apart : ∀ r ∈ s.recs, ∀ q ∈ s.recs, L.getD r.i false = false → L.getD q.i false = false → ∀ i cs e cs' e', r.k = .new i cs e → q.k = .new i cs' e' → r.i = q.i

theorem DOK.dead {s : DSt} (h : DOK E ops T0 s) {ρ0 : Rho} {a0 a : Act} {L : Array Bool} (k : DInv B w0 ρ0 ops a0 s L ρ a w) {i : Nat} (hd : bitN (deadOf s.last) i = true) : L.getD i false = true := by
  cases hl : s.last with
  | none => rw [hl] at hd; simp [deadOf, bitN] at hd
  | some p =>
    obtain ⟨e, m⟩ := p
    rw [hl] at hd
    obtain ⟨⟨r, h1, h2, h3⟩, h4⟩ := h.last e m hl
    exact k.closed.bef (h4 i hd) (h2 ▸ k.effs r h1 h3)

/-- An operation's own temporaries. -/
theorem env_rec {s : DSt} {ρ0 : Rho} {a0 a : Act} {L : Array Bool} (k : DInv B w0 ρ0 ops a0 s L ρ a w) (ht0 : TRel ρ0 T0 a0.tmps) {r : DRec} {older newer : List DRec} (hk : RecOK E ops T0 older r)
    (hsplit : s.recs = newer ++ older ∨ s.recs = newer ++ r :: older) (hnew : ∀ q ∈ newer, q = r ∨ ∃ old, r ∈ old ∧ RecOK E ops T0 old q) (hun : L.getD r.i false = false) (hd : ∀ e ∈ directs r.o, L.getD e false = true) :
    TRel ρ r.T (envV a0.tmps a.tmps (fun d => memN d r.reads) older) ∧ ∀ x ∈ r.o.looksAt ops, (envV a0.tmps a.tmps (fun d => memN d r.reads) older).getD x undef = a.tmps.getD x undef := by
  have hold : ∀ q ∈ older, q ∈ s.recs := fun q hq => by rcases hsplit with e | e <;> rw [e] <;> simp [hq]
  refine ⟨envA_sound (ht0.mono k.le) hk.env fun q hq hb d hqd => k.vals q (hold q hq) (k.closed.befR hk.op hd (hk.bef _ hb)) d hqd, fun x hx => ?_⟩
  have hxr : x ∈ r.reads := by rw [hk.reads]; exact hx
  rw [envV_get k.size (memN_iff.2 hxr)]
  split
  · rfl
  · rename_i hno
    symm
    refine k.rest x fun q hq hl hqd => ?_
    have hcase : q ∈ older ∨ q ∈ newer ∨ q = r := by
      rcases hsplit with e | e <;> rw [e] at hq <;> simp only [List.mem_append, List.mem_cons] at hq
      · rcases hq with h | h
        · exact .inr (.inl h)
        · exact .inl h
      · rcases hq with h | h | h
        · exact .inr (.inl h)
        · exact .inr (.inr h)
        · exact .inl h
    rcases hcase with h | h | h
    · exact hno ⟨q, h, hqd⟩
    · rcases hnew q h with e | ⟨old, o1, o2⟩
      · rw [e, hun] at hl; cases hl
      · have hb := (freeOf_spec (o2.free x hqd).2 r o1).1 hxr
        have := k.closed.bef (o2.bef _ hb) hl
        rw [hun] at this
        cases this
    · rw [h, hun] at hl; cases hl

theorem yielded_congr {t t' : Array Value} (hs : t.size = t'.size) {j : Nat} (h : ∀ d, (ops[j]?).bind (·.dst) = some d → t.getD d undef = t'.getD d undef) : yielded ops t j = yielded ops t' j := by
  unfold yielded
  cases hd : (ops[j]?).bind (·.dst) with
  | none => rfl
  | some d =>
    have h1 := h d hd
    have : t[d]? = t'[d]? := by
      by_cases hlt : d < t.size
      · have hlt' : d < t'.size := hs ▸ hlt
        simpa [Array.getD_eq_getD_getElem?, hlt, hlt'] using h1
      · have hge : t.size ≤ d := Nat.le_of_not_lt hlt
        rw [Array.getElem?_eq_none hge, Array.getElem?_eq_none (hs ▸ hge)]
    simp only [Option.bind_some, this]

theorem wanted_congr {t t' : Array Value} {o : Oper} (hs : t.size = t'.size) (h : ∀ x ∈ o.looksAt ops, t.getD x undef = t'.getD x undef) : Region.wanted o (yielded ops t) = Region.wanted o (yielded ops t') := by
  unfold Region.wanted
  cases hg : o.guard with
  | none => rfl
  | some p =>
    obtain ⟨j, want⟩ := p
    simp only
    rw [yielded_congr hs fun d hd => h d (by simp [Oper.looksAt, hg, hd])]

theorem eval_congr {t t' : Array Value} {ds ds' : List Deferred} {o : Oper} (h : ∀ x ∈ o.looksAt ops, t.getD x undef = t'.getD x undef) : ∀ x ∈ o.op.operands, ({ tmps := t, defers := ds } : Act).eval x = ({ tmps := t', defers := ds' } : Act).eval x := by
  intro x hx
  cases x with
  | tmp d => exact h d (List.mem_append_left _ (List.mem_filterMap.2 ⟨.tmp d, by simpa using hx, rfl⟩))
  | _ => rfl

/-- One operation, its temporaries being those that it reads. -/
theorem evalE_at (hE : EnvOK E) (hgo : Snd E go) {T : Tm} {o : Oper} {v : AV} {a : Act} {t : Array Value} {r : Option Nat} {Q : Exit → Act → World → Prop} {K : Act → World → Prop} (h : evalE E go ops T σ o = some (v, σ'))
    (hr : Rel B w0 ρ σ w) (ht : TRel ρ T t) (hs : t.size = a.tmps.size) (hag : ∀ x ∈ o.looksAt ops, t.getD x undef = a.tmps.getD x undef) (hG : GR ρ E.G) (hK : ∀ x w', Post B w0 ρ v σ' x w' → K (a.put o.dst x) w') :
    (if Region.wanted o (yielded ops a.tmps) then o.wpIn (FW r) 0 E.P a w K Q else (∀ f, o.about E.P w a.eval = some f → (FW r).fn f) ∧ K (a.put o.dst undef) w) := by
  unfold evalE at h
  cases hw : wantedA T ops o with
  | none => rw [hw] at h; cases h
  | some b =>
    rw [hw] at h
    rw [← wanted_congr hs hag, wantedA_sound hw ht]
    cases b with
    | true =>
      simp only [if_true] at h ⊢
      have hnd : ∀ c, o.op ≠ .defer c := fun c e => by unfold opStep at h; rw [e] at h; simp [opA] at h
      have hns : ∀ c b, o.op ≠ .select c b := fun c b e => by unfold opStep at h; rw [e] at h; simp [opA] at h
      have key := opStep_sound (r := r) (a := { tmps := t, defers := a.defers }) hE hgo h hr ht hG
      rw [Oper.semAt_eq _ _ _ hnd, execOp_congr o hns (eval_congr (ds := a.defers) (ds' := a.defers) hag), ← Oper.semAt_eq (FW r).round _ _ hnd] at key
      exact ⟨fun _ _ => trivial, key.upon hK⟩
    | false =>
      simp only [Option.some.injEq, Prod.mk.injEq] at h
      obtain ⟨rfl, rfl⟩ := h
      exact ⟨fun _ _ => trivial, hK _ _ ⟨ρ, .refl ρ, hr, rfl⟩⟩
end
end Go.Det
