/- A region that draws its order of evaluation: every order comes to what the evaluator's one order comes to. Conditions: none beyond those of each theorem. -/
import Derived.Test.YtkbninmkgjhfmaaGreatDoorDetSound4
set_option maxHeartbeats 400000
namespace Go.Det
open Go

/-! ### Sets -/
theorem bitN_lor {a b i : Nat} (h : bitN (Nat.lor a b) i = true) : bitN a i = true ∨ bitN b i = true := by
  have : (a ||| b).testBit i = true := h
  rw [Nat.testBit_or, Bool.or_eq_true] at this
  exact this
theorem bitN_pow {e i : Nat} (h : bitN (2 ^ e) i = true) : i = e := by
  have : (2 ^ e).testBit i = true := h
  rw [Nat.testBit_two_pow] at this
  simpa [eq_comm] using this
theorem bitN_zero {i : Nat} : bitN 0 i = false := by simp [bitN]

inductive Bef (ops : Array Oper) : Nat → Nat → Prop
  | one {e i : Nat} {o : Oper} : ops[i]? = some o → e ∈ directs o → Bef ops e i
  | step {e m i : Nat} {o : Oper} : Bef ops e m → ops[i]? = some o → m ∈ directs o → Bef ops e i

theorem Bef.trans {ops : Array Oper} {e m i : Nat} (h : Bef ops e m) (k : Bef ops m i) : Bef ops e i := by
  induction k with
  | one h1 h2 => exact .step h h1 h2
  | step _ h1 h2 ih => exact .step ih h1 h2

def Closed (ops : Array Oper) (L : Array Bool) : Prop := ∀ i o e, ops[i]? = some o → L.getD i false = true → e ∈ directs o → L.getD e false = true

theorem Closed.bef {ops : Array Oper} {L : Array Bool} (h : Closed ops L) {e i : Nat} (hb : Bef ops e i) : L.getD i false = true → L.getD e false = true := by
  induction hb with
  | one h1 h2 => exact fun k => h _ _ _ h1 k h2
  | step _ h1 h2 ih => exact fun k => ih (h _ _ _ h1 k h2)

theorem Closed.befR {ops : Array Oper} {L : Array Bool} (h : Closed ops L) {e i : Nat} {o : Oper} (ho : ops[i]? = some o) (hd : ∀ x ∈ directs o, L.getD x false = true) (hb : Bef ops e i) : L.getD e false = true := by
  cases hb with
  | one h1 h2 => rw [ho] at h1; cases h1; exact hd _ h2
  | step h0 h1 h2 => rw [ho] at h1; cases h1; exact h.bef h0 (hd _ h2)

theorem mem_ready {ops : Array Oper} {L : Array Bool} (hs : L.size = ops.size) {i : Nat} : i ∈ Region.ready .any ops L ↔ L.getD i false = false ∧ ∃ o, ops[i]? = some o ∧ ∀ e ∈ directs o, L.getD e false = true := by
  unfold Region.ready directs
  simp only [List.mem_filter, List.mem_range, Bool.and_eq_true, Bool.not_eq_true']
  constructor
  · rintro ⟨h1, h2, h3⟩
    have ho : ops[i]? = some ops[i] := by simp [h1]
    refine ⟨?_, _, ho, ?_⟩
    · have hl : i < L.size := by omega
      simpa [Array.getD_eq_getD_getElem?, hl] using h2
    · rw [ho] at h3
      simp only [Option.map_some, Option.getD_some, Array.all_eq_true] at h3
      intro e he
      simp only [List.mem_map, List.mem_filter] at he
      obtain ⟨x, ⟨hx, hb⟩, rfl⟩ := he
      obtain ⟨j, hj, hj'⟩ := List.getElem_of_mem hx
      have := h3 j (by simpa using hj)
      simp only [Array.getElem_toList] at hj'
      rw [hj', hb] at this
      simpa using this
  · rintro ⟨h1, o, ho, h2⟩
    have hi : i < ops.size := (Array.getElem?_eq_some_iff.1 ho).1
    have hl : i < L.size := by omega
    refine ⟨hi, by simpa [Array.getD_eq_getD_getElem?, hl] using h1, ?_⟩
    rw [ho]
    simp only [Option.map_some, Option.getD_some, Array.all_eq_true]
    intro j hj
    cases hb : Region.binds .any o.after[j] with
    | false => rfl
    | true =>
      have := h2 o.after[j].on (List.mem_map.2 ⟨o.after[j], List.mem_filter.2 ⟨by simp, hb⟩, rfl⟩)
      simpa using this

theorem getD_list {L : Array Bool} {i j : Nat} (hi : i < L.size) : (L.setIfInBounds i true).getD j false = if j = i then true else L.getD j false := by
  by_cases e : j = i
  · subst e; simp [Array.getD_eq_getD_getElem?, hi]
  · simp [Array.getD_eq_getD_getElem?, Array.getElem?_setIfInBounds_ne (Ne.symm e), e]

theorem closed_list {ops : Array Oper} {L : Array Bool} (hs : L.size = ops.size) (h : Closed ops L) {i : Nat} (hr : i ∈ Region.ready .any ops L) : Closed ops (L.setIfInBounds i true) := by
  obtain ⟨h1, o, h2, h3⟩ := (mem_ready hs).1 hr
  have hi : i < L.size := by rw [hs]; exact (Array.getElem?_eq_some_iff.1 h2).1
  intro j o' e hj hl he
  rw [getD_list hi] at hl ⊢
  by_cases hji : j = i
  · subst hji
    rw [h2] at hj; cases hj
    by_cases hei : e = j
    · simp [hei]
    · simp only [hei, if_false]; exact h3 e he
  · simp only [hji, if_false] at hl
    by_cases hei : e = i
    · simp [hei]
    · simp only [hei, if_false]; exact h j o' e hj hl he

/-- How many are not yet listed. -/
def unl (n : Nat) (L : Array Bool) : Nat := (List.range n).countP fun i => !L.getD i false

theorem countP_lt {α : Type} {p q : α → Bool} {x : α} : ∀ {l : List α}, (∀ y, q y = true → p y = true) → x ∈ l → p x = true → q x = false → l.countP q < l.countP p
  | [], _, hx, _, _ => by cases hx
  | y :: l, h, hx, hp, hq => by
    have hle : l.countP q ≤ l.countP p := List.countP_mono_left fun y _ => h y
    rw [List.countP_cons, List.countP_cons]
    rcases List.mem_cons.1 hx with e | hx'
    · subst e
      simp only [hp, hq, if_true, Bool.false_eq_true, if_false]
      omega
    · have := countP_lt (l := l) h hx' hp hq
      cases hqy : q y with
      | false => simp only [Bool.false_eq_true, if_false]; split <;> omega
      | true => simp only [h y hqy, if_true]; omega

theorem unl_list {n : Nat} {L : Array Bool} {i : Nat} (hs : L.size = n) (hi : i < n) (hL : L.getD i false = false) : unl n (L.setIfInBounds i true) < unl n L := by
  refine countP_lt (x := i) (fun j hj => ?_) (List.mem_range.2 hi) (by simp [hL]) (by rw [getD_list (by omega)]; simp)
  rw [getD_list (by omega)] at hj
  by_cases e : j = i
  · simp [e] at hj
  · simpa [e] using hj

theorem unl_zero {n : Nat} {L : Array Bool} (h : unl n L = 0) {i : Nat} (hi : i < n) : L.getD i false = true := by
  have := List.countP_eq_zero.1 h i (List.mem_range.2 hi)
  simpa using this

/-! ### What was done -/
theorem memN_looks {t : Tmp} {l : List Tmp} : memN t l = true ↔ t ∈ l := memN_iff

theorem freeOf_spec {bef d : Nat} : ∀ {rs : List DRec}, freeOf bef d rs = true → ∀ r ∈ rs, (d ∈ r.reads → bitN bef r.i = true) ∧ r.o.dst ≠ some d
  | [], _, r, hr => by cases hr
  | q :: rs, h, r, hr => by
    simp only [freeOf] at h
    have key : freeOf bef d rs = true ∧ (d ∈ q.reads → bitN bef q.i = true) ∧ q.o.dst ≠ some d := by
      have hdst : ∀ {x : Bool}, cond (sameO q.o.dst (some d)) false x = true → x = true ∧ q.o.dst ≠ some d := fun {x} hx => by
        cases e : sameO q.o.dst (some d) with
        | true => rw [e] at hx; cases hx
        | false => rw [e] at hx; exact ⟨hx, fun e' => by rw [e'] at e; simp [sameO] at e⟩
      cases hm : memN d q.reads with
      | true =>
        rw [hm] at h
        cases hb : bitN bef q.i with
        | false => rw [hb] at h; cases h
        | true => rw [hb] at h; obtain ⟨h1, h2⟩ := hdst h; exact ⟨h1, fun _ => rfl, h2⟩
      | false =>
        rw [hm] at h
        obtain ⟨h1, h2⟩ := hdst h
        exact ⟨h1, (fun hd => by rw [memN_iff.2 hd] at hm; cases hm), h2⟩
    rcases List.mem_cons.1 hr with rfl | hr'
    · exact key.2
    · exact freeOf_spec key.1 r hr'

theorem befOf1_spec {ops : Array Oper} {e m : Nat} : ∀ {R : List DRec}, (∀ r ∈ R, ∀ x, bitN r.bef x = true → Bef ops x r.i) → befOf1 e R = some m → (∃ r ∈ R, r.i = e) ∧ ∀ x, bitN m x = true → x = e ∨ Bef ops x e
  | [], _, h => by cases h
  | r :: rs, hR, h => by
    simp only [befOf1] at h
    cases hb : Nat.beq r.i e with
    | true =>
      rw [hb] at h
      simp only [cond, Option.some.injEq] at h
      subst h
      have he : r.i = e := Nat.eq_of_beq_eq_true hb
      refine ⟨⟨r, by simp, he⟩, fun x hx => ?_⟩
      rcases bitN_lor hx with h1 | h1
      · exact .inl (bitN_pow h1)
      · exact .inr (he ▸ hR r (by simp) x h1)
    | false =>
      rw [hb] at h
      obtain ⟨⟨q, q1, q2⟩, h2⟩ := befOf1_spec (fun r hr => hR r (List.mem_cons_of_mem _ hr)) h
      exact ⟨⟨q, List.mem_cons_of_mem _ q1, q2⟩, h2⟩

theorem befOf_spec {ops : Array Oper} {R : List DRec} (hR : ∀ r ∈ R, ∀ x, bitN r.bef x = true → Bef ops x r.i) : ∀ {ds : List Nat} {m : Nat}, befOf R ds = some m →
    (∀ e ∈ ds, ∃ r ∈ R, r.i = e) ∧ ∀ x, bitN m x = true → ∃ e ∈ ds, x = e ∨ Bef ops x e
  | [], m, h => by
    simp only [befOf, Option.some.injEq] at h
    subst h
    exact ⟨(fun e he => by cases he), (fun x hx => by rw [bitN_zero] at hx; cases hx)⟩
  | e :: ds, m, h => by
    simp only [befOf] at h
    cases h1 : befOf1 e R with
    | none => rw [h1] at h; cases h
    | some m1 =>
      rw [h1] at h
      simp only [Option.bind_some] at h
      cases h2 : befOf R ds with
      | none => rw [h2] at h; cases h
      | some m2 =>
        rw [h2] at h
        simp only [Option.map_some, Option.some.injEq] at h
        subst h
        obtain ⟨a1, a2⟩ := befOf1_spec hR h1
        obtain ⟨b1, b2⟩ := befOf_spec hR h2
        refine ⟨fun x hx => ?_, fun x hx => ?_⟩
        · rcases List.mem_cons.1 hx with rfl | hx
          · exact a1
          · exact b1 x hx
        · rcases bitN_lor hx with hx | hx
          · exact ⟨e, by simp, a2 x hx⟩
          · obtain ⟨y, y1, y2⟩ := b2 x hx
            exact ⟨y, List.mem_cons_of_mem _ y1, y2⟩

theorem hasI_spec {i : Nat} : ∀ {R : List DRec}, hasI i R = false → ∀ r ∈ R, r.i ≠ i
  | [], _, r, hr => by cases hr
  | q :: rs, h, r, hr => by
    simp only [hasI] at h
    cases hb : Nat.beq q.i i with
    | true => rw [hb] at h; cases h
    | false =>
      rw [hb] at h
      rcases List.mem_cons.1 hr with rfl | hr
      · exact Nat.ne_of_beq_eq_false hb
      · exact hasI_spec h r hr

theorem maskR_spec {x : Nat} : ∀ {R : List DRec}, bitN (maskR R) x = true → ∃ r ∈ R, r.i = x
  | [], h => by simp [maskR, bitN] at h
  | r :: rs, h => by
    simp only [maskR] at h
    rcases bitN_lor h with h | h
    · exact ⟨r, by simp, (bitN_pow h).symm⟩
    · obtain ⟨q, q1, q2⟩ := maskR_spec h
      exact ⟨q, List.mem_cons_of_mem _ q1, q2⟩

section
variable {E : Env} {ops : Array Oper} {T0 : Tm}

structure RecOK (E : Env) (ops : Array Oper) (T0 : Tm) (older : List DRec) (r : DRec) : Prop where
  op : ops[r.i]? = some r.o
  reads : r.reads = r.o.looksAt ops
  bef : ∀ e, bitN r.bef e = true → Bef ops e r.i
  direct : ∀ e ∈ directs r.o, ∃ q ∈ older, q.i = e
  fresh : ∀ q ∈ older, q.i ≠ r.i
  env : envA T0 r.bef r.reads older = some r.T
  free : ∀ d, r.o.dst = some d → d < T0.sz ∧ freeOf r.bef d older = true
  kind : match r.k with
    | .flt => fltA r.o.op = true
    | .eff => True
    | .new i cs e => r.o.guard = none ∧ ∃ len, newA E.P E.G r.T r.o.op = some (.cells cs e true none, len) ∧ r.v = newV i len

def RecsOK (E : Env) (ops : Array Oper) (T0 : Tm) : List DRec → Prop
  | [] => True
  | r :: rs => RecOK E ops T0 rs r ∧ RecsOK E ops T0 rs

theorem RecsOK.split : ∀ {R : List DRec} {r : DRec}, RecsOK E ops T0 R → r ∈ R → ∃ newer older, R = newer ++ r :: older ∧ RecOK E ops T0 older r ∧ ∀ q ∈ newer, ∃ old, r ∈ old ∧ RecOK E ops T0 old q
  | [], r, _, h => by cases h
  | q :: R, r, ⟨h1, h2⟩, h => by
    rcases List.mem_cons.1 h with rfl | hr
    · exact ⟨[], R, rfl, h1, fun q hq => by cases hq⟩
    · obtain ⟨nw, od, e, k1, k2⟩ := RecsOK.split h2 hr
      refine ⟨q :: nw, od, by rw [e]; rfl, k1, fun x hx => ?_⟩
      rcases List.mem_cons.1 hx with rfl | hx'
      · exact ⟨R, hr, h1⟩
      · exact k2 x hx'

theorem RecsOK.of_mem {R : List DRec} {r : DRec} (h : RecsOK E ops T0 R) (hr : r ∈ R) : ∃ older, RecOK E ops T0 older r := by
  obtain ⟨_, od, _, k, _⟩ := h.split hr
  exact ⟨od, k⟩

theorem RecsOK.pair : ∀ {R : List DRec} {r q : DRec}, RecsOK E ops T0 R → r ∈ R → q ∈ R → r = q ∨ (∃ old, q ∈ old ∧ RecOK E ops T0 old r) ∨ (∃ old, r ∈ old ∧ RecOK E ops T0 old q)
  | [], r, _, _, h, _ => by cases h
  | x :: R, r, q, ⟨h1, h2⟩, hr, hq => by
    rcases List.mem_cons.1 hr with e1 | hr' <;> rcases List.mem_cons.1 hq with e2 | hq'
    · exact .inl (e1.trans e2.symm)
    · subst e1; exact .inr (.inl ⟨R, hq', h1⟩)
    · subst e2; exact .inr (.inr ⟨R, hr', h1⟩)
    · exact RecsOK.pair h2 hr' hq'

theorem RecsOK.inj {R : List DRec} {r q : DRec} (h : RecsOK E ops T0 R) (hr : r ∈ R) (hq : q ∈ R) (e : r.i = q.i) : r = q := by
  rcases h.pair hr hq with h | ⟨old, h1, h2⟩ | ⟨old, h1, h2⟩
  · exact h
  · exact absurd e.symm (h2.fresh q h1)
  · exact absurd e (h2.fresh r h1)

theorem RecsOK.dst {R : List DRec} {r q : DRec} {d : Tmp} (h : RecsOK E ops T0 R) (hr : r ∈ R) (hq : q ∈ R) (e : r.o.dst = some d) (e' : q.o.dst = some d) : r = q := by
  rcases h.pair hr hq with h | ⟨old, h1, h2⟩ | ⟨old, h1, h2⟩
  · exact h
  · exact absurd e' (freeOf_spec (h2.free d e).2 q h1).2
  · exact absurd e (freeOf_spec (h2.free d e').2 r h1).2

theorem RecsOK.befs : ∀ {R : List DRec}, RecsOK E ops T0 R → ∀ r ∈ R, ∀ x, bitN r.bef x = true → Bef ops x r.i := fun h _ hr => (h.of_mem hr).elim fun _ k => k.bef

/-- All is listed if nothing is ready. -/
theorem RecsOK.all {L : Array Bool} (hs : L.size = ops.size) (hn : Region.ready .any ops L = []) : ∀ {R : List DRec}, RecsOK E ops T0 R → ∀ r ∈ R, L.getD r.i false = true
  | [], _, r, h => by cases h
  | x :: R, ⟨h1, h2⟩, r, hr => by
    have ih := RecsOK.all hs hn h2
    rcases List.mem_cons.1 hr with rfl | hr
    · cases e : L.getD r.i false with
      | true => rfl
      | false =>
        have : r.i ∈ Region.ready .any ops L := (mem_ready hs).2 ⟨e, r.o, h1.op, fun x hx => by
          obtain ⟨q, q1, q2⟩ := h1.direct x hx
          exact q2 ▸ ih q q1⟩
        rw [hn] at this
        cases this
    · exact ih r hr
end
end Go.Det
