/- A region that draws its order of evaluation: every order comes to what the evaluator's one order comes to. Conditions: none beyond those of each theorem. -/
import Derived.Test.YtkbninmkgjhfmaaGreatDoorDetSound7
set_option maxHeartbeats 400000
namespace Go.Det
open Go
section
variable {B : Nat → Prop} {w0 w : World} {ρ : Rho} {σ σ' : AS} {E : Env} {go : ExecT} {ops : Array Oper} {T0 : Tm}

theorem put_getD {a : Act} {dst : Option Tmp} {x : Value} {d : Tmp} : (a.put dst x).tmps.getD d undef = if dst = some d ∧ d < a.tmps.size then x else a.tmps.getD d undef := by
  cases dst with
  | none => simp [Act.put]
  | some e =>
    by_cases h : e = d
    · subst h
      by_cases hl : e < a.tmps.size
      · simp [Act.put, Array.getD_eq_getD_getElem?, hl]
      · simp [Act.put, Array.getD_eq_getD_getElem?, hl]
    · simp [Act.put, Array.getD_eq_getD_getElem?, Array.getElem?_setIfInBounds_ne h, h]

theorem put_size {a : Act} {dst : Option Tmp} {x : Value} : (a.put dst x).tmps.size = a.tmps.size := by cases dst <;> simp [Act.put]

/-- An operation is done. -/
theorem DInv.list {s s' : DSt} {ρ0 ρ' : Rho} {a0 a : Act} {w' : World} {L : Array Bool} {r : DRec} {x : Value} (k : DInv B w0 ρ0 ops a0 s L ρ a w) (ht0 : TRel ρ0 T0 a0.tmps) (hok : RecsOK E ops T0 s'.recs) (hr : r ∈ s'.recs)
    (hfrom : ∀ q ∈ s'.recs, q ∈ s.recs ∨ q = r) (hto : ∀ q ∈ s.recs, q ∈ s'.recs) (hready : r.i ∈ Region.ready .any ops L) (sub : ρ.Sub ρ') (le0 : ρ0.Le ρ') (rel : Rel B w0 ρ' s'.σ w') (hv : conc ρ' r.v = some x)
    (hnews : ∀ q ∈ s.recs, q.i ≠ r.i → L.getD q.i false = false → ∀ i cs e, q.k = .new i cs e → ρ' i = none ∧ i < ρ'.n) :
    DInv B w0 ρ0 ops a0 s' (L.setIfInBounds r.i true) ρ' (a.put r.o.dst x) w' := by
  obtain ⟨hun, o, ho, hd⟩ := (mem_ready k.lsz).1 hready
  have hi : r.i < L.size := by rw [k.lsz]; exact (Array.getElem?_eq_some_iff.1 ho).1
  have hone : ∀ q ∈ s'.recs, q.i = r.i → q = r := fun q hq e => hok.inj hq hr e
  have hin : ∀ q ∈ s'.recs, q.i ≠ r.i → q ∈ s.recs := fun q hq e => (hfrom q hq).elim id fun h => absurd (h ▸ rfl) e
  have hoff : ∀ q ∈ s'.recs, (L.setIfInBounds r.i true).getD q.i false = false → q.i ≠ r.i ∧ L.getD q.i false = false := fun q _ h => by
    rw [getD_list hi] at h
    by_cases e : q.i = r.i
    · simp [e] at h
    · simp only [e, if_false] at h; exact ⟨e, h⟩
  refine ⟨by simpa using k.lsz, closed_list k.lsz k.closed hready, ?_, ?_, le0, rel, ?_, ?_, by rw [put_size]; exact k.size, by rw [put_defers]; exact k.defers, ?_, ?_⟩
  · intro i h
    rw [getD_list hi] at h
    by_cases e : i = r.i
    · exact ⟨r, hr, e.symm⟩
    · simp only [e, if_false] at h
      obtain ⟨q, q1, q2⟩ := k.sub i h
      exact ⟨q, hto q q1, q2⟩
  · intro q hq he
    rw [getD_list hi]
    by_cases e : q.i = r.i
    · simp [e]
    · simp only [e, if_false]; exact k.effs q (hin q hq e) he
  · intro q hq hl d hqd
    rw [put_getD]
    by_cases e : q.i = r.i
    · have := hone q hq e
      subst this
      obtain ⟨old, ho⟩ := hok.of_mem hq
      have hlt : d < a.tmps.size := by rw [k.size, ht0.1]; exact (ho.free d hqd).1
      rw [if_pos ⟨hqd, hlt⟩]
      exact hv
    · rw [getD_list hi] at hl
      simp only [e, if_false] at hl
      have hne : ¬ (r.o.dst = some d ∧ d < a.tmps.size) := fun h => e (by rw [hok.dst hq hr hqd h.1])
      rw [if_neg hne]
      exact conc_sub sub _ _ (k.vals q (hin q hq e) hl d hqd)
  · intro d hno
    rw [put_getD]
    have hr' : r.o.dst ≠ some d := hno r hr (by rw [getD_list hi]; simp)
    rw [if_neg fun h => hr' h.1]
    refine k.rest d fun q hq hl => hno q (hto q hq) ?_
    rw [getD_list hi]
    split
    · rfl
    · exact hl
  · intro q hq hl i cs e hk
    obtain ⟨h1, h2⟩ := hoff q hq hl
    obtain ⟨n1, n2⟩ := hnews q (hin q hq h1) h1 h2 i cs e hk
    exact ⟨n1, (k.news q (hin q hq h1) h2 i cs e hk).2.1, n2⟩
  · intro q hq q' hq' hl hl' i cs e cs' e' hk hk'
    obtain ⟨h1, h2⟩ := hoff q hq hl
    obtain ⟨h1', h2'⟩ := hoff q' hq' hl'
    exact k.apart q (hin q hq h1) q' (hin q' hq' h1') h2 h2' i cs e cs' e' hk hk'

theorem rec_step (hE : EnvOK E) (hgo : Snd E go) {s : DSt} {ρ0 : Rho} {a0 a : Act} {L : Array Bool} {rd : Option Nat} {Q : Exit → Act → World → Prop} {K : Act → World → Prop} (hs : DOK E ops T0 s) (k : DInv B w0 ρ0 ops a0 s L ρ a w)
    (ht0 : TRel ρ0 T0 a0.tmps) (hG : GR ρ0 E.G) {r : DRec} (hr : r ∈ s.recs) (hready : r.i ∈ Region.ready .any ops L)
    (hK : ∀ ρ' a' w', DInv B w0 ρ0 ops a0 s (L.setIfInBounds r.i true) ρ' a' w' → K a' w') : wpOpIn (FW rd) 0 E.P ops Q r.i K a w := by
  obtain ⟨newer, older, hsp, hrec, hnew⟩ := hs.recs.split hr
  obtain ⟨hun, o, ho, hd⟩ := (mem_ready k.lsz).1 hready
  have hoo : o = r.o := by have := hrec.op; rw [ho] at this; exact Option.some.inj this
  subst hoo
  obtain ⟨ht, hag⟩ := env_rec k ht0 hrec (.inr hsp) (fun q hq => .inr (hnew q hq)) hun hd
  have hG' := hG.mono k.le
  have hsz : (envV a0.tmps a.tmps (fun d => memN d r.reads) older).size = a.tmps.size := by rw [envV_size, k.size]
  have hlive := hs.live r hr
  have hnd : ¬ bitN (deadOf s.last) r.i = true := fun h => by rw [hs.dead k h] at hun; cases hun
  have hlive := hlive.resolve_left hnd
  unfold wpOpIn
  rw [hrec.op]
  simp only
  cases hk : r.k with
  | eff => rw [k.effs r hr hk] at hun; cases hun
  | flt =>
    rw [hk] at hlive
    have hf := hrec.kind
    rw [hk] at hf
    refine evalE_at hE hgo (evalF_E hf hlive) k.rel ht hsz hag hG' ?_
    rintro x w' ⟨ρ', l1, l2, l3⟩
    refine hK ρ' _ _ (k.list ht0 hs.recs hr (fun q hq => .inl hq) (fun q hq => hq) hready l1.sub (k.le.trans l1) l2 l3 fun q hq _ hl i cs e hqk => ?_)
    obtain ⟨n1, n2, n3⟩ := k.news q hq hl i cs e hqk
    exact ⟨by rw [l1.old i n3]; exact n1, Nat.lt_of_lt_of_le n3 l1.le⟩
  | new i cs e =>
    rw [hk] at hlive
    have hkind := hrec.kind
    rw [hk] at hkind
    obtain ⟨hgd, len, hna, hrv⟩ := hkind
    obtain ⟨obj, x1, x2⟩ := newA_sound (a := { tmps := envV a0.tmps a.tmps (fun d => memN d r.reads) older, defers := a.defers }) hna ht hG' w
    have hwant : Region.wanted r.o (yielded ops a.tmps) = true := by simp [Region.wanted, hgd]
    rw [if_pos hwant]
    refine ⟨fun _ _ => trivial, ?_⟩
    have hndf : ∀ c, r.o.op ≠ .defer c := fun c e => by rw [e] at hna; simp [newA] at hna
    have hns : ∀ c b, r.o.op ≠ .select c b := fun c b e => by rw [e] at hna; simp [newA] at hna
    rw [execOp_congr r.o hns (eval_congr (ds := a.defers) (ds' := a.defers) hag)] at x1
    rw [Oper.semAt_eq _ _ _ hndf]
    have x1' : (execOp a.eval r.o).run E.P w = .ok (.value (newX w.heap.size len)) (w.alloc obj) := x1
    rw [x1']
    show K _ _
    obtain ⟨n1, n2, n3⟩ := k.news r hr hun i cs e hk
    have hmap := k.rel.mapLate n1 n3 hlive x2
    refine hK _ _ _ (k.list ht0 hs.recs hr (fun q hq => .inl hq) (fun q hq => hq) hready ?_ ?_ hmap ?_ ?_)
    · intro j p hj
      show (if j = i then _ else _) = _
      rw [if_neg (fun e => by rw [e, n1] at hj; cases hj)]
      exact hj
    · refine ⟨fun j p hj => ?_, k.le.le, fun j hj => ?_⟩
      · have := k.le.app j p hj
        show (if j = i then _ else _) = _
        rw [if_neg (fun e => by rw [e, n1] at this; cases this)]
        exact this
      · show (if j = i then _ else _) = _
        rw [if_neg (by omega)]
        exact k.le.old j hj
    · rw [hrv]
      refine newV_conc ?_
      show (if i = i then _ else _) = _
      rw [if_pos rfl]
    · intro q hq hne hl i' cs' e' hqk
      obtain ⟨m1, m2, m3⟩ := k.news q hq hl i' cs' e' hqk
      have hii : i' ≠ i := fun hii => by
        subst hii
        exact hne (k.apart q hq r hr hl hun i' cs' e' cs e hqk hk)
      refine ⟨?_, m3⟩
      show (if i' = i then _ else _) = _
      rw [if_neg hii]
      exact m1

theorem stillA_spec {dead od : Nat} {wr : Option (Nat × Nat × Nat)} : ∀ {rs : List DRec}, (∀ r ∈ rs, r.k = .flt → pureA r.o.op = true → ∀ σ, evalF E.P E.G ops r.T σ r.o = some r.v) →
    (∀ r ∈ rs, r.k = .flt → bitN od r.i = false → apartA E.P E.G wr r.T r.o.op = true → evalF E.P E.G ops r.T σ r.o = some r.v) → stillA E.P E.G ops σ dead wr od rs = true → ∀ r ∈ rs, bitN dead r.i = true ∨ match r.k with
    | .eff => True
    | .flt => evalF E.P E.G ops r.T σ r.o = some r.v
    | .new i cs e => σ.get i = some (.cells cs e true none)
  | [], _, _, _, r, h => by cases h
  | q :: rs, hc, hap, h, r, hr => by
    simp only [stillA] at h
    have key : stillA E.P E.G ops σ dead wr od rs = true ∧ (bitN dead q.i = true ∨ match q.k with
        | .eff => True
        | .flt => evalF E.P E.G ops q.T σ q.o = some q.v
        | .new i cs e => σ.get i = some (.cells cs e true none)) := by
      cases hb : bitN dead q.i with
      | true => rw [hb] at h; exact ⟨h, .inl rfl⟩
      | false =>
        rw [hb] at h
        simp only [cond] at h
        cases hk : q.k with
        | eff => rw [hk] at h; exact ⟨h, .inr trivial⟩
        | flt =>
          rw [hk] at h
          simp only at h ⊢
          cases hp : (pureA q.o.op || (!(bitN od q.i) && apartA E.P E.G wr q.T q.o.op)) with
          | true =>
            rw [hp] at h
            simp only [Bool.or_eq_true, Bool.and_eq_true, Bool.not_eq_true'] at hp
            rcases hp with hp | ⟨hp, hp'⟩
            · exact ⟨h, .inr (hc q (by simp) hk hp σ)⟩
            · exact ⟨h, .inr (hap q (by simp) hk hp hp')⟩
          | false =>
          rw [hp] at h
          simp only [cond] at h
          cases hv : evalF E.P E.G ops q.T σ q.o with
          | none => rw [hv] at h; cases h
          | some v =>
            rw [hv] at h
            simp only at h
            cases hs : AV.same v q.v with
            | false => rw [hs] at h; cases h
            | true => rw [hs] at h; exact ⟨h, .inr (by rw [AV.same_eq _ _ hs])⟩
        | new i cs e =>
          rw [hk] at h
          simp only at h ⊢
          split at h
          · rename_i cs' e' hg
            cases hs : (Nat.beq e e' && AV.sameL cs cs') with
            | false => rw [hs] at h; cases h
            | true =>
              rw [hs] at h
              simp only [Bool.and_eq_true] at hs
              refine ⟨h, .inr ?_⟩
              rw [hg, Nat.eq_of_beq_eq_true hs.1, AV.sameL_eq _ _ hs.2]
          · cases h
    rcases List.mem_cons.1 hr with rfl | hr'
    · exact key.2
    · exact stillA_spec (fun r hr => hc r (List.mem_cons_of_mem _ hr)) (fun r hr => hap r (List.mem_cons_of_mem _ hr)) key.1 r hr'

inductive StepDR (E : Env) (go : ExecT) (ops : Array Oper) (s : DSt) (r : DRec) : DSt → Prop
  | flt (hk : r.k = .flt) (hv : evalF E.P E.G ops r.T s.σ r.o = some r.v) : StepDR E go ops s r ⟨r :: s.recs, s.last, s.σ⟩
  | new {i : Nat} {cs : List AV} {e : TypeId} {σ1 : AS} (hk : r.k = .new i cs e) (ha : s.σ.add (.cells cs e true none) = some (i, σ1)) (hs : stillA E.P E.G ops σ1 (deadOf s.last) none 0 s.recs = true) : StepDR E go ops s r ⟨r :: s.recs, s.last, σ1⟩
  | eff {σ1 : AS} (hk : r.k = .eff) (hv : evalE E go ops r.T s.σ r.o = some (r.v, σ1)) (hs : stillA E.P E.G ops σ1 r.bef (wroteA E.P E.G ops r.T r.o) (deadOf s.last) s.recs = true) : StepDR E go ops s r ⟨r :: s.recs, some (r.i, r.bef), σ1⟩

theorem stepD_spec {s s1 : DSt} {p : Nat × Bool} (hok : RecsOK E ops T0 s.recs) (h : stepD E go ops T0 s p = some s1) :
    ∃ r, r.i = p.1 ∧ RecOK E ops T0 s.recs r ∧ (∀ e m, s.last = some (e, m) → Bef ops e r.i) ∧ StepDR E go ops s r s1 := by
  unfold stepD at h
  cases ho : ops[p.1]? with
  | none => rw [ho] at h; cases h
  | some o =>
    rw [ho] at h
    simp only at h
    cases hi : hasI p.1 s.recs with
    | true => rw [hi] at h; cases h
    | false =>
      rw [hi] at h
      simp only [cond] at h
      obtain ⟨bef, hb, h⟩ := bind2 h
      obtain ⟨b1, b2⟩ := befOf_spec hok.befs hb
      have b3 : ∀ x, bitN bef x = true → Bef ops x p.1 := fun x hx => by
        obtain ⟨e, e1, e2⟩ := b2 x hx
        rcases e2 with rfl | e2
        · exact .one ho e1
        · exact .step e2 ho e1
      cases hl : lastIn bef s.last with
      | false => rw [hl] at h; cases h
      | true =>
        rw [hl] at h
        simp only [cond] at h
        cases hf : freeD T0 bef o s.recs with
        | false => rw [hf] at h; cases h
        | true =>
          rw [hf] at h
          simp only [cond] at h
          obtain ⟨T, hT, h⟩ := bind2 h
          have hfree : ∀ d, o.dst = some d → d < T0.sz ∧ freeOf bef d s.recs = true := fun d hd => by
            unfold freeD at hf
            rw [hd] at hf
            simp only at hf
            cases hq : Nat.blt d T0.sz with
            | false => rw [hq] at hf; cases hf
            | true => rw [hq] at hf; exact ⟨blt_lt hq, hf⟩
          have hlast : ∀ e m, s.last = some (e, m) → Bef ops e p.1 := fun e m he => by
            rw [he] at hl
            exact b3 e hl
          have mk : ∀ (v : AV) (dk : DK), (match dk with
              | .flt => fltA o.op = true
              | .eff => True
              | .new i cs e => o.guard = none ∧ ∃ len, newA E.P E.G T o.op = some (.cells cs e true none, len) ∧ v = newV i len) → RecOK E ops T0 s.recs ⟨p.1, o, bef, o.looksAt ops, T, v, dk⟩ := fun v dk hkd =>
            ⟨ho, rfl, b3, b1, hasI_spec hi, hT, hfree, hkd⟩
          cases hfl : fltA o.op with
          | true =>
            rw [hfl] at h
            simp only at h
            cases hv : evalF E.P E.G ops T s.σ o with
            | none => rw [hv] at h; cases h
            | some v =>
              rw [hv] at h
              simp only [Option.map_some, Option.some.injEq] at h
              subst h
              exact ⟨⟨p.1, o, bef, o.looksAt ops, T, v, .flt⟩, rfl, mk v .flt hfl, hlast, .flt rfl hv⟩
          | false =>
            rw [hfl] at h
            simp only at h
            split at h
            · split at h
              · rename_i cs e len hgd hna
                obtain ⟨q, hq, h⟩ := bind2 h
                cases hst : stillA E.P E.G ops q.2 (deadOf s.last) none 0 s.recs with
                | false => rw [hst] at h; cases h
                | true =>
                  rw [hst] at h
                  simp only [Option.some.injEq] at h
                  subst h
                  exact ⟨⟨p.1, o, bef, o.looksAt ops, T, newV q.1 len, .new q.1 cs e⟩, rfl, mk _ (.new q.1 cs e) ⟨hgd, len, hna, rfl⟩, hlast, .new rfl hq hst⟩
              · cases h
            · obtain ⟨q, hq, h⟩ := bind2 h
              cases hst : stillA E.P E.G ops q.2 bef (wroteA E.P E.G ops T o) (deadOf s.last) s.recs with
              | false => rw [hst] at h; cases h
              | true =>
                rw [hst] at h
                simp only [Option.some.injEq] at h
                subst h
                exact ⟨⟨p.1, o, bef, o.looksAt ops, T, q.1, .eff⟩, rfl, mk q.1 .eff trivial, hlast, .eff rfl hq hst⟩

theorem StepDR.ok {s s1 : DSt} {r : DRec} (h : StepDR E go ops s r s1) (hs : DOK E ops T0 s) (hr : RecOK E ops T0 s.recs r) : DOK E ops T0 s1 ∧ s1.recs = r :: s.recs := by
  cases h with
  | flt hk hv =>
    refine ⟨⟨⟨hr, hs.recs⟩, fun e m he => ?_, fun q hq => ?_, fun q hq hqk hp τ => ?_⟩, rfl⟩
    · obtain ⟨⟨q, q1, q2⟩, k⟩ := hs.last e m he
      exact ⟨⟨q, List.mem_cons_of_mem _ q1, q2⟩, k⟩
    · rcases List.mem_cons.1 hq with rfl | hq'
      · unfold Live; rw [hk]; exact .inr hv
      · exact hs.live q hq'
    · rcases List.mem_cons.1 hq with rfl | hq'
      · rw [pure_evalF (σ := τ) (σ' := s.σ) hp]; exact hv
      · exact hs.calm q hq' hqk hp τ
  | new hk ha hst =>
    refine ⟨⟨⟨hr, hs.recs⟩, fun e m he => ?_, fun q hq => ?_, fun q hq hqk hp τ => ?_⟩, rfl⟩
    · obtain ⟨⟨q, q1, q2⟩, k⟩ := hs.last e m he
      exact ⟨⟨q, List.mem_cons_of_mem _ q1, q2⟩, k⟩
    · rcases List.mem_cons.1 hq with rfl | hq'
      · unfold Live
        rw [hk]
        refine .inr ?_
        unfold AS.add at ha
        cases hc : Nat.blt s.σ.next 1024 with
        | false => rw [hc] at ha; cases ha
        | true =>
          rw [hc] at ha
          simp only [cond, Option.some.injEq, Prod.mk.injEq] at ha
          obtain ⟨rfl, rfl⟩ := ha
          exact AS.get_put_same (σ := s.σ) (o := some _) (blt_lt hc)
      · exact stillA_spec hs.calm (fun _ _ _ _ hap => by simp [apartA] at hap) hst q hq'
    · rcases List.mem_cons.1 hq with rfl | hq'
      · rw [hk] at hqk; cases hqk
      · exact hs.calm q hq' hqk hp τ
  | eff hk hv hst =>
    refine ⟨⟨⟨hr, hs.recs⟩, fun e m he => ?_, fun q hq => ?_, fun q hq hqk hp τ => ?_⟩, rfl⟩
    · simp only [Option.some.injEq, Prod.mk.injEq] at he
      obtain ⟨rfl, rfl⟩ := he
      exact ⟨⟨r, by simp, rfl, hk⟩, hr.bef⟩
    · rcases List.mem_cons.1 hq with rfl | hq'
      · unfold Live; rw [hk]; exact .inr trivial
      · refine stillA_spec hs.calm (fun y hy hyk hod hap => apart_evalF hv hap ?_) hst q hq'
        have hl := hs.live y hy
        unfold Live at hl
        rw [hod, hyk] at hl
        exact hl.resolve_left (by simp)
    · rcases List.mem_cons.1 hq with rfl | hq'
      · rw [hk] at hqk; cases hqk
      · exact hs.calm q hq' hqk hp τ

/-- What is done later waits for the last effect. -/
theorem runD_later : ∀ {ord : List (Nat × Bool)} {s sf : DSt}, runD E go ops T0 ord s = some sf → DOK E ops T0 s →
    ∀ r ∈ sf.recs, r ∈ s.recs ∨ ∀ e m, s.last = some (e, m) → Bef ops e r.i
  | [], s, sf, h, _, r, hr => by simp only [runD, Option.some.injEq] at h; subst h; exact .inl hr
  | p :: ord, s, sf, h, hs, r, hr => by
    simp only [runD] at h
    obtain ⟨s1, h1, h2⟩ := bind2 h
    obtain ⟨q, q1, q2, q3, q4⟩ := stepD_spec hs.recs h1
    obtain ⟨k1, k2⟩ := q4.ok hs q2
    rcases runD_later h2 k1 r hr with h | h
    · rw [k2] at h
      rcases List.mem_cons.1 h with rfl | h
      · exact .inr q3
      · exact .inl h
    · refine .inr fun e m he => ?_
      cases q4 with
      | flt => exact h e m he
      | new => exact h e m he
      | eff => exact (q3 e m he).trans (h _ _ rfl)
end
end Go.Det
