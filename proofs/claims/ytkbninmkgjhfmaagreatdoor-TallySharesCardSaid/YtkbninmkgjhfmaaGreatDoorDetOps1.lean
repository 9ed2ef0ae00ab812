/- Operations that touch no memory, and equality: what the evaluator does stands for what the model does. Conditions: none. -/
import Derived.Test.YtkbninmkgjhfmaaGreatDoorDetMem
import Derived.Laws.StructEq
set_option maxHeartbeats 400000
namespace Go.Det
open Go
section
variable {P : Program} {B : Nat → Prop} {w0 w : World} {ρ : Rho} {σ σ' : AS}

def GR (ρ : Rho) (G : Nat) : Prop := ∀ g, g < G → ∃ N, ρ g = some (g, N)
theorem GR.mono {ρ ρ' : Rho} {G : Nat} (h : GR ρ G) (le : ρ.Le ρ') : GR ρ' G := fun g hg => let ⟨N, hN⟩ := h g hg; ⟨N, le g _ hN⟩

theorem aeval_sound {T : Tm} {G : Nat} {a : Act} {x : Operand} {v : AV} (h : aeval T G x = some v) (ht : TRel ρ T a.tmps) (hg : GR ρ G) : conc ρ v = some (a.eval x) := by
  cases x with
  | tmp t =>
    simp only [aeval] at h
    cases hc : Nat.blt t 512 with
    | false => rw [hc] at h; cases h
    | true =>
      rw [hc] at h
      simp only [cond, Option.some.injEq] at h
      subst h
      exact ht.2 t (blt_lt hc)
  | const c => exact conc_ofValue ρ c v h
  | global g =>
    simp only [aeval] at h
    cases hc : Nat.blt g G with
    | false => rw [hc] at h; cases h
    | true =>
      rw [hc] at h
      simp only [cond, Option.some.injEq] at h
      subst h
      obtain ⟨N, hN⟩ := hg g (blt_lt hc)
      simp [conc, hN, Act.eval]
  | func f =>
    simp only [aeval, Option.some.injEq] at h
    subst h
    rfl

theorem aevalL_sound {T : Tm} {G : Nat} {a : Act} : ∀ {l : List Operand} {vs : List AV}, aevalL T G l = some vs → TRel ρ T a.tmps → GR ρ G → concL ρ vs = some (l.map a.eval)
  | [], vs, h, _, _ => by simp only [aevalL, Option.some.injEq] at h; subst h; rfl
  | x :: r, vs, h, ht, hg => by
    simp only [aevalL] at h
    cases e : aeval T G x with
    | none => rw [e] at h; cases h
    | some v =>
      cases e' : aevalL T G r with
      | none => rw [e, e'] at h; cases h
      | some l =>
        rw [e, e'] at h
        simp only [Option.bind_some, Option.map_some, Option.some.injEq] at h
        subst h
        exact concL_mk (aeval_sound e ht hg) (aevalL_sound e' ht hg)

/-! inversions -/
theorem conc_bool {b : Bool} {x : Value} (h : conc ρ (.bool b) = some x) : x = .bool b := by simp only [conc, Option.some.injEq] at h; exact h.symm
theorem conc_int {k : IntKind} {n : Int} {x : Value} (h : conc ρ (.int k n) = some x) : x = .int k n := by simp only [conc, Option.some.injEq] at h; exact h.symm
theorem conc_str {s : List UInt8} {x : Value} (h : conc ρ (.str s) = some x) : x = .string ⟨s.toArray⟩ := by simp only [conc, Option.some.injEq] at h; exact h.symm
theorem conc_nil {x : Value} (h : conc ρ (.ptr none) = some x) : x = .pointer none := by simp only [conc, Option.some.injEq] at h; exact h.symm
theorem conc_ptr {i o : Nat} {x : Value} (h : conc ρ (.ptr (some (i, o))) = some x) : ∃ b N, ρ i = some (b, N) ∧ x = .pointer (some ⟨b, o, none⟩) := by
  simp only [conc] at h
  cases hp : ρ i with
  | none => rw [hp] at h; cases h
  | some p => rw [hp] at h; simp only [Option.map_some, Option.some.injEq] at h; exact ⟨p.1, p.2, rfl, h.symm⟩
theorem conc_nilIface {x : Value} (h : conc ρ .nilIface = some x) : x = .nilIface := by simp only [conc, Option.some.injEq] at h; exact h.symm
theorem conc_nilFunc {x : Value} (h : conc ρ .nilFunc = some x) : x = .nilFunc := by simp only [conc, Option.some.injEq] at h; exact h.symm
theorem conc_iface {t : TypeId} {v : AV} {x : Value} (h : conc ρ (.iface t v) = some x) : ∃ y, conc ρ v = some y ∧ x = .iface t y := by
  simp only [conc] at h
  cases hp : conc ρ v with
  | none => rw [hp] at h; cases h
  | some p => rw [hp] at h; simp only [Option.map_some, Option.some.injEq] at h; exact ⟨p, rfl, h.symm⟩
theorem conc_agg {cs : List AV} {x : Value} (h : conc ρ (.agg cs) = some x) : ∃ l, concL ρ cs = some l ∧ x = .agg l.toArray := by
  simp only [conc] at h
  cases hp : concL ρ cs with
  | none => rw [hp] at h; cases h
  | some p => rw [hp] at h; simp only [Option.map_some, Option.some.injEq] at h; exact ⟨p, rfl, h.symm⟩
theorem conc_tuple {cs : List AV} {x : Value} (h : conc ρ (.tuple cs) = some x) : ∃ l, concL ρ cs = some l ∧ x = .tuple l.toArray := by
  simp only [conc] at h
  cases hp : concL ρ cs with
  | none => rw [hp] at h; cases h
  | some p => rw [hp] at h; simp only [Option.map_some, Option.some.injEq] at h; exact ⟨p, rfl, h.symm⟩
theorem conc_mapNil {x : Value} (h : conc ρ (.map none) = some x) : x = .map none := by simp only [conc, Option.some.injEq] at h; exact h.symm
theorem conc_map {i : Nat} {x : Value} (h : conc ρ (.map (some i)) = some x) : ∃ b N, ρ i = some (b, N) ∧ x = .map (some b) := by
  simp only [conc] at h
  cases hp : ρ i with
  | none => rw [hp] at h; cases h
  | some p => rw [hp] at h; simp only [Option.map_some, Option.some.injEq] at h; exact ⟨p.1, p.2, rfl, h.symm⟩
theorem conc_func {fn : Fn} {a b : List AV} {x : Value} (h : conc ρ (.func fn a b) = some x) : ∃ f xs ys, concFn ρ fn = some f ∧ concL ρ a = some xs ∧ concL ρ b = some ys ∧ x = .func f xs.toArray ys.toArray := by
  simp only [conc] at h
  cases e1 : concFn ρ fn with
  | none => rw [e1] at h; cases h
  | some f =>
    cases e2 : concL ρ a with
    | none => rw [e1, e2] at h; cases h
    | some xs =>
      cases e3 : concL ρ b with
      | none => rw [e1, e2, e3] at h; cases h
      | some ys => rw [e1, e2, e3] at h; simp only [Option.bind_some, Option.map_some, Option.some.injEq] at h; exact ⟨f, xs, ys, rfl, rfl, rfl, h.symm⟩
theorem conc_sliceNil {l c : Nat} {q : Bool} {x : Value} (h : conc ρ (.slice none l c q) = some x) : q = false ∧ x = .slice none l c := by
  simp only [conc] at h
  cases q <;> simp at h
  exact ⟨rfl, h.symm⟩
theorem conc_slice {i o l c : Nat} {x : Value} (h : conc ρ (.slice (some (i, o)) l c false) = some x) : ∃ b N, ρ i = some (b, N) ∧ x = .slice (some ⟨b, o, none⟩) l c := by
  simp only [conc] at h
  cases hp : ρ i with
  | none => rw [hp] at h; cases h
  | some p => rw [hp] at h; simp only [Option.bind_some, concS, Bool.false_eq_true, if_false, Option.some.injEq] at h; exact ⟨p.1, p.2, rfl, h.symm⟩
theorem conc_open {i o l c : Nat} {x : Value} (h : conc ρ (.slice (some (i, o)) l c true) = some x) : ∃ b N, ρ i = some (b, N) ∧ l + c ≤ N ∧ x = .slice (some ⟨b, o, none⟩) l (N - c) := by
  simp only [conc] at h
  cases hp : ρ i with
  | none => rw [hp] at h; cases h
  | some p =>
    rw [hp] at h
    simp only [Option.bind_some, concS, if_true] at h
    split at h
    · simp only [Option.some.injEq] at h; exact ⟨p.1, p.2, rfl, by assumption, h.symm⟩
    · cases h
theorem conc_eslice {i o alt skip : Nat} {q : Bool} {x : Value} (h : conc ρ (.eslice i o alt skip q) = some x) : ∃ b N, ρ i = some (b, N) ∧
    ((skip < N ∧ x = .slice (some ⟨b, o, none⟩) 0 (if q then N - skip else 0)) ∨ (skip = N ∧ x = .slice (some ⟨b, alt, none⟩) 0 0)) := by
  simp only [conc] at h
  cases hp : ρ i with
  | none => rw [hp] at h; cases h
  | some p =>
    rw [hp] at h
    simp only [Option.bind_some, concZ] at h
    refine ⟨p.1, p.2, rfl, ?_⟩
    split at h
    · simp only [Option.some.injEq] at h; exact .inl ⟨by assumption, h.symm⟩
    · split at h
      · simp only [Option.some.injEq] at h; exact .inr ⟨by assumption, h.symm⟩
      · cases h

/-- Any slice, told apart. -/
theorem conc_slice_any {a : Option (Nat × Nat)} {l c : Nat} {q : Bool} {x : Value} (h : conc ρ (.slice a l c q) = some x) : ∃ ad cc, x = .slice ad l cc ∧ (ad.isNone = a.isNone) := by
  cases a with
  | none => obtain ⟨_, rfl⟩ := conc_sliceNil h; exact ⟨_, _, rfl, rfl⟩
  | some p =>
    obtain ⟨i, o⟩ := p
    cases q with
    | false => obtain ⟨b, N, _, rfl⟩ := conc_slice h; exact ⟨_, _, rfl, rfl⟩
    | true => obtain ⟨b, N, _, _, rfl⟩ := conc_open h; exact ⟨_, _, rfl, rfl⟩

theorem toList_bytes (s : List UInt8) : (⟨s.toArray⟩ : ByteArray).toList = s := by rw [ByteArray.toList_eq]

/-! equality -/
theorem run_part {t : TypeId} {cs : List AV} {xs : List Value} {off : Nat} {v : AV} (h : partT P t cs off = some v) (hx : concL ρ cs = some xs) :
    ∃ x, conc ρ v = some x ∧ ∀ w, (part t xs.toArray off).run P w = .ok x w := by
  unfold partT at h
  cases e : isAggT P t with
  | none => rw [e] at h; cases h
  | some q =>
    rw [e] at h
    cases q with
    | true =>
      simp only at h
      cases e1 : szT P t with
      | none => rw [e1] at h; cases h
      | some n =>
        rw [e1] at h
        simp only [Option.bind_some] at h
        cases e2 : takeN n (cs.drop off) with
        | none => rw [e2] at h; cases h
        | some l =>
          rw [e2] at h
          simp only [Option.map_some, Option.some.injEq] at h
          subst h
          obtain ⟨h1, h2⟩ := takeN_some n _ l e2
          have hc : concL ρ l = some ((xs.drop off).take n) := by rw [h1]; exact concL_take n (concL_drop off hx)
          refine ⟨.agg ((xs.drop off).take n).toArray, by simp [conc, hc], fun w => ?_⟩
          simp [part, run_isAgg e, run_sizeOf' e1, List.take_drop]
    | false =>
      simp only at h
      obtain ⟨u, h1, h2⟩ := concL_get off hx h
      refine ⟨u, h2, fun w => ?_⟩
      simp [part, run_isAgg e, h1]

theorem sameAddr_one (a : Addr) (w : World) (o p b : Nat) (ha : a = ⟨b, o, none⟩) : (sameAddr a ⟨b, p, none⟩).run P w = .ok (Nat.beq o p) w := by
  subst ha
  have h : ((⟨b, o, none⟩ : Addr) == ⟨b, p, none⟩) = Nat.beq o p := by
    by_cases e : o = p
    · subst e; simp
    · have : Nat.beq o p = false := by
        cases hb : Nat.beq o p with
        | false => rfl
        | true => exact absurd (Nat.eq_of_beq_eq_true hb) e
      rw [this]
      simp [e]
  simp [sameAddr, h]

theorem eq_sound : ∀ (d : Nat) {t : TypeId} {x y : AV} {r : Bool} {X Y : Value}, eqAV P d t x y = some r → conc ρ x = some X → conc ρ y = some Y → ∀ m w, (Op.equalIn (d + m) t X Y).run P w = .ok r w
  | 0, t, x, y, r, X, Y, h, _, _ => by simp [eqAV] at h
  | d + 1, t, x, y, r, X, Y, h, hx, hy => by
    intro m w
    rw [Nat.succ_add]
    simp only [eqAV] at h
    split at h
    case h_1 hu => cases conc_bool hx; cases conc_bool hy; cases h; simp [Op.equalIn, run_underlying hu]
    case h_2 hu => 
      cases conc_int hx; cases conc_int hy
      split at h
      · cases h; simp [Op.equalIn, run_underlying hu, *]
      · cases h
    case h_3 hu => cases conc_str hx; cases conc_str hy; cases h; simp [Op.equalIn, run_underlying hu, beq_toListBytes]
    case h_4 hu => 
      cases conc_nil hx
      rename_i b
      cases b with
      | none => cases conc_nil hy; cases h; simp [Op.equalIn, run_underlying hu]
      | some p => obtain ⟨c, N, _, rfl⟩ := conc_ptr (i := p.1) (o := p.2) hy; cases h; simp [Op.equalIn, run_underlying hu]
    case h_5 p hu =>
      obtain ⟨c, N, _, rfl⟩ := conc_ptr (i := p.1) (o := p.2) hx
      cases conc_nil hy; cases h; simp [Op.equalIn, run_underlying hu]
    case h_6 e i o j p hu =>
      cases e1 : szT P e with
      | none => rw [e1] at h; cases h
      | some n =>
        rw [e1] at h
        simp only [Option.bind_some] at h
        obtain ⟨b, N, hb, rfl⟩ := conc_ptr hx
        obtain ⟨b', N', hb', rfl⟩ := conc_ptr hy
        cases hn : Nat.beq n 0 with
        | true => rw [hn] at h; cases h
        | false =>
          rw [hn] at h
          simp only [cond] at h
          cases hij : Nat.beq i j with
          | false => rw [hij] at h; cases h
          | true =>
            rw [hij] at h
            simp only [Option.some.injEq] at h
            obtain rfl : i = j := Nat.eq_of_beq_eq_true hij
            rw [hb] at hb'
            cases hb'
            have hn' : n ≠ 0 := fun e => by subst e; cases hn
            simp only [Op.equalIn, Sem.run_bind, run_underlying hu, Result.andThen_ok, run_sizeOf' e1]
            rw [if_pos hn', sameAddr_one _ w o p b rfl, h]
    case h_7 hu => cases conc_nilIface hx; cases conc_nilIface hy; cases h; simp [Op.equalIn, run_underlying hu]
    case h_8 hu => cases conc_nilIface hx; obtain ⟨z, _, rfl⟩ := conc_iface hy; cases h; simp [Op.equalIn, run_underlying hu]
    case h_9 hu => obtain ⟨z, _, rfl⟩ := conc_iface hx; cases conc_nilIface hy; cases h; simp [Op.equalIn, run_underlying hu]
    case h_10 tx vx ty vy hu =>
      obtain ⟨z, hz, rfl⟩ := conc_iface hx
      obtain ⟨z', hz', rfl⟩ := conc_iface hy
      split at h
      · rename_i he
        subst he
        cases hi : P.info? tx with
        | none => rw [hi] at h; cases h
        | some i =>
          rw [hi] at h
          simp only at h
          cases hc : i.comparable with
          | false => rw [hc] at h; cases h
          | true =>
            rw [hc] at h
            simp only [cond] at h
            have := eq_sound d h hz hz' m w
            simp [Op.equalIn, run_underlying hu, run_typeInfo' hi, hc, this]
      · rename_i he
        cases h
        simp [Op.equalIn, run_underlying hu, he]
    case h_11 hu =>
      obtain ⟨b, N, _, h2⟩ := conc_eslice hx
      obtain ⟨_, rfl⟩ := conc_sliceNil hy
      cases h
      rcases h2 with ⟨_, rfl⟩ | ⟨_, rfl⟩ <;> simp [Op.equalIn, run_underlying hu]
    case h_12 hu =>
      obtain ⟨b, N, _, h2⟩ := conc_eslice hy
      obtain ⟨_, rfl⟩ := conc_sliceNil hx
      cases h
      rcases h2 with ⟨_, rfl⟩ | ⟨_, rfl⟩ <;> simp [Op.equalIn, run_underlying hu]
    case h_13 hu =>
      obtain ⟨_, rfl⟩ := conc_sliceNil hx
      obtain ⟨ad, cc, rfl, hn⟩ := conc_slice_any hy
      cases h
      simp [Op.equalIn, run_underlying hu, hn]
    case h_14 hu =>
      obtain ⟨_, rfl⟩ := conc_sliceNil hy
      obtain ⟨ad, cc, rfl, hn⟩ := conc_slice_any hx
      cases h
      cases ad with
      | none => simp at hn
      | some a => simp [Op.equalIn, run_underlying hu]
    case h_15 hu =>
      cases conc_mapNil hx
      rename_i b
      cases b with
      | none => cases conc_mapNil hy; cases h; simp [Op.equalIn, run_underlying hu]
      | some p => obtain ⟨c, N, _, rfl⟩ := conc_map hy; cases h; simp [Op.equalIn, run_underlying hu]
    case h_16 hu =>
      obtain ⟨c, N, _, rfl⟩ := conc_map hx
      cases conc_mapNil hy; cases h; simp [Op.equalIn, run_underlying hu]
    case h_17 hu => cases conc_nilFunc hx; cases conc_nilFunc hy; cases h; simp [Op.equalIn, run_underlying hu]
    case h_18 hu => cases conc_nilFunc hx; obtain ⟨f, xs, ys, _, _, _, rfl⟩ := conc_func hy; cases h; simp [Op.equalIn, run_underlying hu]
    case h_19 hu => cases conc_nilFunc hy; obtain ⟨f, xs, ys, _, _, _, rfl⟩ := conc_func hx; cases h; simp [Op.equalIn, run_underlying hu]
    case h_20 fs xs ys hu =>
      obtain ⟨lx, hlx, rfl⟩ := conc_agg hx
      obtain ⟨ly, hly, rfl⟩ := conc_agg hy
      cases hs : P.stoodInHeld t with
      | true => rw [hs] at h; cases h
      | false =>
        rw [hs] at h
        simp only [cond] at h
        have hfs : P.fieldsOf t = fs := by simp [Program.fieldsOf, hu]
        rw [run_equalIn_struct w (d + m) t lx.toArray ly.toArray (by rw [hfs]; exact hu) hs, hfs]
        revert h
        generalize fs.toList = l
        intro h
        induction l with
        | nil => simp only [eqFs, Option.some.injEq] at h; subst h; rfl
        | cons f rest ih =>
          simp only [eqFs] at h
          simp only [Op.eqFields]
          split at h
          · rename_i hne
            rw [if_pos hne]
            cases e1 : partT P f.type xs f.offset with
            | none => rw [e1] at h; cases h
            | some px =>
              cases e2 : partT P f.type ys f.offset with
              | none => rw [e1, e2] at h; cases h
              | some py =>
                rw [e1, e2] at h
                simp only [Option.bind_some] at h
                obtain ⟨zx, hzx, r1⟩ := run_part e1 hlx
                obtain ⟨zy, hzy, r2⟩ := run_part e2 hly
                cases e3 : eqAV P d f.type px py with
                | none => rw [e3] at h; cases h
                | some q =>
                  rw [e3] at h
                  have r3 := eq_sound d e3 hzx hzy m w
                  simp only [Sem.run_bind, r1, r2, r3, Result.andThen_ok]
                  cases q with
                  | false => simp only [Option.some.injEq] at h; subst h; rfl
                  | true => simp only at h; simpa using ih h
          · rename_i hne
            rw [if_neg hne]
            exact ih h
    case h_21 => cases h
end
end Go.Det
