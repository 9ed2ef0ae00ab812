/- Functions without a body, taken by their entries: the evaluator's words for them are sound. Conditions: none beyond those of each theorem. -/
import Derived.Test.YtkbninmkgjhfmaaGreatDoorDetHooks
import Derived.Test.YtkbninmkgjhfmaaGreatDoorDetSound10
import Derived.Lib.Bytealg
import GoSem.Extern.SlicesOverlaps
set_option maxHeartbeats 400000
namespace Go.Det
open Go
section
variable {B : Nat → Prop} {w0 w : World} {ρ : Rho} {σ σ' : AS} {E : Env}

theorem hook_extern {f : FuncId} {fn : Func} {e : Array Value → Sem Value} {h : Hook} (hf : E.P.funcs[f]? = some fn) (hname : (fn.name == "runtime.NumGoroutine") = false) (hb : fn.body.isNone = true) (hn : Extern.findNext fn = none)
    (he : Extern.find fn = some e) (hrun : ∀ (ρ : Rho) (σ σ' : AS) (args : List AV) (xs : List Value) (v : AV) (w : World), h args σ = some (v, σ') → concL ρ args = some xs → σ' = σ ∧ ∃ x, (e xs.toArray).run E.P w = .ok x w ∧ conc ρ v = some x) :
    HookOK E f h := by
  intro B w0 w ρ σ σ' r args xs v hh hr _ hx
  obtain ⟨rfl, x, h1, h2⟩ := hrun ρ σ σ' args xs v w hh hx
  exact .inl ⟨x, w, .inl (by rw [run_callFunc_extern hf hname hb hn he, h1]; rfl), ρ, .refl ρ, hr, h2⟩

theorem count_nat (c : UInt8) : ∀ (l : List UInt8) (n : Nat), l.foldl (fun (n : Nat) x => if x == c then n + 1 else n) n = n + Lib.countByte l c
  | [], n => by simp [Lib.countByte]
  | b :: l, n => by
    rw [List.foldl_cons, count_nat c l]
    unfold Lib.countByte
    rw [List.count_cons]
    split <;> simp_all <;> omega

theorem find_index (c : UInt8) : ∀ (l : List UInt8) (i : Nat), findByte c l i = if Lib.indexByte l c = -1 then -1 else Lib.indexByte l c + i
  | [], i => by simp [findByte, Lib.indexByte]
  | b :: l, i => by
    unfold findByte Lib.indexByte
    by_cases h : (b == c) = true
    · simp [h]
    · simp only [h, Bool.false_eq_true, if_false]
      rw [find_index c l (i + 1)]
      by_cases h2 : Lib.indexByte l c = -1
      · simp [h2]
      · have h3 : (Lib.indexByte l c == -1) = false := by simpa using h2
        have h4 := Lib.indexByte_ge l c
        have h5 : Lib.indexByte l c + 1 ≠ -1 := by omega
        simp only [h2, if_false, h3, Bool.false_eq_true, h5]
        omega

theorem conc_int' {k : IntKind} {n : Int} {x : Value} (h : conc ρ (.int k n) = some x) : x = .int k n := by simp only [conc, Option.some.injEq] at h; exact h.symm

theorem hCount_ok {f : FuncId} {fn : Func} (hf : E.P.funcs[f]? = some fn) (hname : (fn.name == "runtime.NumGoroutine") = false) (hb : fn.body.isNone = true) (hn : Extern.findNext fn = none)
    (he : Extern.find fn = some Extern.BytealgCount.count) : HookOK E f hCount := by
  refine hook_extern hf hname hb hn he fun ρ σ σ' args xs v w h hx => ?_
  unfold hCount at h
  split at h
  · rename_i b c
    cases h
    obtain ⟨x, r, h1, h2, rfl⟩ := concL_cons hx
    obtain ⟨y, r', h3, h4, rfl⟩ := concL_cons h2
    simp only [concL, Option.some.injEq] at h4
    subst h4
    rw [conc_str h1, conc_int' h3]
    refine ⟨rfl, _, Lib.run_countString _ c w, ?_⟩
    simp only [conc, Option.some.injEq]
    rw [count_nat]
    simp
  · cases h

theorem hIndexByte_ok {f : FuncId} {fn : Func} (hf : E.P.funcs[f]? = some fn) (hname : (fn.name == "runtime.NumGoroutine") = false) (hb : fn.body.isNone = true) (hn : Extern.findNext fn = none)
    (he : Extern.find fn = some Extern.BytealgIndexByte.indexByte) : HookOK E f hIndexByte := by
  refine hook_extern hf hname hb hn he fun ρ σ σ' args xs v w h hx => ?_
  unfold hIndexByte at h
  split at h
  · rename_i b c
    cases h
    obtain ⟨x, r, h1, h2, rfl⟩ := concL_cons hx
    obtain ⟨y, r', h3, h4, rfl⟩ := concL_cons h2
    simp only [concL, Option.some.injEq] at h4
    subst h4
    rw [conc_str h1, conc_int' h3]
    refine ⟨rfl, _, Lib.run_indexByteString _ c w, ?_⟩
    simp only [conc, Option.some.injEq]
    rw [find_index]
    have : (if Lib.indexByte b (UInt8.ofNat c.toNat) = -1 then (-1 : Int) else Lib.indexByte b (UInt8.ofNat c.toNat) + (0 : Nat)) = Lib.indexByte b c.toNat.toUInt8 := by
      show (if Lib.indexByte b c.toNat.toUInt8 = -1 then (-1 : Int) else _) = _
      split
      · rename_i e; exact e.symm
      · simp
    rw [this]
  · cases h

theorem hSame_ok {f : FuncId} {fn : Func} (hf : E.P.funcs[f]? = some fn) (hname : (fn.name == "runtime.NumGoroutine") = false) (hb : fn.body.isNone = true) (hn : Extern.findNext fn = none)
    (he : Extern.find fn = some Extern.AbiNoEscape.same) : HookOK E f hSame := by
  refine hook_extern hf hname hb hn he fun ρ σ σ' args xs v w h hx => ?_
  unfold hSame at h
  split at h
  · cases h
    obtain ⟨x, r, h1, h2, rfl⟩ := concL_cons hx
    simp only [concL, Option.some.injEq] at h2
    subst h2
    exact ⟨rfl, x, rfl, h1⟩
  · cases h

theorem conc_slice_none {l c : Nat} {q : Bool} {x : Value} (h : conc ρ (.slice none l c q) = some x) : x = .slice none l c := by
  simp only [conc] at h
  split at h
  · cases h
  · exact (Option.some.inj h).symm

theorem conc_slice_some {i o l c : Nat} {q : Bool} {x : Value} (h : conc ρ (.slice (some (i, o)) l c q) = some x) : ∃ b N c', ρ i = some (b, N) ∧ x = .slice (some ⟨b, o, none⟩) l c' := by
  simp only [conc] at h
  cases hi : ρ i with
  | none => rw [hi] at h; cases h
  | some p =>
    obtain ⟨b, N⟩ := p
    rw [hi] at h
    simp only [Option.bind_some, concS] at h
    cases q with
    | false => simp only [Bool.false_eq_true, if_false, Option.some.injEq] at h; exact ⟨b, N, _, rfl, h.symm⟩
    | true =>
      simp only [if_true] at h
      split at h
      · exact ⟨b, N, _, rfl, (Option.some.inj h).symm⟩
      · cases h

theorem hOverlaps_ok {f : FuncId} {fn : Func} {tS tR e : TypeId} {size : Nat} (hf : E.P.funcs[f]? = some fn) (hname : (fn.name == "runtime.NumGoroutine") = false) (hb : fn.body.isNone = true) (hn : Extern.findNext fn = none)
    (he : Extern.find fn = some (Extern.SlicesOverlaps.overlaps #[tS, tS] #[tR])) (hu : E.P.underlying tS = some (.slice e)) (hz : szT E.P e = some size) : HookOK E f (hOverlaps size) := by
  refine hook_extern hf hname hb hn he fun ρ σ σ' args xs v w h hx => ?_
  have run2 : ∀ (a b : Option Addr) (la ca lb cb : Nat), (Extern.SlicesOverlaps.overlaps #[tS, tS] #[tR] #[.slice a la ca, .slice b lb cb]).run E.P w = Sem.run E.P (α := Value) (do
      let size ← sizeOf e
      match a, b with
      | some a, some b =>
        if la = 0 ∨ lb = 0 ∨ size = 0 then pure (Value.bool false)
        else if a.block != b.block && (← frozen a) && (← frozen b) then unsupported .addressObserved
        else do
          if a.block != b.block then do
            noView a; noView b
            if ← mayBeOne a b then return Value.bool ((← choose (.extern "sameAddr.stringBytes" 2)) == 1)
          pure (Value.bool (a.block == b.block && a.off < b.off + lb * size && b.off < a.off + la * size))
      | _, _ => pure (Value.bool false)) w := by
    intro a b la ca lb cb
    have : (Extern.SlicesOverlaps.overlaps #[tS, tS] #[tR] #[.slice a la ca, .slice b lb cb]) = (do
      let .slice elem ← underlying tS | stuck "slices.overlaps: slice type expected"
      let size ← sizeOf elem
      match a, b with
      | some a, some b =>
        if la = 0 ∨ lb = 0 ∨ size = 0 then pure (Value.bool false)
        else if a.block != b.block && (← frozen a) && (← frozen b) then unsupported .addressObserved
        else do
          if a.block != b.block then do
            noView a; noView b
            if ← mayBeOne a b then return Value.bool ((← choose (.extern "sameAddr.stringBytes" 2)) == 1)
          pure (Value.bool (a.block == b.block && a.off < b.off + lb * size && b.off < a.off + la * size))
      | _, _ => pure (Value.bool false)) := rfl
    rw [this]
    simp only [Sem.run_bind, run_underlying hu, Result.andThen_ok]
  unfold hOverlaps at h
  split at h
  · rename_i i o la ca qa j p lb cb qb
    obtain ⟨x, r, h1, h2, rfl⟩ := concL_cons hx
    obtain ⟨y, r', h3, h4, rfl⟩ := concL_cons h2
    simp only [concL, Option.some.injEq] at h4
    subst h4
    obtain ⟨b1, N1, c1, k1, rfl⟩ := conc_slice_some h1
    obtain ⟨b2, N2, c2, k2, rfl⟩ := conc_slice_some h3
    cases hc : (Nat.beq la 0 || Nat.beq lb 0 || Nat.beq size 0) with
    | true =>
      rw [hc] at h
      simp only [cond, Option.some.injEq, Prod.mk.injEq] at h
      obtain ⟨rfl, rfl⟩ := h
      refine ⟨rfl, .bool false, ?_, rfl⟩
      have h0 : la = 0 ∨ lb = 0 ∨ size = 0 := by simpa [or_assoc] using hc
      show (Extern.SlicesOverlaps.overlaps #[tS, tS] #[tR] #[_, _]).run E.P w = _
      rw [run2]
      simp only [Sem.run_bind, run_sizeOf' hz, Result.andThen_ok, h0, if_true, Sem.run_pure]
    | false =>
      rw [hc] at h
      simp only [cond] at h
      cases hij : Nat.beq i j with
      | false => rw [hij] at h; cases h
      | true =>
        rw [hij] at h
        simp only [Option.some.injEq, Prod.mk.injEq] at h
        obtain ⟨rfl, rfl⟩ := h
        have := Nat.eq_of_beq_eq_true hij
        subst this
        rw [k1] at k2
        cases k2
        have h0 : ¬ (la = 0 ∨ lb = 0 ∨ size = 0) := by
          intro h
          have : (Nat.beq la 0 || Nat.beq lb 0 || Nat.beq size 0) = true := by simpa [or_assoc] using h
          rw [this] at hc; cases hc
        refine ⟨rfl, .bool (Nat.blt o (p + lb * size) && Nat.blt p (o + la * size)), ?_, rfl⟩
        show (Extern.SlicesOverlaps.overlaps #[tS, tS] #[tR] #[_, _]).run E.P w = _
        rw [run2]
        have e1 : decide (o < p + lb * size) = Nat.blt o (p + lb * size) := by rw [Bool.eq_iff_iff]; simp
        have e2 : decide (p < o + la * size) = Nat.blt p (o + la * size) := by rw [Bool.eq_iff_iff]; simp
        simp only [Sem.run_bind, run_sizeOf' hz, Result.andThen_ok, h0, if_false, bne_self_eq_false, Bool.false_and, Bool.false_eq_true, Sem.run_pure, beq_self_eq_true, Bool.true_and, e1, e2]
        simp
  · rename_i la ca qa a lb cb qb
    obtain ⟨x, r, h1, h2, rfl⟩ := concL_cons hx
    obtain ⟨y, r', h3, h4, rfl⟩ := concL_cons h2
    simp only [concL, Option.some.injEq] at h4
    subst h4
    cases h
    obtain ⟨a', c', rfl, _⟩ := conc_slice_any h3
    rw [conc_slice_none h1]
    refine ⟨rfl, .bool false, ?_, rfl⟩
    show (Extern.SlicesOverlaps.overlaps #[tS, tS] #[tR] #[_, _]).run E.P w = _
    rw [run2]
    cases a' <;> simp only [Sem.run_bind, run_sizeOf' hz, Result.andThen_ok, Sem.run_pure]
  · rename_i a la ca qa lb cb qb _
    obtain ⟨x, r, h1, h2, rfl⟩ := concL_cons hx
    obtain ⟨y, r', h3, h4, rfl⟩ := concL_cons h2
    simp only [concL, Option.some.injEq] at h4
    subst h4
    cases h
    obtain ⟨a', c', rfl, _⟩ := conc_slice_any h1
    rw [conc_slice_none h3]
    refine ⟨rfl, .bool false, ?_, rfl⟩
    show (Extern.SlicesOverlaps.overlaps #[tS, tS] #[tR] #[_, _]).run E.P w = _
    rw [run2]
    cases a' <;> simp only [Sem.run_bind, run_sizeOf' hz, Result.andThen_ok, Sem.run_pure]
  · cases h
end
end Go.Det
