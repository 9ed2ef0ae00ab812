/- A closed run that the evaluator brings to 'true' is a contract of its function: in every world that holds the globals it reads. Conditions: none beyond those of each theorem. -/
import Derived.Test.YtkbninmkgjhfmaaGreatDoorDetHooks2
set_option maxHeartbeats 400000
namespace Go.Det
open Go
section
variable {B : Nat → Prop} {w0 w : World} {ρ : Rho} {σ σ' : AS} {E : Env}

abbrev Globs := List (Nat × TypeId × List (List UInt8))

def strsA (l : List (List UInt8)) : List AV := l.map .str
def strsV (l : List (List UInt8)) : List Value := l.map fun s => .string ⟨s.toArray⟩
theorem concL_strs : ∀ (l : List (List UInt8)), concL ρ (strsA l) = some (strsV l)
  | [] => rfl
  | s :: l => by
    show concL ρ (.str s :: strsA l) = some (.string ⟨s.toArray⟩ :: strsV l)
    exact concL_mk rfl (concL_strs l)

/-- The heap that a closed run starts from: the globals that it reads. -/
def heap0 (G : Nat) : Globs → AS
  | [] => ⟨.nil, G⟩
  | g :: gs => (heap0 G gs).put g.1 (some (.cells (strsA g.2.2) g.2.1 false none))

def globsOK (G : Nat) (gs : Globs) : Bool := Nat.ble G 1024 && gs.all fun g => Nat.blt g.1 G

theorem heap0_next {G : Nat} : ∀ {gs : Globs}, (heap0 G gs).next = G
  | [] => rfl
  | g :: gs => by simp only [heap0, AS.put]; exact heap0_next

theorem heap0_get {G : Nat} (hG : G ≤ 1024) : ∀ {gs : Globs}, (∀ g ∈ gs, g.1 < G) → ∀ {i : Nat} {o : AObj}, (heap0 G gs).get i = some o → ∃ g ∈ gs, i = g.1 ∧ o = .cells (strsA g.2.2) g.2.1 false none
  | [], _, i, o, h => by
    unfold AS.get heap0 at h
    cases hc : Nat.blt i 1024 with
    | false => rw [hc] at h; cases h
    | true => rw [hc] at h; simp [PT.get_nil] at h
  | g :: gs, hgs, i, o, h => by
    have hlt : g.1 < 1024 := Nat.lt_of_lt_of_le (hgs g (by simp)) hG
    simp only [heap0] at h
    by_cases e : g.1 = i
    · rw [← e, AS.get_put_same hlt] at h
      cases h
      exact ⟨g, by simp, e.symm, rfl⟩
    · rw [AS.get_put_ne hlt e] at h
      obtain ⟨q, q1, q2⟩ := heap0_get hG (fun g hg => hgs g (List.mem_cons_of_mem _ hg)) h
      exact ⟨q, List.mem_cons_of_mem _ q1, q2⟩

/-- The globals lie in a world as they were laid. -/
def GlobsIn (gs : Globs) (w : World) : Prop := ∀ g ∈ gs, ∃ fr, w.heap[g.1]? = some (.cells (strsV g.2.2).toArray g.2.1 fr)

def isTrue : Option (AV × AS) → Bool
  | some (.bool true, _) => true
  | _ => false

def rho0 (G : Nat) : Rho := ⟨fun i => if i < G then some (i, 0) else none, G⟩

theorem rel0 {G : Nat} {gs : Globs} (hok : globsOK G gs = true) (hg : GlobsIn gs w) : Rel (fun k => k < w.heap.size) w (rho0 G) (heap0 G gs) w := by
  simp only [globsOK, Bool.and_eq_true, List.all_eq_true] at hok
  have hG : G ≤ 1024 := Nat.le_of_ble_eq_true hok.1
  have hgs : ∀ g ∈ gs, g.1 < G := fun g h => blt_lt (hok.2 g h)
  refine ⟨rfl, rfl, rfl, Nat.le_refl _, fun _ h => h, fun _ _ => rfl, ?_, ?_, heap0_next.symm, ?_⟩
  · intro i o hi b N hb
    obtain ⟨g, g1, rfl, rfl⟩ := heap0_get hG hgs hi
    have hb' : (if g.1 < G then some (g.1, 0) else none) = some (b, N) := hb
    rw [if_pos (hgs g g1)] at hb'
    cases hb'
    obtain ⟨fr, h⟩ := hg g g1
    exact ⟨_, h, ⟨rfl, ⟨_, concL_strs _, rfl⟩, fun hw => by cases hw⟩, fun hw => by cases hw⟩
  · intro i j oi oj b N M _ _ hb hb'
    have h1 : (if i < G then some (i, 0) else none) = some (b, N) := hb
    have h2 : (if j < G then some (j, 0) else none) = some (b, M) := hb'
    split at h1 <;> split at h2 <;> simp_all
  · intro i hi
    show (if i < G then some (i, 0) else none) = none
    have hi' : G ≤ i := hi
    rw [if_neg (Nat.not_lt.2 hi')]

theorem gr0 {G : Nat} : GR (rho0 G) G := fun g hg => ⟨0, by show (if g < G then some (g, 0) else none) = _; rw [if_pos hg]⟩

/-- What a closed run leaves: the world as it was, but for new blocks. -/
structure Grown (w w' : World) : Prop where
  os : w'.os = w.os
  tape : w'.tape = w.tape
  output : w'.output = w.output
  size : w.heap.size ≤ w'.heap.size
  low : ∀ k, k < w.heap.size → w'.heap[k]? = w.heap[k]?

theorem closed_sound (hE : EnvOK E) (hm : E.P.follows .mixedOrders = true) {n : Nat} {f : FuncId} {gs : Globs} (hok : globsOK E.G gs = true) (hrun : isTrue (callF E (exec E n) f [] (heap0 E.G gs)) = true) (hg : GlobsIn gs w) (r : Option Nat) :
    NR (FW r) E.P (callFunc f #[]) w fun x w' => x = .bool true ∧ Grown w w' := by
  cases hc : callF E (exec E n) f [] (heap0 E.G gs) with
  | none => rw [hc] at hrun; cases hrun
  | some p =>
    obtain ⟨v, σ1⟩ := p
    rw [hc] at hrun
    have hv : v = .bool true := by
      cases v <;> simp only [isTrue, Bool.false_eq_true] at hrun
      rename_i b
      cases b <;> simp_all
    subst hv
    refine (callF_sound (r := r) hE (exec_sound hE hm n) hc (rel0 hok hg) gr0 (xs := []) rfl).mono ?_
    rintro x w' ⟨ρ', l1, l2, l3⟩
    exact ⟨conc_bool l3, l2.os, l2.tape, l2.output, l2.size, l2.low⟩

/-- The same as a hook. -/
def hTrue (gs : Globs) : Hook := fun args σ =>
  match args with
  | [] => cond (gs.all fun g => match σ.get g.1 with | some (.cells cs e _ none) => Nat.beq e g.2.1 && AV.sameL cs (strsA g.2.2) | _ => false) (some (.bool true, σ)) none
  | _ => none

theorem Rel.grown {w' : World} (h : Rel B w0 ρ σ w) (g : Grown w w') : Rel B w0 ρ σ w' := by
  refine ⟨g.os.trans h.os, g.tape.trans h.tape, g.output.trans h.output, Nat.le_trans h.size g.size, fun k hk => Nat.lt_of_lt_of_le (h.bsz k hk) g.size, fun k hk => by rw [g.low k (h.bsz k hk)]; exact h.low k hk, ?_, h.inj, h.next, h.fresh⟩
  intro i o hi b N hb
  obtain ⟨ob, h1, h2, h3⟩ := h.objs i o hi b N hb
  exact ⟨ob, by rw [g.low b (lt_of_heap h1)]; exact h1, h2, h3⟩

theorem hTrue_ok (hE : EnvOK E) (hm : E.P.follows .mixedOrders = true) {n : Nat} {f : FuncId} {gs : Globs} (hok : globsOK E.G gs = true) (hrun : isTrue (callF E (exec E n) f [] (heap0 E.G gs)) = true) : HookOK E f (hTrue gs) := by
  intro B w0 w ρ σ σ' r args xs v h hr hG hx
  unfold hTrue at h
  split at h
  · simp only [concL, Option.some.injEq] at hx
    subst hx
    cases hc : (gs.all fun g => match σ.get g.1 with | some (.cells cs e _ none) => Nat.beq e g.2.1 && AV.sameL cs (strsA g.2.2) | _ => false) with
    | false => rw [hc] at h; cases h
    | true =>
      rw [hc] at h
      simp only [cond, Option.some.injEq, Prod.mk.injEq] at h
      obtain ⟨rfl, rfl⟩ := h
      have hgl : GlobsIn gs w := by
        intro g hg
        have h1 := List.all_eq_true.1 hc g hg
        have hok' := hok
        simp only [globsOK, Bool.and_eq_true, List.all_eq_true] at hok'
        obtain ⟨N, hN⟩ := hG g.1 (blt_lt (hok'.2 g hg))
        split at h1
        · rename_i cs e wr hget
          simp only [Bool.and_eq_true] at h1
          have he := Nat.eq_of_beq_eq_true h1.1
          have hcs := AV.sameL_eq _ _ h1.2
          subst he; subst hcs
          obtain ⟨ob, k1, k2, _⟩ := hr.objs _ _ hget _ _ hN
          cases ob with
          | cells c e' fr =>
            obtain ⟨rfl, ⟨l, hl, hq⟩, _⟩ := k2
            rw [concL_strs] at hl
            cases hl
            have : c = (strsV g.2.2).toArray := by apply Array.toList_inj.1; simpa using hq
            subst this
            exact ⟨fr, k1⟩
          | _ => exact k2.elim
        · cases h1
      refine (closed_sound hE hm hok hrun hgl r).mono ?_
      rintro x w' ⟨rfl, g⟩
      exact ⟨ρ, .refl ρ, hr.grown g, rfl⟩
  · cases h

/-! ### Functions of flat values -/
def AV.flat : AV → Bool
  | .bool _ => true
  | .int _ _ => true
  | .str _ => true
  | _ => false
def flatL : List AV → Bool
  | [] => true
  | v :: r => v.flat && flatL r

theorem flat_conc {v : AV} (h : v.flat = true) (ρ ρ' : Rho) : conc ρ v = conc ρ' v := by
  cases v <;> first | rfl | simp [AV.flat] at h
theorem flatL_conc (ρ ρ' : Rho) : ∀ {l : List AV}, flatL l = true → concL ρ l = concL ρ' l
  | [], _ => rfl
  | v :: r, h => by
    simp only [flatL, Bool.and_eq_true] at h
    simp only [concL, flat_conc h.1 ρ ρ', flatL_conc ρ ρ' h.2]

theorem pure_hook (hE : EnvOK E) (hm : E.P.follows .mixedOrders = true) {f : FuncId} {h : Hook} (hG16 : Nat.ble E.G 1024 = true)
    (hh : ∀ args σ v σ', h args σ = some (v, σ') → σ' = σ ∧ flatL args = true ∧ v.flat = true ∧ ∃ n, (callF E (exec E n) f args (heap0 E.G [])).map Prod.fst = some v) : HookOK E f h := by
  intro B w0 w ρ σ σ' r args xs v h1 hr hG hx
  obtain ⟨rfl, ha, hv, n, hc⟩ := hh args σ v σ' h1
  cases hcc : callF E (exec E n) f args (heap0 E.G []) with
  | none => rw [hcc] at hc; cases hc
  | some q =>
    obtain ⟨v1, σ1⟩ := q
    rw [hcc] at hc
    simp only [Option.map_some, Option.some.injEq] at hc
    subst hc
    have hok : globsOK E.G [] = true := by simp [globsOK, hG16]
    have hx0 : concL (rho0 E.G) args = some xs := by rw [flatL_conc (rho0 E.G) ρ ha]; exact hx
    refine (callF_sound (r := r) hE (exec_sound hE hm n) hcc (rel0 (w := w) hok (fun g hg => by cases hg)) gr0 hx0).mono ?_
    rintro x w' ⟨ρ', l1, l2, l3⟩
    exact ⟨ρ, .refl ρ, hr.grown ⟨l2.os, l2.tape, l2.output, l2.size, l2.low⟩, by rw [flat_conc hv ρ ρ']; exact l3⟩

theorem envOK_of {P : Program} {G : Nat} {hooks : FuncId → Option Hook} (hn : (P.funcs.all fun fn => fn.body.isNone || !(fn.name == "runtime.NumGoroutine")) = true) (hh : ∀ f h, hooks f = some h → HookOK ⟨P, G, hooks⟩ f h) : EnvOK ⟨P, G, hooks⟩ := by
  refine ⟨fun f fn hf hb => ?_, hh⟩
  have hl := (Array.getElem?_eq_some_iff.1 hf)
  obtain ⟨hlt, he⟩ := hl
  have := Array.all_eq_true.1 hn f hlt
  rw [he] at this
  have hnone : fn.body.isNone = false := by cases h : fn.body <;> simp_all
  rw [hnone] at this
  simpa using this

/-- A contract does not hang on the hooks that stand beside it. -/
theorem HookOK.env {P : Program} {G : Nat} {hk hk' : FuncId → Option Hook} {f : FuncId} {h : Hook} (k : HookOK ⟨P, G, hk⟩ f h) : HookOK ⟨P, G, hk'⟩ f h := k

/-- A table of contracts. -/
def hookAt : List (FuncId × Hook) → FuncId → Option Hook
  | [], _ => none
  | p :: r, f => cond (Nat.beq f p.1) (some p.2) (hookAt r f)
theorem hookAt_ok {P : Program} {G : Nat} {hk : FuncId → Option Hook} : ∀ {l : List (FuncId × Hook)}, (∀ p ∈ l, HookOK ⟨P, G, hk⟩ p.1 p.2) → ∀ f h, hookAt l f = some h → HookOK ⟨P, G, hk⟩ f h
  | [], _, _, _, h => by cases h
  | p :: r, hl, f, h, e => by
    simp only [hookAt] at e
    cases hb : Nat.beq f p.1 with
    | true =>
      rw [hb] at e
      simp only [cond, Option.some.injEq] at e
      subst e
      rw [Nat.eq_of_beq_eq_true hb]
      exact hl p (by simp)
    | false => rw [hb] at e; exact hookAt_ok (fun p hp => hl p (List.mem_cons_of_mem _ hp)) f h e

#print axioms hTrue_ok
#print axioms pure_hook
end
end Go.Det
