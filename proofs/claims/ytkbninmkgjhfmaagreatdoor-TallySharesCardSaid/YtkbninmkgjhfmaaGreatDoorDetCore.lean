/- A deterministic reading of the model: abstract values, an abstract heap, and how they stand for a world. Conditions: none; definitions and plain lemmas. -/
import Derived.RangeFuncRecord
import Derived.RangeFuncLeaves
import Derived.OrdersIn
import Derived.Below
import Derived.Lib.BitFns
set_option maxHeartbeats 400000
namespace Go.Det
open Go

/-! ### Trees of depth d, keyed by numbers below 2 ^ d -/
inductive PT (α : Type) where
  | nil
  | leaf (v : α)
  | node (l r : PT α)
  deriving Inhabited

def PT.get {α : Type} : Nat → PT α → Nat → Option α
  | 0, .leaf v, _ => some v
  | d + 1, .node l r, n => cond (Nat.beq (n % 2) 0) (PT.get d l (n / 2)) (PT.get d r (n / 2))
  | _, _, _ => none

def PT.kids {α : Type} : PT α → PT α × PT α
  | .node l r => (l, r)
  | _ => (.nil, .nil)

def PT.set {α : Type} : Nat → PT α → Nat → Option α → PT α
  | 0, _, _, none => .nil
  | 0, _, _, some v => .leaf v
  | d + 1, t, n, v => cond (Nat.beq (n % 2) 0) (.node (PT.set d t.kids.1 (n / 2) v) t.kids.2) (.node t.kids.1 (PT.set d t.kids.2 (n / 2) v))

theorem blt_lt {a b : Nat} (h : Nat.blt a b = true) : a < b := by simpa using h
theorem lt_blt {a b : Nat} (h : a < b) : Nat.blt a b = true := by simpa using h

theorem PT.get_set_same {α : Type} (d : Nat) : ∀ (t : PT α) (n : Nat) (v : Option α), PT.get d (PT.set d t n v) n = v := by
  induction d with
  | zero => intro t n v; cases v <;> rfl
  | succ d ih =>
    intro t n v
    simp only [PT.set]
    cases h : Nat.beq (n % 2) 0 <;> simp only [cond, PT.get, h, ih]

theorem PT.get_kids {α : Type} (d : Nat) (t : PT α) (n : Nat) : PT.get (d + 1) t n = cond (Nat.beq (n % 2) 0) (PT.get d t.kids.1 (n / 2)) (PT.get d t.kids.2 (n / 2)) := by
  cases t with
  | nil => cases d <;> cases Nat.beq (n % 2) 0 <;> rfl
  | leaf v => cases d <;> cases Nat.beq (n % 2) 0 <;> rfl
  | node l r => rfl

theorem PT.get_set_ne {α : Type} (d : Nat) : ∀ (t : PT α) (n m : Nat) (v : Option α), n < 2 ^ d → m < 2 ^ d → n ≠ m → PT.get d (PT.set d t n v) m = PT.get d t m := by
  induction d with
  | zero => intro t n m v hn hm hne; omega
  | succ d ih =>
    intro t n m v hn hm hne
    have h2 : 2 ^ (d + 1) = 2 * 2 ^ d := by rw [Nat.pow_succ]; omega
    rw [PT.get_kids d t m]
    have b0 : ∀ k : Nat, k % 2 = 0 → Nat.beq (k % 2) 0 = true := fun k e => by rw [e]; rfl
    have b1 : ∀ k : Nat, k % 2 = 1 → Nat.beq (k % 2) 0 = false := fun k e => by rw [e]; rfl
    simp only [PT.set]
    rcases Nat.mod_two_eq_zero_or_one n with e | e <;> rcases Nat.mod_two_eq_zero_or_one m with e' | e'
    · simp only [b0 n e, cond, PT.get, b0 m e']
      exact ih _ _ _ _ (by omega) (by omega) (by omega)
    · simp only [b0 n e, cond, PT.get, b1 m e']
    · simp only [b1 n e, cond, PT.get, b0 m e']
    · simp only [b1 n e, cond, PT.get, b1 m e']
      exact ih _ _ _ _ (by omega) (by omega) (by omega)

theorem PT.get_nil {α : Type} (d n : Nat) : PT.get d (.nil : PT α) n = none := by cases d <;> rfl

/-! ### Values -/
inductive AV where
  | bool (b : Bool)
  | int (k : IntKind) (n : Int)
  | str (s : List UInt8)
  | ptr (a : Option (Nat × Nat))
  | slice (a : Option (Nat × Nat)) (len cap : Nat) (opn : Bool)
  | eslice (i o alt skip : Nat) (full : Bool)
  | map (r : Option Nat)
  | func (fn : Fn) (first captured : List AV)
  | nilFunc
  | iface (t : TypeId) (v : AV)
  | nilIface
  | agg (cs : List AV)
  | tuple (vs : List AV)
  | ann (v : AV) (tag : Nat)
  deriving Inhabited

/-- What an annotated number is known for: how many bits it has; it is a uint64's. -/
def annP (tag : Nat) : Value → Bool
  | .int _ n => Nat.beq (Lib.bitLen n.toNat) tag && decide (0 ≤ n) && decide (n < 18446744073709551616)
  | _ => false

/-- Where the evaluator's blocks lie; and the number that its next block gets. -/
structure Rho where
  f : Nat → Option (Nat × Nat)
  n : Nat
instance : CoeFun Rho fun _ => Nat → Option (Nat × Nat) := ⟨Rho.f⟩

def concFn (ρ : Rho) : Fn → Option Fn
  | .yield l => (ρ l).map fun p => .yield p.1
  | f => some f

def concS (a : Addr) (l c : Nat) (q : Bool) (N : Nat) : Option Value :=
  if q then (if l + c ≤ N then some (.slice (some a) l (N - c)) else none) else some (.slice (some a) l c)

/-- An empty slice cut off the end of a row with room: where it lies hangs on whether the room is used up. -/
def concZ (b o alt skip N : Nat) (full : Bool) : Option Value :=
  if skip < N then some (.slice (some ⟨b, o, none⟩) 0 (if full then N - skip else 0)) else if skip = N then some (.slice (some ⟨b, alt, none⟩) 0 0) else none

mutual
def conc (ρ : Rho) : AV → Option Value
  | .bool b => some (.bool b)
  | .int k n => some (.int k n)
  | .str s => some (.string ⟨s.toArray⟩)
  | .ptr none => some (.pointer none)
  | .ptr (some (i, o)) => (ρ i).map fun p => .pointer (some ⟨p.1, o, none⟩)
  | .slice none l c q => if q then none else some (.slice none l c)
  | .slice (some (i, o)) l c q => (ρ i).bind fun p => concS ⟨p.1, o, none⟩ l c q p.2
  | .eslice i o alt skip q => (ρ i).bind fun p => concZ p.1 o alt skip p.2 q
  | .map none => some (.map none)
  | .map (some i) => (ρ i).map fun p => .map (some p.1)
  | .func fn a b => (concFn ρ fn).bind fun f => (concL ρ a).bind fun x => (concL ρ b).map fun y => .func f x.toArray y.toArray
  | .nilFunc => some .nilFunc
  | .iface t v => (conc ρ v).map (.iface t)
  | .nilIface => some .nilIface
  | .agg cs => (concL ρ cs).map fun x => .agg x.toArray
  | .tuple cs => (concL ρ cs).map fun x => .tuple x.toArray
  | .ann v tag => (conc ρ v).bind fun x => if annP tag x = true then some x else none
def concL (ρ : Rho) : List AV → Option (List Value)
  | [] => some []
  | v :: r => (conc ρ v).bind fun x => (concL ρ r).map fun y => x :: y
end

structure Rho.Le (ρ ρ' : Rho) : Prop where
  app : ∀ i p, ρ i = some p → ρ' i = some p
  le : ρ.n ≤ ρ'.n
  old : ∀ i, i < ρ.n → ρ' i = ρ i
instance {ρ ρ' : Rho} : CoeFun (ρ.Le ρ') fun _ => ∀ i p, ρ i = some p → ρ' i = some p := ⟨Rho.Le.app⟩
theorem Rho.Le.refl (ρ : Rho) : ρ.Le ρ := ⟨fun _ _ h => h, Nat.le_refl _, fun _ _ => rfl⟩
theorem Rho.Le.trans {a b c : Rho} (h : a.Le b) (k : b.Le c) : a.Le c :=
  ⟨fun i p e => k i p (h i p e), Nat.le_trans h.le k.le, fun i hi => (k.old i (Nat.lt_of_lt_of_le hi h.le)).trans (h.old i hi)⟩

/-- What is known stays known. -/
def Rho.Sub (ρ ρ' : Rho) : Prop := ∀ i p, ρ i = some p → ρ' i = some p
theorem Rho.Le.sub {ρ ρ' : Rho} (h : ρ.Le ρ') : ρ.Sub ρ' := h.app

theorem concFn_sub {ρ ρ' : Rho} (h : ρ.Sub ρ') {f : Fn} {g : Fn} (e : concFn ρ f = some g) : concFn ρ' f = some g := by
  cases f with
  | yield l =>
    simp only [concFn] at e ⊢
    cases hl : ρ l with
    | none => rw [hl] at e; cases e
    | some p => rw [h l p hl]; rw [hl] at e; exact e
  | _ => exact e

mutual
theorem conc_sub {ρ ρ' : Rho} (h : ρ.Sub ρ') : ∀ (v : AV) (x : Value), conc ρ v = some x → conc ρ' v = some x
  | .bool _, _, e => e
  | .int _ _, _, e => e
  | .str _, _, e => e
  | .ptr none, _, e => e
  | .ptr (some (i, o)), x, e => by
    simp only [conc] at e ⊢
    cases hl : ρ i with
    | none => rw [hl] at e; cases e
    | some p => rw [h i p hl]; rw [hl] at e; exact e
  | .slice none _ _ _, _, e => e
  | .slice (some (i, o)) l c q, x, e => by
    simp only [conc] at e ⊢
    cases hl : ρ i with
    | none => rw [hl] at e; cases e
    | some p => rw [h i p hl]; rw [hl] at e; exact e
  | .eslice i o alt skip q, x, e => by
    simp only [conc] at e ⊢
    cases hl : ρ i with
    | none => rw [hl] at e; cases e
    | some p => rw [h i p hl]; rw [hl] at e; exact e
  | .map none, _, e => e
  | .map (some i), x, e => by
    simp only [conc] at e ⊢
    cases hl : ρ i with
    | none => rw [hl] at e; cases e
    | some p => rw [h i p hl]; rw [hl] at e; exact e
  | .func fn a b, x, e => by
    simp only [conc] at e ⊢
    cases h1 : concFn ρ fn with
    | none => rw [h1] at e; cases e
    | some f =>
      cases h2 : concL ρ a with
      | none => rw [h1, h2] at e; cases e
      | some xs =>
        cases h3 : concL ρ b with
        | none => rw [h1, h2, h3] at e; cases e
        | some ys => rw [concFn_sub h h1, concL_sub h a xs h2, concL_sub h b ys h3]; rw [h1, h2, h3] at e; exact e
  | .nilFunc, _, e => e
  | .iface t v, x, e => by
    simp only [conc] at e ⊢
    cases h1 : conc ρ v with
    | none => rw [h1] at e; cases e
    | some y => rw [conc_sub h v y h1]; rw [h1] at e; exact e
  | .nilIface, _, e => e
  | .agg cs, x, e => by
    simp only [conc] at e ⊢
    cases h1 : concL ρ cs with
    | none => rw [h1] at e; cases e
    | some y => rw [concL_sub h cs y h1]; rw [h1] at e; exact e
  | .tuple cs, x, e => by
    simp only [conc] at e ⊢
    cases h1 : concL ρ cs with
    | none => rw [h1] at e; cases e
    | some y => rw [concL_sub h cs y h1]; rw [h1] at e; exact e
  | .ann v tag, x, e => by
    simp only [conc] at e ⊢
    cases h1 : conc ρ v with
    | none => rw [h1] at e; cases e
    | some y => rw [conc_sub h v y h1]; rw [h1] at e; exact e
theorem concL_sub {ρ ρ' : Rho} (h : ρ.Sub ρ') : ∀ (l : List AV) (x : List Value), concL ρ l = some x → concL ρ' l = some x
  | [], _, e => e
  | v :: r, x, e => by
    simp only [concL] at e ⊢
    cases h1 : conc ρ v with
    | none => rw [h1] at e; cases e
    | some y =>
      cases h2 : concL ρ r with
      | none => rw [h1, h2] at e; cases e
      | some ys => rw [conc_sub h v y h1, concL_sub h r ys h2]; rw [h1, h2] at e; exact e
end

theorem conc_mono {ρ ρ' : Rho} (h : ρ.Le ρ') (v : AV) (x : Value) (e : conc ρ v = some x) : conc ρ' v = some x := conc_sub h.sub v x e
theorem concL_mono {ρ ρ' : Rho} (h : ρ.Le ρ') (l : List AV) (x : List Value) (e : concL ρ l = some x) : concL ρ' l = some x := concL_sub h.sub l x e

/-- Without the annotation. -/
def AV.bare : AV → AV
  | .ann v _ => v
  | v => v
theorem conc_ann {ρ : Rho} {v : AV} {tag : Nat} {x : Value} (h : conc ρ (.ann v tag) = some x) : conc ρ v = some x ∧ annP tag x = true := by
  simp only [conc] at h
  cases h1 : conc ρ v with
  | none => rw [h1] at h; cases h
  | some y =>
    rw [h1] at h
    simp only [Option.bind_some] at h
    split at h
    · rename_i hp; cases h; exact ⟨rfl, hp⟩
    · cases h
theorem conc_bare {ρ : Rho} {v : AV} {x : Value} (h : conc ρ v = some x) : conc ρ v.bare = some x := by
  cases v <;> first | exact h | exact (conc_ann h).1
theorem annP_int {tag : Nat} {x : Value} (h : annP tag x = true) : ∃ k n, x = .int k n := by
  cases x <;> first | exact ⟨_, _, rfl⟩ | simp [annP] at h

/-! lists of values -/
theorem concL_cons {ρ : Rho} {v : AV} {r : List AV} {l : List Value} (h : concL ρ (v :: r) = some l) : ∃ x y, conc ρ v = some x ∧ concL ρ r = some y ∧ l = x :: y := by
  simp only [concL] at h
  cases h1 : conc ρ v with
  | none => rw [h1] at h; cases h
  | some x =>
    cases h2 : concL ρ r with
    | none => rw [h1, h2] at h; cases h
    | some y => rw [h1, h2] at h; exact ⟨x, y, rfl, rfl, (Option.some.inj h).symm⟩

theorem concL_mk {ρ : Rho} {v : AV} {r : List AV} {x : Value} {y : List Value} (h1 : conc ρ v = some x) (h2 : concL ρ r = some y) : concL ρ (v :: r) = some (x :: y) := by
  simp only [concL, h1, h2, Option.bind_some, Option.map_some]

theorem concL_length {ρ : Rho} : ∀ {a : List AV} {l : List Value}, concL ρ a = some l → l.length = a.length
  | [], l, h => by simp only [concL, Option.some.injEq] at h; subst h; rfl
  | v :: r, l, h => by obtain ⟨x, y, _, h2, rfl⟩ := concL_cons h; simp [concL_length h2]

theorem concL_append {ρ : Rho} : ∀ {a b : List AV} {x y : List Value}, concL ρ a = some x → concL ρ b = some y → concL ρ (a ++ b) = some (x ++ y)
  | [], b, x, y, h, k => by simp only [concL, Option.some.injEq] at h; subst h; exact k
  | v :: r, b, x, y, h, k => by obtain ⟨u, z, h1, h2, rfl⟩ := concL_cons h; exact concL_mk h1 (concL_append h2 k)

theorem concL_take {ρ : Rho} : ∀ (n : Nat) {a : List AV} {x : List Value}, concL ρ a = some x → concL ρ (a.take n) = some (x.take n)
  | 0, a, x, _ => by simp [concL]
  | n + 1, [], x, h => by simp only [concL, Option.some.injEq] at h; subst h; simp [concL]
  | n + 1, v :: r, x, h => by obtain ⟨u, z, h1, h2, rfl⟩ := concL_cons h; simp only [List.take_succ_cons]; exact concL_mk h1 (concL_take n h2)

theorem concL_drop {ρ : Rho} : ∀ (n : Nat) {a : List AV} {x : List Value}, concL ρ a = some x → concL ρ (a.drop n) = some (x.drop n)
  | 0, a, x, h => by simpa using h
  | n + 1, [], x, h => by simp only [concL, Option.some.injEq] at h; subst h; simp [concL]
  | n + 1, v :: r, x, h => by obtain ⟨u, z, h1, h2, rfl⟩ := concL_cons h; simpa using concL_drop n h2

theorem concL_get {ρ : Rho} : ∀ (n : Nat) {a : List AV} {x : List Value} {v : AV}, concL ρ a = some x → a[n]? = some v → ∃ u, x[n]? = some u ∧ conc ρ v = some u
  | 0, [], _, _, _, h => by simp at h
  | 0, w :: r, x, v, h, k => by
    obtain ⟨u, z, h1, h2, rfl⟩ := concL_cons h
    simp only [List.getElem?_cons_zero, Option.some.injEq] at k; subst k
    exact ⟨u, by simp, h1⟩
  | n + 1, [], _, _, _, h => by simp at h
  | n + 1, w :: r, x, v, h, k => by
    obtain ⟨u, z, h1, h2, rfl⟩ := concL_cons h
    simp only [List.getElem?_cons_succ] at k ⊢
    exact concL_get n h2 k

theorem concL_set {ρ : Rho} : ∀ (n : Nat) {a : List AV} {x : List Value} {v : AV} {u : Value}, concL ρ a = some x → conc ρ v = some u → concL ρ (a.set n v) = some (x.set n u)
  | _, [], x, v, u, h, _ => by simp only [concL, Option.some.injEq] at h; subst h; simp [concL]
  | 0, w :: r, x, v, u, h, k => by
    obtain ⟨u', z, h1, h2, rfl⟩ := concL_cons h
    simp only [List.set_cons_zero]; exact concL_mk k h2
  | n + 1, w :: r, x, v, u, h, k => by
    obtain ⟨u', z, h1, h2, rfl⟩ := concL_cons h
    simp only [List.set_cons_succ]; exact concL_mk h1 (concL_set n h2 k)

/-! ### Constants -/
mutual
def AV.ofValue : Value → Option AV
  | .bool b => some (.bool b)
  | .int k n => some (.int k n)
  | .string s => some (.str s.data.toList)
  | .pointer none => some (.ptr none)
  | .slice none l c => some (.slice none l c false)
  | .map none => some (.map none)
  | .nilFunc => some .nilFunc
  | .nilIface => some .nilIface
  | .agg cs => (AV.ofArr cs).map .agg
  | .tuple cs => (AV.ofArr cs).map .tuple
  | _ => none
def AV.ofArr : Array Value → Option (List AV)
  | ⟨l⟩ => AV.ofList l
def AV.ofList : List Value → Option (List AV)
  | [] => some []
  | v :: r => (AV.ofValue v).bind fun x => (AV.ofList r).map fun y => x :: y
end

mutual
theorem conc_ofValue (ρ : Rho) : ∀ (v : Value) (a : AV), AV.ofValue v = some a → conc ρ a = some v
  | .bool b, a, h => by simp only [AV.ofValue, Option.some.injEq] at h; subst h; rfl
  | .int k n, a, h => by simp only [AV.ofValue, Option.some.injEq] at h; subst h; rfl
  | .string s, a, h => by simp only [AV.ofValue, Option.some.injEq] at h; subst h; simp [conc]
  | .pointer none, a, h => by simp only [AV.ofValue, Option.some.injEq] at h; subst h; rfl
  | .pointer (some _), a, h => by simp [AV.ofValue] at h
  | .slice none l c, a, h => by simp only [AV.ofValue, Option.some.injEq] at h; subst h; rfl
  | .slice (some _) _ _, a, h => by simp [AV.ofValue] at h
  | .map none, a, h => by simp only [AV.ofValue, Option.some.injEq] at h; subst h; rfl
  | .map (some _), a, h => by simp [AV.ofValue] at h
  | .nilFunc, a, h => by simp only [AV.ofValue, Option.some.injEq] at h; subst h; rfl
  | .nilIface, a, h => by simp only [AV.ofValue, Option.some.injEq] at h; subst h; rfl
  | .agg cs, a, h => by
    simp only [AV.ofValue] at h
    cases e : AV.ofArr cs with
    | none => rw [e] at h; cases h
    | some l =>
      rw [e] at h
      simp only [Option.map_some, Option.some.injEq] at h
      subst h
      simp only [conc, concL_ofArr ρ cs l e, Option.map_some]
  | .tuple cs, a, h => by
    simp only [AV.ofValue] at h
    cases e : AV.ofArr cs with
    | none => rw [e] at h; cases h
    | some l =>
      rw [e] at h
      simp only [Option.map_some, Option.some.injEq] at h
      subst h
      simp only [conc, concL_ofArr ρ cs l e, Option.map_some]
  | .float _ _, a, h => by simp [AV.ofValue] at h
  | .complex _ _ _, a, h => by simp [AV.ofValue] at h
  | .chan _, a, h => by simp [AV.ofValue] at h
  | .func _ _ _, a, h => by simp [AV.ofValue] at h
  | .iface _ _, a, h => by simp [AV.ofValue] at h
theorem concL_ofArr (ρ : Rho) : ∀ (cs : Array Value) (l : List AV), AV.ofArr cs = some l → concL ρ l = some cs.toList
  | ⟨c⟩, l, h => by simp only [AV.ofArr] at h; exact concL_ofList ρ c l h
theorem concL_ofList (ρ : Rho) : ∀ (cs : List Value) (l : List AV), AV.ofList cs = some l → concL ρ l = some cs
  | [], l, h => by simp only [AV.ofList, Option.some.injEq] at h; subst h; rfl
  | v :: r, l, h => by
    simp only [AV.ofList] at h
    cases e : AV.ofValue v with
    | none => rw [e] at h; cases h
    | some x =>
      cases e' : AV.ofList r with
      | none => rw [e, e'] at h; cases h
      | some y =>
        rw [e, e'] at h
        simp only [Option.bind_some, Option.map_some, Option.some.injEq] at h
        subst h
        exact concL_mk (conc_ofValue ρ v x e) (concL_ofList ρ r y e')
end

/-! ### Temporaries -/
structure Tm where
  sz : Nat
  t : PT AV
  deriving Inhabited

def AV.undef : AV := .tuple []
theorem conc_undef (ρ : Rho) : conc ρ AV.undef = some Go.undef := rfl

def tdepth : Nat := 9
def Tm.get (T : Tm) (n : Nat) : AV := (PT.get tdepth T.t n).getD AV.undef
def Tm.set (T : Tm) (n : Nat) (v : AV) : Option Tm := cond (Nat.blt n T.sz && Nat.blt n 512) (some ⟨T.sz, PT.set tdepth T.t n (some v)⟩) none

def TRel (ρ : Rho) (T : Tm) (tmps : Array Value) : Prop := tmps.size = T.sz ∧ ∀ t, t < 512 → conc ρ (T.get t) = some (tmps.getD t undef)

theorem TRel.sub {ρ ρ' : Rho} {T : Tm} {tmps : Array Value} (h : TRel ρ T tmps) (le : ρ.Sub ρ') : TRel ρ' T tmps := ⟨h.1, fun t ht => conc_sub le _ _ (h.2 t ht)⟩
theorem TRel.mono {ρ ρ' : Rho} {T : Tm} {tmps : Array Value} (h : TRel ρ T tmps) (le : ρ.Le ρ') : TRel ρ' T tmps := h.sub le.sub

theorem TRel.set {ρ : Rho} {T T' : Tm} {tmps : Array Value} {n : Nat} {v : AV} {x : Value} (h : TRel ρ T tmps) (hs : T.set n v = some T') (hv : conc ρ v = some x) :
    TRel ρ T' (tmps.setIfInBounds n x) := by
  unfold Tm.set at hs
  cases hc : (Nat.blt n T.sz && Nat.blt n 512) with
  | false => rw [hc] at hs; cases hs
  | true =>
    rw [hc] at hs
    simp only [cond, Option.some.injEq] at hs
    subst hs
    simp only [Bool.and_eq_true, Nat.blt_eq] at hc
    refine ⟨by simp [h.1], fun t ht => ?_⟩
    by_cases e : n = t
    · subst e
      simp only [Tm.get, PT.get_set_same, Option.getD_some]
      rw [hv]
      have : n < tmps.size := by rw [h.1]; exact hc.1
      simp [Array.getD_eq_getD_getElem?, this]
    · have := h.2 t ht
      simp only [Tm.get] at this ⊢
      rw [PT.get_set_ne _ _ _ _ _ hc.2 ht e, this]
      simp [Array.getD_eq_getD_getElem?, Array.getElem?_setIfInBounds_ne e]

/-! ### The heap -/
inductive AObj where
  | cells (cs : List AV) (elem : TypeId) (wr : Bool) (opn : Option Nat)
  | map (es : List (AV × AV × Nat)) (clock : Nat)
  | loop (st : LoopState) (pending : Option Code) (T : Tm) (params : Array Tmp) (assign body : Code) (defers : Nat)
  | deferred (opn : Bool)
  | strIter (s : List UInt8) (pos : Nat)
  | mapIter (m : Option Nat) (since : Nat) (seen : List Nat) (last : Nat)
  deriving Inhabited

def AObj.wr : AObj → Bool
  | .cells _ _ w _ => w
  | _ => true

structure AS where
  heap : PT AObj
  next : Nat
  deriving Inhabited

def hdepth : Nat := 10
def AS.get (σ : AS) (i : Nat) : Option AObj := cond (Nat.blt i 1024) (PT.get hdepth σ.heap i) none
def AS.put (σ : AS) (i : Nat) (o : Option AObj) : AS := ⟨PT.set hdepth σ.heap i o, σ.next⟩
def AS.add (σ : AS) (o : AObj) : Option (Nat × AS) := cond (Nat.blt σ.next 1024) (some (σ.next, ⟨PT.set hdepth σ.heap σ.next (some o), σ.next + 1⟩)) none

theorem AS.get_lt {σ : AS} {i : Nat} {o : AObj} (h : σ.get i = some o) : i < 1024 := by
  unfold AS.get at h
  cases hc : Nat.blt i 1024 with
  | false => rw [hc] at h; cases h
  | true => exact blt_lt hc

theorem AS.get_put_same {σ : AS} {i : Nat} {o : Option AObj} (h : i < 1024) : (σ.put i o).get i = o := by
  have hc : Nat.blt i 1024 = true := lt_blt h
  simp only [AS.get, AS.put, hc, cond, PT.get_set_same]

theorem AS.get_put_ne {σ : AS} {i j : Nat} {o : Option AObj} (h : i < 1024) (hne : i ≠ j) : (σ.put i o).get j = σ.get j := by
  unfold AS.get AS.put
  cases hc : Nat.blt j 1024 with
  | false => rfl
  | true => simp only [cond]; exact PT.get_set_ne _ _ _ _ _ h (blt_lt hc) hne

def concE (ρ : Rho) : List (AV × AV × Nat) → Option (List MapEntry)
  | [] => some []
  | (k, v, n) :: r => (conc ρ k).bind fun x => (conc ρ v).bind fun y => (concE ρ r).map fun z => { key := x, val := y, born := n } :: z

theorem concE_sub {ρ ρ' : Rho} (h : ρ.Sub ρ') : ∀ (l : List (AV × AV × Nat)) (x : List MapEntry), concE ρ l = some x → concE ρ' l = some x
  | [], _, e => e
  | (k, v, n) :: r, x, e => by
    simp only [concE] at e ⊢
    cases h1 : conc ρ k with
    | none => rw [h1] at e; cases e
    | some y =>
      cases h2 : conc ρ v with
      | none => rw [h1, h2] at e; cases e
      | some z =>
        cases h3 : concE ρ r with
        | none => rw [h1, h2, h3] at e; cases e
        | some u => rw [conc_sub h k y h1, conc_sub h v z h2, concE_sub h r u h3]; rw [h1, h2, h3] at e; exact e

/-- No cell of a row of n cells is frozen. -/
def FrFree (fr : Nat × Nat) (n : Nat) : Prop := ∀ o, o < n → ¬ (fr.1 ≤ o ∧ o < fr.2)

def ObjR (ρ : Rho) : AObj → Nat → Obj → Prop
  | .cells cs e wr q, N, .cells c e' fr => e' = e ∧ (∃ l, concL ρ cs = some l ∧ (match q with | none => c.toList = l | some sz => l <+: c.toList ∧ N * sz ≤ c.size ∧ cs.length ≤ N * sz)) ∧ (wr = true → FrFree fr c.size)
  | .map es ck, _, .map en ck' => ck' = ck ∧ concE ρ es = some en.toList
  | .loop st pd T ps as bd d, _, .loop r => r.state = st ∧ r.pending = pd ∧ TRel ρ T r.tmps ∧ r.params = ps ∧ r.assign = as ∧ r.body = bd ∧ ∃ N, ρ d = some (r.defers, N)
  | .deferred b, _, .deferred c => c = cond b (some []) none
  | .strIter s p, _, .stringIter s' p' => s' = ⟨s.toArray⟩ ∧ p' = p
  | .mapIter m si se la, _, .mapIter m' si' se' la' => (match m with | none => m' = none | some i => ∃ b N, ρ i = some (b, N) ∧ m' = some b) ∧ si' = si ∧ se'.toList = se ∧ la' = la
  | _, _, _ => False

theorem ObjR.sub {ρ ρ' : Rho} (h : ρ.Sub ρ') {o : AObj} {N : Nat} {ob : Obj} (k : ObjR ρ o N ob) : ObjR ρ' o N ob := by
  cases o with
  | cells cs e wr q =>
    cases ob with
    | cells c e' fr => obtain ⟨h1, ⟨l, h2, h3⟩, h4⟩ := k; exact ⟨h1, ⟨l, concL_sub h _ _ h2, h3⟩, h4⟩
    | _ => exact k.elim
  | map es ck =>
    cases ob with
    | map en ck' => exact ⟨k.1, concE_sub h _ _ k.2⟩
    | _ => exact k.elim
  | loop st pd T ps as bd d =>
    cases ob with
    | loop r => obtain ⟨h1, h2, h3, h4, h5, h6, N, h7⟩ := k; exact ⟨h1, h2, h3.sub h, h4, h5, h6, N, h d _ h7⟩
    | _ => exact k.elim
  | deferred b =>
    cases ob <;> first | exact k | exact k.elim
  | strIter s p =>
    cases ob <;> first | exact k | exact k.elim
  | mapIter m si se la =>
    cases ob with
    | mapIter m' si' se' la' =>
      obtain ⟨h1, h2⟩ := k
      refine ⟨?_, h2⟩
      cases m with
      | none => exact h1
      | some i => obtain ⟨b, N, h3, h4⟩ := h1; exact ⟨b, N, h i _ h3, h4⟩
    | _ => exact k.elim

theorem ObjR.mono {ρ ρ' : Rho} (h : ρ.Le ρ') {o : AObj} {N : Nat} {ob : Obj} (k : ObjR ρ o N ob) : ObjR ρ' o N ob := k.sub h.sub

/-- The abstract heap stands for a world: over a base world w0, of which no block in B has turned. -/
structure Rel (B : Nat → Prop) (w0 : World) (ρ : Rho) (σ : AS) (w : World) : Prop where
  os : w.os = w0.os
  tape : w.tape = w0.tape
  output : w.output = w0.output
  size : w0.heap.size ≤ w.heap.size
  bsz : ∀ k, B k → k < w.heap.size
  low : ∀ k, B k → w.heap[k]? = w0.heap[k]?
  objs : ∀ i o, σ.get i = some o → ∀ b N, ρ i = some (b, N) → ∃ ob, w.heap[b]? = some ob ∧ ObjR ρ o N ob ∧ (o.wr = true → ¬ B b)
  inj : ∀ i j oi oj b N M, σ.get i = some oi → σ.get j = some oj → ρ i = some (b, N) → ρ j = some (b, M) → i = j
  next : ρ.n = σ.next
  fresh : ∀ i, ρ.n ≤ i → ρ i = none

def Rho.upd (ρ : Rho) (i : Nat) (p : Nat × Nat) : Rho := ⟨fun j => if j = i then some p else ρ j, i + 1⟩
theorem Rho.le_upd {ρ : Rho} {i : Nat} {p : Nat × Nat} (h : ρ i = none) (hi : ρ.n = i) : ρ.Le (ρ.upd i p) := by
  refine ⟨fun j q e => ?_, by rw [hi]; exact Nat.le_succ i, fun j hj => ?_⟩
  · show (if j = i then some p else ρ j) = some q
    by_cases hj : j = i
    · subst hj; rw [h] at e; cases e
    · rw [if_neg hj]; exact e
  · show (if j = i then some p else ρ j) = ρ j
    rw [if_neg (by omega)]
theorem Rho.upd_same {ρ : Rho} {i : Nat} {p : Nat × Nat} : ρ.upd i p i = some p := by simp [Rho.upd]
theorem Rho.upd_ne {ρ : Rho} {i j : Nat} {p : Nat × Nat} (h : j ≠ i) : ρ.upd i p j = ρ j := by simp [Rho.upd, h]

theorem AS.add_next {σ σ' : AS} {o : AObj} {i : Nat} (h : σ.add o = some (i, σ')) : i = σ.next := by
  unfold AS.add at h
  cases hc : Nat.blt σ.next 1024 with
  | false => rw [hc] at h; cases h
  | true => rw [hc] at h; simp only [cond, Option.some.injEq, Prod.mk.injEq] at h; exact h.1.symm

section
variable {B : Nat → Prop} {w0 w : World} {ρ : Rho} {σ σ' : AS}

theorem Rel.drew (h : Rel B w0 ρ σ w) : Rel B w0 ρ σ w.drew := ⟨h.os, h.tape, h.output, h.size, h.bsz, h.low, h.objs, h.inj, h.next, h.fresh⟩

theorem lt_of_heap {w : World} {b : Nat} {ob : Obj} (h : w.heap[b]? = some ob) : b < w.heap.size := (Array.getElem?_eq_some_iff.1 h).1

/-- A new block. -/
theorem Rel.alloc {o : AObj} {ob : Obj} {N i : Nat} (h : Rel B w0 ρ σ w) (ha : σ.add o = some (i, σ')) (ho : ObjR (ρ.upd i (w.heap.size, N)) o N ob) :
    Rel B w0 (ρ.upd i (w.heap.size, N)) σ' (w.alloc ob) ∧ ρ.Le (ρ.upd i (w.heap.size, N)) := by
  unfold AS.add at ha
  cases hc : Nat.blt σ.next 1024 with
  | false => rw [hc] at ha; cases ha
  | true =>
    rw [hc] at ha
    simp only [cond, Option.some.injEq, Prod.mk.injEq] at ha
    obtain ⟨rfl, rfl⟩ := ha
    have hlt : σ.next < 1024 := blt_lt hc
    have hf : ρ σ.next = none := h.fresh _ (by rw [h.next]; exact Nat.le_refl _)
    have hle : ρ.Le (ρ.upd σ.next (w.heap.size, N)) := Rho.le_upd hf h.next
    have hold : ∀ b, b < w.heap.size → (w.alloc ob).heap[b]? = w.heap[b]? := fun b hb => Go.RowKit.Below.heap_alloc w ob b hb
    have hget : ∀ j, j ≠ σ.next → (⟨PT.set hdepth σ.heap σ.next (some o), σ.next + 1⟩ : AS).get j = σ.get j := fun j hj => AS.get_put_ne (σ := σ) (o := some o) hlt (Ne.symm hj)
    have hnew : (⟨PT.set hdepth σ.heap σ.next (some o), σ.next + 1⟩ : AS).get σ.next = some o := AS.get_put_same (σ := σ) (o := some o) hlt
    refine ⟨⟨h.os, h.tape, h.output, by simp; exact Nat.le_succ_of_le h.size, fun k hk => by simp; exact Nat.lt_succ_of_lt (h.bsz k hk),
      fun k hk => by rw [hold k (h.bsz k hk)]; exact h.low k hk, ?_, ?_, rfl, ?_⟩, hle⟩
    · intro j oj hj b M hb
      by_cases e : j = σ.next
      · subst e
        rw [hnew] at hj
        cases hj
        rw [Rho.upd_same] at hb
        cases hb
        exact ⟨ob, World.alloc_heap_new w ob, ho, fun _ hk => Nat.lt_irrefl _ (h.bsz _ hk)⟩
      · rw [hget j e] at hj
        rw [Rho.upd_ne e] at hb
        obtain ⟨ob', h1, h2, h3⟩ := h.objs j oj hj b M hb
        exact ⟨ob', by rw [hold b (lt_of_heap h1)]; exact h1, h2.mono hle, h3⟩
    · intro j k oj ok b M M' hj hk hbj hbk
      by_cases ej : j = σ.next <;> by_cases ek : k = σ.next
      · rw [ej, ek]
      · exfalso
        subst ej
        rw [Rho.upd_same] at hbj
        rw [Rho.upd_ne ek] at hbk
        rw [hget k ek] at hk
        obtain ⟨ob', h1, _⟩ := h.objs k ok hk b M' hbk
        have := lt_of_heap h1
        cases hbj
        omega
      · exfalso
        subst ek
        rw [Rho.upd_same] at hbk
        rw [Rho.upd_ne ej] at hbj
        rw [hget j ej] at hj
        obtain ⟨ob', h1, _⟩ := h.objs j oj hj b M hbj
        have := lt_of_heap h1
        cases hbk
        omega
      · rw [hget j ej] at hj
        rw [hget k ek] at hk
        rw [Rho.upd_ne ej] at hbj
        rw [Rho.upd_ne ek] at hbk
        exact h.inj j k oj ok b M M' hj hk hbj hbk
    · intro j hj
      have : j ≠ σ.next := by have : σ.next + 1 ≤ j := hj; omega
      rw [Rho.upd_ne this]
      exact h.fresh j (by have : σ.next + 1 ≤ j := hj; rw [h.next]; omega)

/-- A block turned in its place. -/
theorem Rel.put {i b N : Nat} {o o' : AObj} {ob' : Obj} {w' : World} (h : Rel B w0 ρ σ w) (hi : σ.get i = some o) (hb : ρ i = some (b, N)) (hw : o.wr = true)
    (ho : ObjR ρ o' N ob') (hos : w'.os = w.os) (htape : w'.tape = w.tape) (hout : w'.output = w.output) (hsz : w'.heap.size = w.heap.size)
    (hnew : w'.heap[b]? = some ob') (hold : ∀ k, k ≠ b → w'.heap[k]? = w.heap[k]?) : Rel B w0 ρ (σ.put i (some o')) w' := by
  have hlt := AS.get_lt hi
  obtain ⟨ob, h1, h2, h3⟩ := h.objs i o hi b N hb
  have hB := h3 hw
  refine ⟨hos.trans h.os, htape.trans h.tape, hout.trans h.output, by rw [hsz]; exact h.size, by rw [hsz]; exact h.bsz,
    fun k hk => by rw [hold k (fun e => hB (e ▸ hk))]; exact h.low k hk, ?_, ?_, h.next, fun j hj => h.fresh j hj⟩
  · intro j oj hj c M hc
    by_cases e : j = i
    · subst e
      rw [AS.get_put_same hlt] at hj
      cases hj
      rw [hb] at hc
      cases hc
      exact ⟨ob', hnew, ho, fun _ => hB⟩
    · rw [AS.get_put_ne hlt (Ne.symm e)] at hj
      obtain ⟨ob'', k1, k2, k3⟩ := h.objs j oj hj c M hc
      refine ⟨ob'', ?_, k2, k3⟩
      rw [hold c ?_]
      · exact k1
      · intro e'
        subst e'
        exact e (h.inj j i oj o c M N hj hi hc hb)
  · intro j k oj ok c M M' hj hk hcj hck
    have lift : ∀ x ox, (σ.put i (some o')).get x = some ox → ∃ ox', σ.get x = some ox' := fun x ox hx => by
      by_cases e : x = i
      · subst e; exact ⟨o, hi⟩
      · rw [AS.get_put_ne hlt (Ne.symm e)] at hx; exact ⟨ox, hx⟩
    obtain ⟨oj', hj'⟩ := lift j oj hj
    obtain ⟨ok', hk'⟩ := lift k ok hk
    exact h.inj j k oj' ok' c M M' hj' hk' hcj hck

/-- A block is forgotten. -/
theorem Rel.kill {i : Nat} (h : Rel B w0 ρ σ w) (hlt : i < 1024) : Rel B w0 ρ (σ.put i none) w := by
  have keep : ∀ x ox, (σ.put i none).get x = some ox → σ.get x = some ox := fun x ox hx => by
    by_cases e : x = i
    · subst e; rw [AS.get_put_same hlt] at hx; cases hx
    · rw [AS.get_put_ne hlt (Ne.symm e)] at hx; exact hx
  exact ⟨h.os, h.tape, h.output, h.size, h.bsz, h.low, fun j oj hj => h.objs j oj (keep j oj hj), fun j k oj ok c M M' hj hk => h.inj j k oj ok c M M' (keep j oj hj) (keep k ok hk), h.next, h.fresh⟩

/-- What is read of a row of cells. -/
theorem Rel.cell {i b N off : Nat} {cs : List AV} {e : TypeId} {wr : Bool} {q : Option Nat} {v : AV} (h : Rel B w0 ρ σ w) (hi : σ.get i = some (.cells cs e wr q)) (hb : ρ i = some (b, N))
    (hv : cs[off]? = some v) : ∃ x, w.cell? ⟨b, off, none⟩ = some x ∧ conc ρ v = some x := by
  obtain ⟨ob, h1, h2, h3⟩ := h.objs i _ hi b N hb
  cases ob with
  | cells c e' fr =>
    obtain ⟨_, ⟨l, hl, hq⟩, _⟩ := h2
    obtain ⟨u, hu, hc⟩ := concL_get off hl hv
    refine ⟨u, ?_, hc⟩
    simp only [World.cell?, h1, Option.isSome_none, Bool.false_eq_true, if_false]
    cases q with
    | none => simp only at hq; rw [← hq] at hu; rw [← Array.getElem?_toList]; exact hu
    | some sz =>
      simp only at hq
      obtain ⟨t, ht⟩ := hq.1
      rw [← Array.getElem?_toList, ← ht]
      rw [List.getElem?_append_left (List.getElem?_eq_some_iff.1 hu).1]
      exact hu
  | _ => exact h2.elim
end
end Go.Det
