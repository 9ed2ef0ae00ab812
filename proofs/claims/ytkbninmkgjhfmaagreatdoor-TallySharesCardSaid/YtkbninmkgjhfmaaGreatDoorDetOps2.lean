/- Operations: two operands, slices, maps: what the evaluator does stands for what the model does. Conditions: none. -/
import Derived.Test.YtkbninmkgjhfmaaGreatDoorDetOps1
import Derived.WalkSpells
set_option maxHeartbeats 400000
namespace Go.Det
open Go
section
variable {P : Program} {B : Nat → Prop} {w0 w : World} {ρ : Rho} {σ σ' : AS}

/-- An operation of the model, done: its value stands for the evaluator's, its world for the evaluator's heap. -/
def OpR (P : Program) (B : Nat → Prop) (w0 : World) (s : Sem Next) (ρ : Rho) (w : World) (v : AV) (σ' : AS) : Prop :=
  ∃ x w' ρ', (s.run P w = .ok (.value x) w' ∨ (s.run P w = .ok .skip w' ∧ x = undef)) ∧ ρ.Le ρ' ∧ Rel B w0 ρ' σ' w' ∧ conc ρ' v = some x

/-- The same of an operation that gives a value. -/
def VR (P : Program) (B : Nat → Prop) (w0 : World) (s : Sem Value) (ρ : Rho) (w : World) (v : AV) (σ' : AS) : Prop :=
  ∃ x w' ρ', s.run P w = .ok x w' ∧ ρ.Le ρ' ∧ Rel B w0 ρ' σ' w' ∧ conc ρ' v = some x

theorem VR.pure {s : Sem Value} {v : AV} {x : Value} (h : s.run P w = .ok x w) (hr : Rel B w0 ρ σ w) (hv : conc ρ v = some x) : VR P B w0 s ρ w v σ := ⟨x, w, ρ, h, .refl ρ, hr, hv⟩

theorem VR.op {s : Sem Value} {v : AV} (h : VR P B w0 s ρ w v σ') : OpR P B w0 (do Pure.pure (Next.value (← s))) ρ w v σ' := by
  obtain ⟨x, w', ρ', h1, h2, h3, h4⟩ := h
  exact ⟨x, w', ρ', .inl (by simp [h1]), h2, h3, h4⟩

theorem bytes_append (x y : List UInt8) : (⟨x.toArray⟩ : ByteArray) ++ ⟨y.toArray⟩ = ⟨(x ++ y).toArray⟩ := by
  apply ByteArray.ext
  simp [ByteArray.data_append]

theorem bytes_size (x : List UInt8) : (⟨x.toArray⟩ : ByteArray).size = x.length := by simp [ByteArray.size]

theorem binInt_sound {op : BinOp} {k : IntKind} {a b : Int} {v : AV} (h : binInt op k a b = some v) (hs : op ≠ .shl ∧ op ≠ .shr) (t : TypeId) (w : World) :
    ∃ x, conc ρ v = some x ∧ (binOp op t (.int k a) (.int k b)).run P w = .ok x w := by
  cases op <;> simp only [binInt] at h
  case shl => exact absurd rfl hs.1
  case shr => exact absurd rfl hs.2
  case quo => split at h <;> cases h; exact ⟨_, rfl, by simp [binOp, Op.intDiv, *]⟩
  case rem => split at h <;> cases h; exact ⟨_, rfl, by simp [binOp, Op.intDiv, *]⟩
  all_goals (try cases h)
  all_goals exact ⟨_, rfl, by simp [binOp, Op.intArith, Op.intBits, Op.intCmp]⟩

theorem shInt_sound {op : BinOp} {k k' : IntKind} {a b : Int} {v : AV} (h : shInt op k a b = some v) (hs : op = .shl ∨ op = .shr) (t : TypeId) (w : World) :
    ∃ x, conc ρ v = some x ∧ (binOp op t (.int k a) (.int k' b)).run P w = .ok x w := by
  unfold shInt at h
  split at h
  · cases h
  · rename_i hb
    rcases hs with rfl | rfl <;> simp only [Option.some.injEq] at h <;> subst h <;> exact ⟨_, rfl, by simp [binOp, Op.shift, hb]⟩

theorem i64max : IntKind.i64.max = 9223372036854775807 := by decide

theorem binStr_sound {op : BinOp} {a b : List UInt8} {v : AV} (h : binStr op a b = some v) (t : TypeId) (w : World) :
    ∃ x, conc ρ v = some x ∧ (binOp op t (.string ⟨a.toArray⟩) (.string ⟨b.toArray⟩)).run P w = .ok x w := by
  cases op <;> simp only [binStr] at h
  case add =>
    split at h
    · cases h
    · rename_i hn
      cases h
      refine ⟨_, rfl, ?_⟩
      simp only [binOp, Op.stringOp, bytes_size, i64max]
      rw [if_neg hn, bytes_append]
      rfl
  all_goals (try cases h)
  all_goals exact ⟨_, rfl, by simp [binOp, Op.stringOp]⟩

theorem eqGuard_plain {op : BinOp} {t : TypeId} {x y : Operand} {a b : Value} (h1 : ∀ l m, ¬ (a = .agg l ∧ b = .agg m)) (h2 : ¬ (a = .nilIface ∧ b = .nilIface)) (w : World) :
    (eqGuard op t x y a b).run P w = .ok () w := by
  have key : (match a, b with
      | .nilIface, .nilIface => (if ((x matches .const _) || (y matches .const _)) = true then Pure.pure () else do
          if ← Op.eqGuardIn Op.maxDepth t a b then unsupported (.noEntry "binop/eql: two nil values of an interface type with methods, neither of them the literal nil") else Pure.pure () : Sem Unit)
      | .agg _, .agg _ => (do
          let p ← program
          let q ← program
          if (!p.eqGuardType q.depth t) = true then Pure.pure () else do
            if ← Op.eqGuardIn Op.maxDepth t a b then unsupported (.noEntry "binop/eql: two nil values of an interface type with methods, in a part of a struct or an array") else Pure.pure ())
      | _, _ => Pure.pure ()).run P w = .ok () w := by
    cases a <;> cases b <;> first | rfl | exact absurd ⟨rfl, rfl⟩ h2 | exact absurd ⟨rfl, rfl⟩ (h1 _ _)
  unfold eqGuard
  cases op <;> first | rfl | exact key

theorem eqGuard_const {op : BinOp} {t : TypeId} {ox oy : Operand} (hc : (Operand.isConst' ox || Operand.isConst' oy) = true) (w : World) :
    (eqGuard op t ox oy .nilIface .nilIface).run P w = .ok () w := by
  unfold eqGuard
  cases op <;> first | rfl | (cases ox <;> cases oy <;> first | rfl | (simp [Operand.isConst'] at hc; done))

theorem run_eql_of {t : TypeId} {X Y : Value} {r : Bool} (h : (Op.equalIn 10000 t X Y).run P w = .ok r w) (hi : ∀ k n, X ≠ .int k n) (hs : ∀ s, X ≠ .string s) (hp : ∀ k a, X ≠ .float k a) (hc : ∀ k a b, X ≠ .complex k a b) :
    (binOp .eql t X Y).run P w = .ok (.bool r) w ∧ (binOp .neq t X Y).run P w = .ok (.bool !r) w := by
  cases X <;> first | exact absurd rfl (hi _ _) | exact absurd rfl (hs _) | exact absurd rfl (hp _ _) | exact absurd rfl (hc _ _ _) | skip
  all_goals constructor <;> cases Y <;> simp [binOp, Op.equal, Op.maxDepth, h]

theorem binA_sound {op : BinOp} {t : TypeId} {ox oy : Operand} {x y v : AV} {X Y : Value} (h : binA P op t (Operand.isConst' ox) (Operand.isConst' oy) x y = some v)
    (hx : conc ρ x = some X) (hy : conc ρ y = some Y) (w : World) : ∃ z, conc ρ v = some z ∧ (do eqGuard op t ox oy X Y; binOp op t X Y : Sem Value).run P w = .ok z w := by
  have fin : ∀ {z}, (eqGuard op t ox oy X Y).run P w = .ok () w → (binOp op t X Y).run P w = .ok z w → (do eqGuard op t ox oy X Y; binOp op t X Y : Sem Value).run P w = .ok z w := fun h1 h2 => by
    simp [h1, h2]
  have eqs : ∀ {r : Bool} {d : Nat}, d ≤ 10000 → eqAV P d t x y = some r → (Op.equalIn 10000 t X Y).run P w = .ok r w := fun {r d} hd he => by
    have := eq_sound d he hx hy (10000 - d) w
    rwa [show d + (10000 - d) = 10000 by omega] at this
  unfold binA at h
  split at h
  · -- numbers
    rename_i k a k' b
    cases conc_int hx; cases conc_int hy
    split at h
    · obtain ⟨z, h1, h2⟩ := shInt_sound (ρ := ρ) (P := P) (k' := k') h (.inl rfl) t w
      exact ⟨z, h1, fin (eqGuard_plain (by simp) (by simp) w) h2⟩
    · obtain ⟨z, h1, h2⟩ := shInt_sound (ρ := ρ) (P := P) (k' := k') h (.inr rfl) t w
      exact ⟨z, h1, fin (eqGuard_plain (by simp) (by simp) w) h2⟩
    · rename_i n1 n2
      split at h
      · rename_i he
        subst he
        obtain ⟨z, h1, h2⟩ := binInt_sound (ρ := ρ) (P := P) h ⟨n1, n2⟩ t w
        exact ⟨z, h1, fin (eqGuard_plain (by simp) (by simp) w) h2⟩
      · cases h
  · -- texts
    cases conc_str hx; cases conc_str hy
    obtain ⟨z, h1, h2⟩ := binStr_sound (ρ := ρ) (P := P) h t w
    exact ⟨z, h1, fin (eqGuard_plain (by simp) (by simp) w) h2⟩
  · -- nil and nil
    cases conc_nilIface hx; cases conc_nilIface hy
    have hg := fun hc => eqGuard_const (P := P) (op := op) (t := t) (ox := ox) (oy := oy) hc w
    split at h
    · cases hc : (Operand.isConst' ox || Operand.isConst' oy) with
      | false => rw [hc] at h; cases h
      | true =>
        rw [hc] at h
        simp only [cond] at h
        cases he : eqAV P 3 t .nilIface .nilIface with
        | none => rw [he] at h; cases h
        | some r =>
          rw [he] at h
          cases h
          exact ⟨_, rfl, fin (hg hc) (run_eql_of (eqs (by decide) he) (by simp) (by simp) (by simp) (by simp)).1⟩
    · cases hc : (Operand.isConst' ox || Operand.isConst' oy) with
      | false => rw [hc] at h; cases h
      | true =>
        rw [hc] at h
        simp only [cond] at h
        cases he : eqAV P 3 t .nilIface .nilIface with
        | none => rw [he] at h; cases h
        | some r =>
          rw [he] at h
          cases h
          exact ⟨_, rfl, fin (hg hc) (run_eql_of (eqs (by decide) he) (by simp) (by simp) (by simp) (by simp)).2⟩
    · cases h
  · -- structs
    obtain ⟨lx, _, rfl⟩ := conc_agg hx
    obtain ⟨ly, _, rfl⟩ := conc_agg hy
    cases hq : P.eqGuardType P.depth t with
    | true => rw [hq] at h; cases h
    | false =>
      rw [hq] at h
      simp only [cond] at h
      have hg := run_eqGuard_agg (P := P) w op t ox oy lx.toArray ly.toArray hq
      split at h
      · cases he : eqAV P 4 t _ _ with
        | none => rw [he] at h; cases h
        | some r =>
          rw [he] at h
          cases h
          exact ⟨_, rfl, fin hg (run_eql_of (eqs (by decide) he) (by simp) (by simp) (by simp) (by simp)).1⟩
      · cases he : eqAV P 4 t _ _ with
        | none => rw [he] at h; cases h
        | some r =>
          rw [he] at h
          cases h
          exact ⟨_, rfl, fin hg (run_eql_of (eqs (by decide) he) (by simp) (by simp) (by simp) (by simp)).2⟩
      · cases h
  · -- all else
    rename_i n1 n2 n3 n4
    cases hq : x.eqable with
    | false => rw [hq] at h; cases h
    | true =>
    rw [hq] at h
    simp only [cond] at h
    have hplain : (∀ k n, X ≠ .int k n) ∧ (∀ s, X ≠ .string s) ∧ (∀ k a, X ≠ .float k a) ∧ (∀ k a b, X ≠ .complex k a b) ∧ (∀ l m, ¬ (X = .agg l ∧ Y = .agg m)) ∧ ¬ (X = .nilIface ∧ Y = .nilIface) := by
      cases x with
      | int k n => cases hq
      | str s => cases hq
      | agg cs => cases hq
      | tuple cs => cases hq
      | ann v' tag => cases hq
      | nilIface =>
        cases conc_nilIface hx
        refine ⟨by simp, by simp, by simp, by simp, by simp, ?_⟩
        rintro ⟨_, rfl⟩
        cases y with
        | nilIface => exact n3 rfl rfl
        | bool b => cases conc_bool hy
        | int k n => cases conc_int hy
        | str s => cases conc_str hy
        | agg cs => obtain ⟨_, _, e⟩ := conc_agg hy; cases e
        | tuple cs => obtain ⟨_, _, e⟩ := conc_tuple hy; cases e
        | ptr a =>
          cases a with
          | none => cases conc_nil hy
          | some p => obtain ⟨c, N, _, e⟩ := conc_ptr (i := p.1) (o := p.2) hy; cases e
        | slice a l c q => obtain ⟨_, _, e, _⟩ := conc_slice_any hy; cases e
        | eslice i o alt skip q => obtain ⟨_, _, _, h2⟩ := conc_eslice hy; rcases h2 with ⟨_, e⟩ | ⟨_, e⟩ <;> cases e
        | map a =>
          cases a with
          | none => cases conc_mapNil hy
          | some p => obtain ⟨c, N, _, e⟩ := conc_map hy; cases e
        | func fn a b => obtain ⟨_, _, _, _, _, _, e⟩ := conc_func hy; cases e
        | nilFunc => cases conc_nilFunc hy
        | iface t' v' => obtain ⟨_, _, e⟩ := conc_iface hy; cases e
        | ann v' tag => obtain ⟨_, _, e⟩ := annP_int (conc_ann hy).2; cases e
      | bool b => cases conc_bool hx; simp
      | ptr a =>
        cases a with
        | none => cases conc_nil hx; simp
        | some p => obtain ⟨c, N, _, rfl⟩ := conc_ptr (i := p.1) (o := p.2) hx; simp
      | slice a l c q => obtain ⟨_, _, rfl, _⟩ := conc_slice_any hx; simp
      | eslice i o alt skip q => obtain ⟨_, _, _, h2⟩ := conc_eslice hx; rcases h2 with ⟨_, rfl⟩ | ⟨_, rfl⟩ <;> simp
      | map a =>
        cases a with
        | none => cases conc_mapNil hx; simp
        | some p => obtain ⟨c, N, _, rfl⟩ := conc_map hx; simp
      | func fn a b => obtain ⟨_, _, _, _, _, _, rfl⟩ := conc_func hx; simp
      | nilFunc => cases conc_nilFunc hx; simp
      | iface t' v' => obtain ⟨_, _, rfl⟩ := conc_iface hx; simp
    split at h
    · cases he : eqAV P 3 t x y with
      | none => rw [he] at h; cases h
      | some r =>
        rw [he] at h
        cases h
        obtain ⟨p1, p2, p3, p4, p5, p6⟩ := hplain
        exact ⟨_, rfl, fin (eqGuard_plain p5 p6 w) (run_eql_of (eqs (by decide) he) p1 p2 p3 p4).1⟩
    · cases he : eqAV P 3 t x y with
      | none => rw [he] at h; cases h
      | some r =>
        rw [he] at h
        cases h
        obtain ⟨p1, p2, p3, p4, p5, p6⟩ := hplain
        exact ⟨_, rfl, fin (eqGuard_plain p5 p6 w) (run_eql_of (eqs (by decide) he) p1 p2 p3 p4).2⟩
    · cases h
end
end Go.Det
