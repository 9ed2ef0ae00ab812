/- The tally dump: Tally[int] at key 7: contracts of Add and Of in the kit's form. -/
import Derived.Test.YtkbninmkgjhfmaaGreatDoorShAc
set_option maxHeartbeats 400000
namespace Go.Proofs
open Go Go.Det Go.RowKit
set_option maxRecDepth 100000

/-- A row's cells. -/
structure TRow where
  cnt : Nat
  sum : Nat
  least : Nat
  most : Nat
  cls : Nat → Nat

def m64 (n : Nat) : Nat := n % 18446744073709551616
theorem wrap_m64 (n : Nat) : IntKind.u64.wrap (n : Int) = (m64 n : Int) := by rw [IntKind.wrap_u64]; unfold m64; omega
theorem wrap_add (a b : Nat) : IntKind.u64.wrap ((a : Int) + (b : Int)) = (m64 (a + b) : Int) := by rw [← Int.natCast_add]; exact wrap_m64 _

def TRow.avs (r : TRow) : List AV := rowA r.cnt r.sum r.least r.most fun i => (r.cls i : Int)
def clsV (f : Nat → Int) : Nat → Nat → List Value
  | _, 0 => []
  | i, n + 1 => .int .u64 (f i) :: clsV f (i + 1) n
def TRow.vals (r : TRow) : List Value := .int .u64 (r.cnt : Int) :: .int .u64 (r.sum : Int) :: .int .u64 (r.least : Int) :: .int .u64 (r.most : Int) :: clsV (fun i => (r.cls i : Int)) 0 65
theorem concL_cls (ρ : Rho) (f : Nat → Int) : ∀ (n i : Nat), concL ρ (clsA f i n) = some (clsV f i n)
  | 0, _ => rfl
  | n + 1, i => concL_mk (v := .int .u64 (f i)) (x := .int .u64 (f i)) rfl (concL_cls ρ f n (i + 1))
theorem TRow.conc (r : TRow) (ρ : Rho) : concL ρ r.avs = some r.vals :=
  concL_mk rfl (concL_mk rfl (concL_mk rfl (concL_mk rfl (concL_cls ρ _ 65 0))))
def TRow.val (r : TRow) : Value := .agg r.vals.toArray
theorem TRow.concV (r : TRow) (ρ : Rho) : Go.Det.conc ρ (.agg r.avs) = some r.val := by
  simp only [Go.Det.conc, r.conc ρ, Option.map_some]; rfl

/-- A number counted. -/
def TRow.one (n : Nat) : TRow := ⟨1, n, n, n, fun i => if i = Lib.bitLen n then 1 else 0⟩
def TRow.add (r : TRow) (n : Nat) : TRow :=
  if r.cnt = 0 then .one n else ⟨m64 (r.cnt + 1), m64 (r.sum + n), if n < r.least then n else r.least, if r.most < n then n else r.most, fun i => m64 (r.cls i + if i = Lib.bitLen n then 1 else 0)⟩
def TRow.zero : TRow := ⟨0, 0, 0, 0, fun _ => 0⟩

theorem clsA_congr : ∀ (n i : Nat) (f g : Nat → Int), (∀ j, f j = g j) → clsA f i n = clsA g i n
  | 0, _, _, _, _ => rfl
  | n + 1, i, f, g, h => by simp only [clsA, h i, clsA_congr n (i + 1) f g h]

theorem avs_one (n c : Nat) (hc : Lib.bitLen n = c) : rowA 1 n n n (fun i => if i = c then 1 else 0) = (TRow.one n).avs := by
  unfold TRow.avs rowA TRow.one
  rw [clsA_congr 65 0 _ (fun i => ((if i = Lib.bitLen n then 1 else 0 : Nat) : Int)) fun j => by rw [hc]; split <;> rfl]
  rfl
theorem avs_add (r : TRow) (n c k : Nat) (hc : Lib.bitLen n = c) (hk : r.cnt = k + 1) :
    rowA (IntKind.u64.wrap (Int.ofNat (k + 1) + 1)) (IntKind.u64.wrap ((r.sum : Int) + n)) (if (n : Int) < r.least then n else r.least) (if (n : Int) > r.most then n else r.most) (fun i => IntKind.u64.wrap ((r.cls i : Int) + if i = c then 1 else 0)) = (r.add n).avs := by
  have hadd : r.add n = ⟨m64 (r.cnt + 1), m64 (r.sum + n), if n < r.least then n else r.least, if r.most < n then n else r.most, fun i => m64 (r.cls i + if i = Lib.bitLen n then 1 else 0)⟩ := by
    unfold TRow.add
    rw [if_neg (by omega)]
  rw [hadd]
  unfold TRow.avs rowA
  rw [clsA_congr 65 0 _ (fun i => ((m64 (r.cls i + if i = Lib.bitLen n then 1 else 0) : Nat) : Int)) fun j => by
    rw [hc, ← wrap_add]; split <;> rfl]
  have e1 : IntKind.u64.wrap (Int.ofNat (k + 1) + 1) = ((m64 (r.cnt + 1) : Nat) : Int) := by rw [hk, ← wrap_add]; rfl
  have e3 : (if (n : Int) < r.least then (n : Int) else r.least) = ((if n < r.least then n else r.least : Nat) : Int) := by
    by_cases h : n < r.least
    · rw [if_pos h, if_pos (by omega)]
    · rw [if_neg h, if_neg (by omega)]
  have e4 : (if (n : Int) > r.most then (n : Int) else r.most) = ((if r.most < n then n else r.most : Nat) : Int) := by
    by_cases h : r.most < n
    · rw [if_pos h, if_pos (by omega)]
    · rw [if_neg h, if_neg (by omega)]
  rw [e1, wrap_add, e3, e4]

/-! ### The world -/
/-- All blocks but one are as they were. -/
structure OnlyBut (m : Nat) (w w' : World) : Prop where
  os : w'.os = w.os
  tape : w'.tape = w.tape
  output : w'.output = w.output
  size : w.heap.size ≤ w'.heap.size
  low : ∀ k, k < w.heap.size → k ≠ m → w'.heap[k]? = w.heap[k]?

def rho2 (t m : Nat) : Rho := ⟨fun i => if i < 6 then some (i, 0) else if i = 6 then some (t, 0) else if i = 7 then some (m, 0) else none, 8⟩
theorem rho2_6 (t m : Nat) : rho2 t m 6 = some (t, 0) := rfl
theorem rho2_7 (t m : Nat) : rho2 t m 7 = some (m, 0) := rfl
theorem gr2 (t m : Nat) : GR (rho2 t m) 6 := fun g hg => ⟨0, by show (if g < 6 then some (g, 0) else _) = _; rw [if_pos hg]⟩

theorem tallyS_next (te : TypeId) (es : List (AV × AV × Nat)) (clk : Nat) : (tallyS te es clk).next = 8 := rfl
theorem tallyS_6 (te : TypeId) (es : List (AV × AV × Nat)) (clk : Nat) : (tallyS te es clk).get 6 = some (.cells [.map (some 7)] te false none) := by
  unfold tallyS
  rw [AS.get_put_ne (by decide) (by decide), AS.get_put_same (by decide)]
theorem tallyS_7 (te : TypeId) (es : List (AV × AV × Nat)) (clk : Nat) : (tallyS te es clk).get 7 = some (.map es clk) := by
  unfold tallyS
  rw [AS.get_put_same (by decide)]
theorem heap8_get (i : Nat) : (heap0 8 []).get i = none := by
  unfold AS.get heap0
  cases Nat.blt i 1024 with
  | false => rfl
  | true => simp [PT.get_nil]
theorem tallyS_ne (te : TypeId) (es : List (AV × AV × Nat)) (clk i : Nat) (h6 : i ≠ 6) (h7 : i ≠ 7) : (tallyS te es clk).get i = none := by
  unfold tallyS
  rw [AS.get_put_ne (by decide) (Ne.symm h7), AS.get_put_ne (by decide) (Ne.symm h6), heap8_get]

theorem rel2 {w : World} {t m : Nat} {te : TypeId} {fr : Nat × Nat} {es : List (AV × AV × Nat)} {en : Array MapEntry} {clk : Nat} (h6 : w.heap[t]? = some (.cells #[.map (some m)] te fr)) (h7 : w.heap[m]? = some (.map en clk))
    (he : concE (rho2 t m) es = some en.toList) : Rel (fun k => k < w.heap.size ∧ k ≠ m) w (rho2 t m) (tallyS te es clk) w := by
  have htm : t ≠ m := fun e => by subst e; rw [h6] at h7; cases h7
  refine ⟨rfl, rfl, rfl, Nat.le_refl _, fun _ h => h.1, fun _ _ => rfl, ?_, ?_, rfl, ?_⟩
  · intro i o hi b N hb
    by_cases e6 : i = 6
    · subst e6
      rw [tallyS_6] at hi
      cases hi
      rw [rho2_6] at hb
      cases hb
      exact ⟨_, h6, ⟨rfl, ⟨[.map (some m)], concL_mk (by simp [conc, rho2_7]) rfl, rfl⟩, fun h => by cases h⟩, fun h => by cases h⟩
    · by_cases e7 : i = 7
      · subst e7
        rw [tallyS_7] at hi
        cases hi
        rw [rho2_7] at hb
        cases hb
        exact ⟨_, h7, ⟨rfl, he⟩, fun _ h => h.2 rfl⟩
      · rw [tallyS_ne _ _ _ _ e6 e7] at hi
        cases hi
  · intro i j oi oj b N M hi hj hb hb'
    have h67 : ∀ x ox, (tallyS te es clk).get x = some ox → x = 6 ∨ x = 7 := fun x ox hx => by
      by_cases e6 : x = 6
      · exact .inl e6
      · by_cases e7 : x = 7
        · exact .inr e7
        · rw [tallyS_ne _ _ _ _ e6 e7] at hx; cases hx
    rcases h67 i oi hi with rfl | rfl <;> rcases h67 j oj hj with rfl | rfl
    · rfl
    · rw [rho2_6] at hb; rw [rho2_7] at hb'; cases hb; cases hb'; exact absurd rfl htm
    · rw [rho2_7] at hb; rw [rho2_6] at hb'; cases hb; cases hb'; exact absurd rfl htm
    · rfl
  · intro i hi
    have hi' : 8 ≤ i := hi
    show (if i < 6 then some (i, 0) else if i = 6 then some (t, 0) else if i = 7 then some (m, 0) else none) = none
    rw [if_neg (by omega), if_neg (by omega), if_neg (by omega)]

/-- A run from a tally's two blocks. -/
theorem two_call {n : Nat} {f : FuncId} {args : List AV} {xs : List Value} {v : AV} {es es' : List (AV × AV × Nat)} {clk clk' : Nat} {te : TypeId} {w : World} {t m : Nat} {fr : Nat × Nat} {en : Array MapEntry} {y : Value} {en' : List MapEntry}
    (hk : EA.hooks f = none) (hrun : out7 (callF EA (exec EA n) f args (tallyS te es clk)) = some (v, some (.map es' clk')))
    (h6 : w.heap[t]? = some (.cells #[.map (some m)] te fr)) (h7 : w.heap[m]? = some (.map en clk)) (he : concE (rho2 t m) es = some en.toList) (hx : concL (rho2 t m) args = some xs)
    (hy : ∀ ρ, conc ρ v = some y) (he' : ∀ ρ, concE ρ es' = some en') :
    Calls Tryz.prog f xs.toArray w fun e w' => e = .returned y ∧ w'.heap[m]? = some (.map en'.toArray clk') ∧ OnlyBut m w w' := by
  cases hc : callF EA (exec EA n) f args (tallyS te es clk) with
  | none => rw [hc] at hrun; cases hrun
  | some p =>
    obtain ⟨v1, σ1⟩ := p
    rw [hc] at hrun
    simp only [out7, Option.map_some, Option.some.injEq, Prod.mk.injEq] at hrun
    obtain ⟨rfl, hg⟩ := hrun
    refine (det_call EA_ok Tryz.mixed hk hc (rel2 h6 h7 he) (gr2 t m) hx).mono ?_
    rintro e w' ⟨x, ρ', rfl, l1, l2, l3⟩
    rw [hy] at l3
    cases l3
    obtain ⟨ob, o1, o2, _⟩ := l2.objs 7 _ hg m 0 (l1 7 _ (rho2_7 t m))
    cases ob with
    | map en1 ck =>
      obtain ⟨rfl, o3⟩ := o2
      rw [he'] at o3
      cases o3
      exact ⟨rfl, o1, l2.os, l2.tape, l2.output, l2.size, fun k hk hkm => l2.low k ⟨hk, hkm⟩⟩
    | _ => exact o2.elim

/-- A tally of whole numbers that has counted at key 7 alone. -/
def TallyIs (w : World) (t m : Nat) (r : TRow) : Prop :=
  (∃ fr, w.heap[t]? = some (.cells #[.map (some m)] 89 fr)) ∧
  ((r = .zero ∧ ∃ clk, w.heap[m]? = some (.map #[] clk)) ∨ (1 ≤ r.cnt ∧ ∃ clk b, w.heap[m]? = some (.map #[⟨.int .i64 7, r.val, b⟩] clk)))

theorem TallyIs.lt {w : World} {t m : Nat} {r : TRow} (h : TallyIs w t m r) : t < w.heap.size ∧ m < w.heap.size ∧ t ≠ m := by
  obtain ⟨⟨fr, h6⟩, h⟩ := h
  have hm : ∃ en ck, w.heap[m]? = some (.map en ck) := by
    rcases h with ⟨_, ck, h⟩ | ⟨_, ck, b, h⟩
    · exact ⟨_, _, h⟩
    · exact ⟨_, _, h⟩
  obtain ⟨en, ck, h7⟩ := hm
  exact ⟨lt_of_heap h6, lt_of_heap h7, fun e => by subst e; rw [h6] at h7; cases h7⟩

theorem bitLen_65 (n : Nat) (h : n < 18446744073709551616) : Lib.bitLen n < 65 := Nat.lt_succ_of_le (Lib.bitLen_le n 64 (Nat.le_refl _) h)

theorem conc_num (ρ : Rho) (n : Nat) (h : n < 18446744073709551616) : conc ρ (.ann (.int .u64 (n : Int)) (Lib.bitLen n)) = some (.int .u64 (n : Int)) := by
  have hp : annP (Lib.bitLen n) (.int .u64 (n : Int)) = true := by
    simp only [annP, Int.toNat_natCast, Nat.beq_refl, Bool.true_and, Bool.and_eq_true, decide_eq_true_eq]
    omega
  simp only [conc, Option.bind_some, hp, if_true]

theorem Tryz.add_call {w : World} {t m n : Nat} {r : TRow} (h : TallyIs w t m r) (hn : n < 18446744073709551616) (hr : r.cnt < 1000) :
    Calls Tryz.prog 18 #[.pointer (some ⟨t, 0, none⟩), .int .i64 7, .int .u64 (n : Int)] w fun e w' => e = .returned (.tuple #[]) ∧ TallyIs w' t m (r.add n) ∧ OnlyBut m w w' := by
  have hlt := h.lt
  obtain ⟨⟨fr, h6⟩, h⟩ := h
  have hargs : concL (rho2 t m) [.ptr (some (6, 0)), .int .i64 7, .ann (.int .u64 (n : Int)) (Lib.bitLen n)] = some [.pointer (some ⟨t, 0, none⟩), .int .i64 7, .int .u64 (n : Int)] :=
    concL_mk (by simp [conc, rho2_6]) (concL_mk rfl (concL_mk (conc_num _ n hn) rfl))
  rcases h with ⟨rfl, clk, h7⟩ | ⟨hc, clk, b, h7⟩
  · have hrun := new_all (Lib.bitLen n) (bitLen_65 n hn) (n : Int) clk
    rw [avs_one n _ rfl] at hrun
    refine (two_call (y := .tuple #[]) (en' := [⟨.int .i64 7, (TRow.one n).val, clk⟩]) rfl hrun h6 h7 rfl hargs (fun ρ => rfl) (fun ρ => concE_mk rfl (TRow.concV _ ρ) rfl)).mono ?_
    rintro e w' ⟨rfl, h1, h2⟩
    have e1 : (TRow.zero.add n) = TRow.one n := rfl
    rw [e1]
    exact ⟨rfl, ⟨⟨fr, by rw [h2.low t hlt.1 hlt.2.2]; exact h6⟩, .inr ⟨Nat.le_refl _, _, _, h1⟩⟩, h2⟩
  · obtain ⟨k, hk⟩ : ∃ k, r.cnt = k + 1 := ⟨r.cnt - 1, by omega⟩
    have hrun := old_all (Lib.bitLen n) (bitLen_65 n hn) (n : Int) clk b k r.sum r.least r.most (fun i => (r.cls i : Int))
    rw [avs_add r n _ k rfl hk] at hrun
    have hes : rowA (Int.ofNat (k + 1)) r.sum r.least r.most (fun i => (r.cls i : Int)) = r.avs := by unfold TRow.avs; rw [hk]; rfl
    rw [hes] at hrun
    refine (two_call (y := .tuple #[]) (en' := [⟨.int .i64 7, (r.add n).val, b⟩]) rfl hrun h6 h7 (concE_mk rfl (TRow.concV _ _) rfl) hargs (fun ρ => rfl) (fun ρ => concE_mk rfl (TRow.concV _ ρ) rfl)).mono ?_
    rintro e w' ⟨rfl, h1, h2⟩
    refine ⟨rfl, ⟨⟨fr, by rw [h2.low t hlt.1 hlt.2.2]; exact h6⟩, .inr ⟨?_, _, _, h1⟩⟩, h2⟩
    unfold TRow.add
    rw [if_neg (show ¬ r.cnt = 0 by omega)]
    show 1 ≤ m64 (r.cnt + 1)
    unfold m64
    omega
end Go.Proofs
