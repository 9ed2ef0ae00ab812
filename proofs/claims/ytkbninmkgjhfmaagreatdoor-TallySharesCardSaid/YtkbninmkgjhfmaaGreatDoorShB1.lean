/- The tally dump: contracts of small functions: Class, Div64 under a small high word, need. -/
import Derived.Test.YtkbninmkgjhfmaaGreatDoorShMul
import Derived.Test.YtkbninmkgjhfmaaGreatDoorShLen
import Derived.WalkKit
import Derived.Deep.QuietTactic
import Derived.BigQuiet
import Derived.RegionTactic
import Derived.Lib.Hide
set_option maxHeartbeats 400000
namespace Go.Proofs
open Go Go.RowKit

theorem ret_int {k : IntKind} {a b : Int} (h : a = b) : Ending.returned (.int k a) = .returned (.int k b) := by rw [h]
theorem ret_two {x y : Value} {k k' : IntKind} {b d : Int} (h : x = .int k b) (h' : y = .int k' d) : Ending.returned (.tuple #[x, y]) = .returned (.tuple #[.int k b, .int k' d]) := by rw [h, h']

theorem Tryz.class_any (x : Nat) (w : World) (h : x < 18446744073709551616) :
    Calls Tryz.prog 21 #[.int .u64 x] w fun e w' => e = .returned (.int .i64 (Lib.bitLen x)) ∧ w' = w := by
  go_enter Tryz.func21, Tryz.ntmps21
  go_wp2_with (go_at_call 32; refine (Tryz.bits_Len64 _ _ (by omega) (by omega)).mono ?_; rintro e w' ⟨rfl, rfl⟩)
  go_ret
  exact ⟨by simp, rfl⟩

theorem Tryz.div64_any (lo y : Nat) (w : World) (hl : lo < 18446744073709551616) (hy : 1 ≤ y) (hy2 : y < 18446744073709551616) :
    Calls Tryz.prog 43 #[.int .u64 0, .int .u64 lo, .int .u64 y] w fun e w' => e = .returned (.tuple #[.int .u64 ((lo / y : Nat) : Int), .int .u64 ((lo % y : Nat) : Int)]) ∧ ∃ n, w' = w.drewN n := by
  have h1 : ((y : Int) == 0) = false := by simp; omega
  have h2 : ¬ ((y : Int) ≤ 0) := by omega
  have hlt : lo / y ≤ lo := Nat.div_le_self _ _
  have hw : IntKind.u64.wrap ((lo : Int) / (y : Int)) = ((lo / y : Nat) : Int) := by
    rw [← Int.natCast_ediv, IntKind.wrap_u64]
    generalize lo / y = q at hlt ⊢
    omega
  clear hlt
  go_enter Tryz.func43, Tryz.ntmps43
  go_wp2
  go_quiet (fail)
  go_wp2
  go_ret2
  exact ⟨ret_two (by simp) (by simp), _, rfl⟩

theorem ceil_eq (m o : Nat) (ho : 1 ≤ o) : (m + o - 1) / o = m / o + (if 0 < m % o then 1 else 0) := by
  have h1 := Nat.div_add_mod m o
  have h2 : m % o < o := Nat.mod_lt _ (by omega)
  generalize m / o = q at *
  generalize hr : m % o = r at *
  subst h1
  split
  · have e : o * q + r + o - 1 = o * (q + 1) + (r - 1) := by rw [Nat.mul_add, Nat.mul_one]; omega
    rw [e, Nat.mul_add_div (by omega), Nat.div_eq_of_lt (by omega)]
  · have e : o * q + r + o - 1 = o * q + (o - 1) := by omega
    rw [e, Nat.mul_add_div (by omega), Nat.div_eq_of_lt (by omega)]

/-- How many are needed: a share of a count, rounded up. -/
def needN (c s o : Nat) : Nat := if o ≤ s then c else (c * s + o - 1) / o

theorem Tryz.need_any (c s o : Nat) (w : World) (hc : c ≤ 100) (hs : s ≤ 4294967295) (ho : 1 ≤ o) (ho2 : o ≤ 4294967295) :
    Calls Tryz.prog 31 #[.int .u64 c, .int .u64 s, .int .u64 o] w fun e w' => e = .returned (.int .u64 (needN c s o)) ∧ ∃ n, w' = w.drewN n := by
  by_cases h : o ≤ s
  · have h' : (o : Int) ≤ s := by omega
    go_enter Tryz.func31, Tryz.ntmps31
    go_wp2
    go_ret
    exact ⟨by simp [needN, h], 0, rfl⟩
  · have h' : ¬ (o : Int) ≤ s := by omega
    go_enter Tryz.func31, Tryz.ntmps31
    have hm : c * s < 18446744073709551616 := Nat.lt_of_le_of_lt (Nat.mul_le_mul hc hs) (by omega)
    have hd : c * s / 18446744073709551616 = 0 := Nat.div_eq_of_lt hm
    have hr : c * s % 18446744073709551616 = c * s := Nat.mod_eq_of_lt hm
    have hq : needN c s o = c * s / o + (if 0 < c * s % o then 1 else 0) := by rw [← ceil_eq (c * s) o ho]; simp [needN, h]
    have hb : c * s / o ≤ c * s := Nat.div_le_self _ _
    have hm' : c * s ≤ 100 * 4294967295 := Nat.mul_le_mul hc hs
    have M := Tryz.bits_Mul64 c s (by omega) (by omega) w
    rw [hd, hr] at M
    have D := Tryz.div64_any (c * s) o w hm (by omega) (by omega)
    rw [hq]
    generalize c * s = m at *
    generalize m / o = q at *
    generalize m % o = r at *
    have M' := Lib.hid M
    have D' := Lib.hid D
    clear M D hd hr hq
    by_cases hz : 0 < r
    all_goals
      have hz' : decide ((0 : Int) < (r : Int)) = decide (0 < r) := by simp
      have HZ := Lib.hid hz'
      clear hz'
      go_wp2_with (first | (go_at_call 42; refine M'.out.mono ?_; rintro e w' ⟨rfl, rfl⟩) | (go_at_call 43; refine D'.out.mono ?_; rintro e w' ⟨rfl, n, rfl⟩))
      go_ret
      exact ⟨ret_int (by simp [hz]), n, rfl⟩
end Go.Proofs
