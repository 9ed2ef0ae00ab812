/- TallyShares, the plain law: what is counted, and the shares of it. -/
import Derived.Test.YtkbninmkgjhfmaaGreatDoorShA3
import Derived.Lib.ItoaNum
set_option maxHeartbeats 400000
namespace Go.Proofs
open Go

def rowOf (l : List Nat) : TRow := l.foldl TRow.add .zero
theorem rowOf_snoc (l : List Nat) (n : Nat) : rowOf (l ++ [n]) = (rowOf l).add n := by simp [rowOf]

/-- How many have fewer than k bits. -/
def under (l : List Nat) (k : Nat) : Nat := l.countP fun n => decide (Lib.bitLen n < k)
def just (l : List Nat) (k : Nat) : Nat := l.countP fun n => decide (Lib.bitLen n = k)
theorem under_succ (l : List Nat) (k : Nat) : under l (k + 1) = under l k + just l k := by
  induction l with
  | nil => rfl
  | cons n l ih =>
    simp only [under, just, List.countP_cons, decide_eq_true_eq] at ih ⊢
    by_cases h1 : Lib.bitLen n < k
    · rw [if_pos (by omega), if_pos h1, if_neg (by omega)]; omega
    · by_cases h2 : Lib.bitLen n = k
      · rw [if_pos (by omega), if_neg h1, if_pos h2]; omega
      · rw [if_neg (by omega), if_neg h1, if_neg h2]; omega
theorem under_zero (l : List Nat) : under l 0 = 0 := by simp [under]
theorem psum_just (l : List Nat) : ∀ k, psum (just l) k = under l k
  | 0 => (under_zero l).symm
  | k + 1 => by rw [under_succ, ← psum_just l k]; rfl
theorem psum_congr {f g : Nat → Nat} (h : ∀ i, f i = g i) : ∀ k, psum f k = psum g k
  | 0 => rfl
  | k + 1 => by simp only [psum, psum_congr h k, h k]
theorem under_65 (l : List Nat) (h : ∀ n ∈ l, n < 18446744073709551616) : under l 65 = l.length := by
  unfold under
  rw [List.countP_eq_length]
  intro n hn
  simpa using bitLen_65 n (h n hn)

structure Counted (l : List Nat) (r : TRow) : Prop where
  cnt : r.cnt = l.length
  cls : ∀ i, r.cls i = just l i
  most : ∀ n ∈ l, n ≤ r.most
  mem : l ≠ [] → r.most ∈ l

theorem counted_nil : Counted [] .zero := ⟨rfl, fun _ => rfl, fun _ h => by simp at h, fun h => absurd rfl h⟩
theorem m64_of {n : Nat} (h : n < 18446744073709551616) : m64 n = n := Nat.mod_eq_of_lt h
theorem just_snoc (l : List Nat) (n i : Nat) : just (l ++ [n]) i = just l i + if i = Lib.bitLen n then 1 else 0 := by
  unfold just
  rw [List.countP_append]
  simp only [List.countP_cons, List.countP_nil, decide_eq_true_eq, Nat.zero_add]
  by_cases h : Lib.bitLen n = i
  · rw [if_pos h, if_pos h.symm]
  · rw [if_neg h, if_neg fun e => h e.symm]
theorem just_le (l : List Nat) (i : Nat) : just l i ≤ l.length := List.countP_le_length

theorem counted_snoc {l : List Nat} {r : TRow} (h : Counted l r) (n : Nat) (hl : l.length < 1000) : Counted (l ++ [n]) (r.add n) := by
  unfold TRow.add
  by_cases hc : r.cnt = 0
  · rw [if_pos hc]
    have : l = [] := List.eq_nil_of_length_eq_zero (by rw [← h.cnt, hc])
    subst this
    refine ⟨rfl, fun i => ?_, fun m hm => ?_, fun _ => ?_⟩
    · rw [just_snoc]; simp [TRow.one, just]
    · simp at hm; subst hm; exact Nat.le_refl _
    · simp [TRow.one]
  · rw [if_neg hc]
    have hne : l ≠ [] := fun e => hc (by rw [h.cnt, e]; rfl)
    refine ⟨?_, fun i => ?_, fun m hm => ?_, fun _ => ?_⟩
    · show m64 (r.cnt + 1) = _
      rw [h.cnt, m64_of (by omega)]; simp
    · show m64 (r.cls i + _) = _
      have := just_le l i
      rw [h.cls, just_snoc, m64_of]
      split <;> omega
    · show m ≤ if r.most < n then n else r.most
      rcases List.mem_append.1 hm with h1 | h1
      · have := h.most m h1
        split <;> omega
      · simp at h1; subst h1
        split <;> omega
    · show (if r.most < n then n else r.most) ∈ _
      split
      · simp
      · exact List.mem_append_left _ (h.mem hne)

theorem bitLen_mono {n m : Nat} (h : n ≤ m) (hm : m < 18446744073709551616) : Lib.bitLen n ≤ Lib.bitLen m := by
  rcases Nat.eq_zero_or_pos m with rfl | hp
  · have : n = 0 := by omega
    subst this; exact Nat.le_refl _
  · obtain ⟨_, _, h3⟩ := Lib.bitLenAux_bounds 64 m hm (by omega)
    exact Lib.bitLen_le n (Lib.bitLen m) (Lib.bitLen_le m 64 (Nat.le_refl _) hm) (Nat.lt_of_le_of_lt h h3)

theorem isAt_mono {f : Nat → Nat} {L L' x y : Nat} (h : IsAt f L x) (k : IsAt f L' y) (hL : L ≤ L') : x ≤ y := by
  obtain ⟨_, _, h3⟩ := h
  obtain ⟨_, k2, _⟩ := k
  rcases Nat.lt_or_ge y x with hlt | hge
  · have := psum_mono f (show y + 1 ≤ x from hlt)
    omega
  · exact hge
theorem needN_mono (c o : Nat) {s s' : Nat} (ho : 1 ≤ o) (h : s ≤ s') : needN c s o ≤ needN c s' o := by
  by_cases h1 : o ≤ s'
  · have e : needN c s' o = c := by simp [needN, h1]
    rw [e]; exact needN_le c s o ho
  · have e1 : ¬ o ≤ s := by omega
    simp only [needN, h1, e1, if_false]
    have := Nat.mul_le_mul_left c h
    exact Nat.div_le_div_right (by omega)

/-- What At answers. -/
def AtIs (r : TRow) (s o k : Nat) : Prop := (r.cnt = 0 ∨ s = 0) ∧ k = 0 ∨ 1 ≤ r.cnt ∧ 1 ≤ s ∧ IsAt r.cls (needN r.cnt s o) k

theorem at_le {r : TRow} {s s' o x y : Nat} (h : AtIs r s o x) (k : AtIs r s' o y) (ho : 1 ≤ o) (hs : s ≤ s') : x ≤ y := by
  rcases h with ⟨_, rfl⟩ | ⟨h1, h2, h3⟩
  · exact Nat.zero_le _
  · rcases k with ⟨k1, rfl⟩ | ⟨_, _, k3⟩
    · omega
    · exact isAt_mono h3 k3 (needN_mono _ _ ho hs)

theorem counted_psum {l : List Nat} {r : TRow} (hr : Counted l r) (k : Nat) : psum r.cls k = under l k := by rw [psum_congr hr.cls, psum_just]

theorem shares_half {l : List Nat} {r : TRow} (hr : Counted l r) {half : Nat} (hh : AtIs r 1 2 half) : l.length ≤ 2 * under l (half + 1) ∧ (l.length = 0 ∨ 2 * under l half < l.length) := by
  rcases hh with ⟨h1, rfl⟩ | ⟨h1, _, h2, h3, h4⟩
  · have : l.length = 0 := by have := hr.cnt; omega
    exact ⟨by omega, .inl this⟩
  · have e1 : needN r.cnt 1 2 = (l.length + 1) / 2 := by simp [needN, hr.cnt]
    rw [counted_psum hr, e1] at h3 h4
    have hlen : 1 ≤ l.length := by rw [← hr.cnt]; exact h1
    exact ⟨by omega, .inr (by omega)⟩

theorem shares_top {l : List Nat} {r : TRow} (hr : Counted l r) (hl : ∀ n ∈ l, n < 18446744073709551616) {top : Nat} (ht : AtIs r 1 1 top) (hlen : 1 ≤ l.length) : top = Lib.bitLen r.most := by
  rcases ht with ⟨k1, rfl⟩ | ⟨_, _, k2, k3, k4⟩
  · have := hr.cnt; omega
  · have e2 : needN r.cnt 1 1 = l.length := by simp [needN, hr.cnt]
    rw [counted_psum hr, e2] at k3 k4
    have hne : l ≠ [] := fun e => by subst e; simp at hlen
    have hmm := hr.mem hne
    have hall : ∀ n ∈ l, Lib.bitLen n < top + 1 := fun n hn => by
      have hle : under l (top + 1) ≤ l.length := List.countP_le_length
      have heq : under l (top + 1) = l.length := by omega
      unfold under at heq
      rw [List.countP_eq_length] at heq
      simpa using heq n hn
    have hex : ∃ n ∈ l, top ≤ Lib.bitLen n := by
      by_cases hx : ∃ n ∈ l, top ≤ Lib.bitLen n
      · exact hx
      · exfalso
        have : under l top = l.length := by
          unfold under
          rw [List.countP_eq_length]
          intro n hn
          simp only [decide_eq_true_eq]
          rcases Nat.lt_or_ge (Lib.bitLen n) top with h | h
          · exact h
          · exact absurd ⟨n, hn, h⟩ hx
        omega
    obtain ⟨n, hn, hx⟩ := hex
    have h5 := hall _ hmm
    have h6 := bitLen_mono (hr.most n hn) (hl _ hmm)
    omega
end Go.Proofs
