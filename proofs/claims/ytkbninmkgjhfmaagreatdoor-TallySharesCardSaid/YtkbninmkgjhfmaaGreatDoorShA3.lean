/- The tally dump: Tally[int]: New, Of; a row's At. -/
import Derived.Test.YtkbninmkgjhfmaaGreatDoorShA2
set_option maxHeartbeats 400000
namespace Go.Proofs
open Go Go.Det Go.RowKit
set_option maxRecDepth 100000

theorem of_none (clk : Nat) : out7 (callF EA (exec EA 600) 19 [.ptr (some (6, 0)), .int .i64 7] (tallyS 89 [] clk)) = some (.agg (rowA 0 0 0 0 fun _ => 0), some (.map [] clk)) := by kernel_rfl
theorem of_some (clk b : Nat) (c s l m : Int) (g : Nat → Int) : out7 (callF EA (exec EA 600) 19 [.ptr (some (6, 0)), .int .i64 7] (tallyS 89 [(.int .i64 7, .agg (rowA c s l m g), b)] clk)) = some (.agg (rowA c s l m g), some (.map [(.int .i64 7, .agg (rowA c s l m g), b)] clk)) := by kernel_rfl

theorem Tryz.of_call {w : World} {t m : Nat} {r : TRow} (h : TallyIs w t m r) :
    Calls Tryz.prog 19 #[.pointer (some ⟨t, 0, none⟩), .int .i64 7] w fun e w' => e = .returned r.val ∧ Below w.heap.size w w' := by
  have hlt := h.lt
  obtain ⟨⟨fr, h6⟩, h⟩ := h
  have hargs : concL (rho2 t m) [.ptr (some (6, 0)), .int .i64 7] = some [.pointer (some ⟨t, 0, none⟩), .int .i64 7] :=
    concL_mk (by simp [conc, rho2_6]) (concL_mk rfl rfl)
  have fin : ∀ {w' : World} {o : Obj}, w.heap[m]? = some o → w'.heap[m]? = some o → OnlyBut m w w' → Below w.heap.size w w' := fun h7 h1 h2 =>
    ⟨h2.os, h2.tape, h2.output, h2.size, fun k hk => by
      by_cases e : k = m
      · subst e; rw [h1, h7]
      · exact h2.low k hk e⟩
  rcases h with ⟨rfl, clk, h7⟩ | ⟨hc, clk, b, h7⟩
  · refine (two_call (y := TRow.zero.val) (en' := []) rfl (of_none clk) h6 h7 rfl hargs (fun ρ => TRow.concV .zero ρ) (fun ρ => rfl)).mono ?_
    rintro e w' ⟨rfl, h1, h2⟩
    exact ⟨rfl, fin h7 h1 h2⟩
  · refine (two_call (y := r.val) (en' := [⟨.int .i64 7, r.val, b⟩]) rfl (of_some clk b r.cnt r.sum r.least r.most fun i => (r.cls i : Int)) h6 h7 (concE_mk rfl (TRow.concV _ _) rfl) hargs (fun ρ => TRow.concV r ρ) (fun ρ => concE_mk rfl (TRow.concV _ ρ) rfl)).mono ?_
    rintro e w' ⟨rfl, h1, h2⟩
    exact ⟨rfl, fin h7 h1 h2⟩

theorem Tryz.new_call (w : World) : Calls Tryz.prog 17 #[] w fun e w' => ∃ t m, e = .returned (.pointer (some ⟨t, 0, none⟩)) ∧ TallyIs w' t m .zero ∧ w.heap.size ≤ t ∧ w.heap.size ≤ m ∧ Below w.heap.size w w' := by
  have hmm := @run_makeMap Tryz.prog
  go_enter Tryz.func17, Tryz.ntmps17
  go_wp2
  go_ret
  refine ⟨w.heap.size + 1, w.heap.size, rfl, ⟨⟨(0, 0), ?_⟩, .inl ⟨rfl, 0, ?_⟩⟩, by omega, by omega, ((Below.refl _ _).alloc (Nat.le_refl _) _).alloc (by simp) _⟩
  · exact heap_alloc2_new _ _ _
  · exact heap_alloc2_old _ _ _

/-! ### A row's At -/
theorem clsV_size (f : Nat → Int) : ∀ n i, (clsV f i n).length = n
  | 0, _ => rfl
  | n + 1, i => by simp [clsV, clsV_size f n (i + 1)]
theorem clsV_at (f : Nat → Int) : ∀ n i k, k < n → (clsV f i n)[k]? = some (.int .u64 (f (i + k)))
  | 0, _, _, h => by omega
  | n + 1, i, 0, _ => rfl
  | n + 1, i, k + 1, h => by
    simp only [clsV, List.getElem?_cons_succ]
    rw [clsV_at f n (i + 1) k (by omega), show i + 1 + k = i + (k + 1) by omega]
def TRow.classes (r : TRow) : Array Value := (clsV (fun i => (r.cls i : Int)) 0 65).toArray
theorem TRow.part (r : TRow) (j : Nat) (v : Value) (h : r.classes[j]? = some v) : r.vals.toArray[4 + j]? = some v := by
  simp only [TRow.classes, List.getElem?_toArray] at h
  simp only [TRow.vals, List.getElem?_toArray]
  rw [show 4 + j = j + 1 + 1 + 1 + 1 by omega]
  simpa using h

theorem Tryz.at_row {r : TRow} {s o : Nat} (w : World) (hs : psum r.cls 65 = r.cnt) (hc1 : 1 ≤ r.cnt) (hc : r.cnt ≤ 100) (hs1 : 1 ≤ s) (hs2 : s ≤ 4294967295) (ho : 1 ≤ o) (ho2 : o ≤ 4294967295) :
    Calls Tryz.prog 20 #[r.val, .int .u64 (s : Int), .int .u64 (o : Int)] w fun e w' => ∃ k : Nat, IsAt r.cls (needN r.cnt s o) k ∧ e = .returned (.int .i64 (k : Int)) ∧ Below w.heap.size w w' :=
  Tryz.at_any r.vals.toArray r.classes r.cls r.cnt s o w (by simp [TRow.vals, clsV_size]) rfl (by simp [TRow.classes, clsV_size]) r.part
    (fun k hk => by simp only [TRow.classes, List.getElem?_toArray]; rw [clsV_at _ _ _ _ hk, Nat.zero_add]) hs hc1 hc hs1 hs2 ho ho2

theorem at_none (a b d s o : Int) (f : Nat → Int) : (callF EA (exec EA 600) 20 [.agg (rowA 0 a b d f), .int .u64 s, .int .u64 o] (heap0 6 [])).map Prod.fst = some (.int .i64 0) := by kernel_rfl
theorem at_share0 (c : Nat) (a b d : Int) (o : Nat) (f : Nat → Int) : (callF EA (exec EA 600) 20 [.agg (rowA (Int.ofNat (c + 1)) a b d f), .int .u64 0, .int .u64 (Int.ofNat (o + 1))] (heap0 6 [])).map Prod.fst = some (.int .i64 0) := by kernel_rfl

theorem at_zero_of {w : World} {r : TRow} {s o : Int} (h : (callF EA (exec EA 600) 20 [.agg r.avs, .int .u64 s, .int .u64 o] (heap0 6 [])).map Prod.fst = some (.int .i64 0)) :
    Calls Tryz.prog 20 #[r.val, .int .u64 s, .int .u64 o] w fun e w' => e = .returned (.int .i64 0) ∧ Below w.heap.size w w' := by
  cases hc : callF EA (exec EA 600) 20 [.agg r.avs, .int .u64 s, .int .u64 o] (heap0 6 []) with
  | none => rw [hc] at h; cases h
  | some p =>
    obtain ⟨v, σ1⟩ := p
    rw [hc] at h
    simp only [Option.map_some, Option.some.injEq] at h
    subst h
    have hx : concL (rho0 6) [.agg r.avs, .int .u64 s, .int .u64 o] = some [r.val, .int .u64 s, .int .u64 o] := concL_mk (r.concV _) (concL_mk rfl (concL_mk rfl rfl))
    refine (det_call EA_ok Tryz.mixed rfl hc (rel0 (w := w) (show globsOK 6 [] = true by decide) (fun g hg => by cases hg)) gr0 hx).mono ?_
    rintro e w' ⟨x, ρ', rfl, l1, l2, l3⟩
    rw [conc_int l3]
    exact ⟨rfl, l2.os, l2.tape, l2.output, l2.size, l2.low⟩

/-- At's answer: 0, or the first place that is enough. -/
theorem Tryz.at_call {r : TRow} {s o : Nat} (w : World) (hs : psum r.cls 65 = r.cnt) (hc : r.cnt ≤ 100) (hs2 : s ≤ 4294967295) (ho : 1 ≤ o) (ho2 : o ≤ 4294967295) :
    Calls Tryz.prog 20 #[r.val, .int .u64 (s : Int), .int .u64 (o : Int)] w fun e w' => ∃ k : Nat, ((r.cnt = 0 ∨ s = 0) ∧ k = 0 ∨ 1 ≤ r.cnt ∧ 1 ≤ s ∧ IsAt r.cls (needN r.cnt s o) k) ∧ e = .returned (.int .i64 (k : Int)) ∧ Below w.heap.size w w' := by
  by_cases h0 : r.cnt = 0
  · have h := at_none r.sum r.least r.most s o (fun i => (r.cls i : Int))
    have e : rowA 0 r.sum r.least r.most (fun i => (r.cls i : Int)) = r.avs := by unfold TRow.avs; rw [h0]; rfl
    rw [e] at h
    exact (at_zero_of h).mono fun e w' ⟨h1, h2⟩ => ⟨0, .inl ⟨.inl h0, rfl⟩, h1, h2⟩
  · by_cases h1 : s = 0
    · obtain ⟨c, hc'⟩ : ∃ c, r.cnt = c + 1 := ⟨r.cnt - 1, by omega⟩
      obtain ⟨o', rfl⟩ : ∃ o', o = o' + 1 := ⟨o - 1, by omega⟩
      have h := at_share0 c r.sum r.least r.most o' (fun i => (r.cls i : Int))
      have e : rowA (Int.ofNat (c + 1)) r.sum r.least r.most (fun i => (r.cls i : Int)) = r.avs := by unfold TRow.avs; rw [hc']; rfl
      rw [e] at h
      subst h1
      exact (at_zero_of h).mono fun e w' ⟨h1, h2⟩ => ⟨0, .inl ⟨.inr rfl, rfl⟩, h1, h2⟩
    · exact (Tryz.at_row w hs (by omega) hc (by omega) hs2 ho ho2).mono fun e w' ⟨k, h2, h3, h4⟩ => ⟨k, .inr ⟨by omega, by omega, h2⟩, h3, h4⟩
end Go.Proofs
