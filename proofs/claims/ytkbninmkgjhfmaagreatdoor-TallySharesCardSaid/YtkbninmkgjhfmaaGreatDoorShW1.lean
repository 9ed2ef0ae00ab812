/- TallyShares: the walk. -/
import Derived.Test.YtkbninmkgjhfmaaGreatDoorShL1
import Derived.Test.YtkbninmkgjhfmaaGreatDoorTallyA4
import Derived.Deep.RegionHeld3
import Derived.Deep.DeepCutAuto
set_option maxHeartbeats 400000
namespace Go.Proofs
open Go Go.Det Go.RowKit
set_option maxRecDepth 100000

theorem below_of_grown {w w' : World} (h : Det.Grown w w') : Below w.heap.size w w' := ⟨h.os, h.tape, h.output, h.size, h.low⟩
theorem below_of_only {B m : Nat} {w w' : World} (h : OnlyBut m w w') (hB : B ≤ w.heap.size) (hm : B ≤ m) : Below B w w' := ⟨h.os, h.tape, h.output, h.size, fun k hk => h.low k (by omega) (by omega)⟩

theorem awake_enters (args : Array Value) (w : World) : (callFunc 6 args).run Tryz.prog w = .ok (.enter 6 args) w := enters_in Tryz.func6 (by kernel_rfl) (by kernel_rfl) _ _
theorem Tryz.awake_call {w : World} (hg : GlobsIn tallyGl w) : Calls Tryz.prog 6 #[] w fun e w' => e = .returned (.bool true) ∧ Below w.heap.size w w' := by
  rcases awake_ok hg with ⟨x, w', h1, _⟩ | ⟨f, args, w', h1, h2⟩ | ⟨l, f, tm, c1, c2, w', h1, _⟩
  · rw [awake_enters] at h1; rcases h1 with h1 | ⟨h1, _⟩ <;> cases h1
  · rw [awake_enters] at h1
    cases h1
    exact (callsIn_wide.1 h2).mono fun e w' ⟨x, h3, h4, h5⟩ => ⟨by rw [h3, h4], below_of_grown h5⟩
  · rw [awake_enters] at h1; cases h1

theorem alloc_setRow (w : World) (A C : Array Value) (t : TypeId) : (w.alloc (.cells A t)).setRow w.heap.size C = w.alloc (.cells C t) := by
  unfold World.setRow World.alloc
  congr 1
  apply Array.ext_getElem?
  intro i
  rw [Array.getElem?_modify]
  by_cases h : w.heap.size = i
  · subst h; simp
  · rw [if_neg h, Array.getElem?_push, Array.getElem?_push, if_neg (Ne.symm h), if_neg (Ne.symm h)]
theorem vals_one (r : TRow) : r.vals.toArray.all (·.oneCell') = true := by
  have : ∀ (n i : Nat) (f : Nat → Int), (clsV f i n).all (·.oneCell') = true := by
    intro n
    induction n with
    | zero => intros; rfl
    | succ n ih => intro i f; simp only [clsV, List.all_cons, ih, Bool.and_true]; rfl
  simp only [TRow.vals, List.all_toArray, List.all_cons, this, Bool.and_true]
  rfl
theorem vals_size (r : TRow) : r.vals.length = 69 := by simp [TRow.vals, clsV_size]

theorem getD_mem {zs : List Nat} {k : Nat} (h : k < zs.length) : zs.getD k 0 ∈ zs := by
  rw [List.getD_eq_getElem?_getD, List.getElem?_eq_getElem h]
  exact List.getElem_mem h
theorem take_succ_getD {zs : List Nat} {k : Nat} (h : k < zs.length) : zs.take (k + 1) = zs.take k ++ [zs.getD k 0] := by
  rw [List.take_succ_eq_append_getElem h, List.getD_eq_getElem?_getD, List.getElem?_eq_getElem h]
  rfl
theorem counted_next {zs : List Nat} {k : Nat} {r : TRow} (h : Counted (zs.take k) r) (hk : k < zs.length) (hl : zs.length ≤ 100) : Counted (zs.take (k + 1)) (r.add (zs.getD k 0)) := by
  rw [take_succ_getD hk]
  exact counted_snoc h _ (by rw [List.length_take]; omega)

/-- The row lies where it was laid; nothing that was there before the call has turned. -/
def RowIn (B : Nat) (w0 w : World) (g : Nat) (r : TRow) : Prop := w.heap[g]? = some (.cells r.vals.toArray 42) ∧ Below B w0 w
theorem rowIn_range {B g : Nat} {w0 w : World} {r : TRow} (h : RowIn B w0 w g r) : w.rangeAt g 0 r.vals := fun j v hv => by
  rw [cell_of_row w g (0 + j) _ 42 (0, 0) h.1, Nat.zero_add]
  simpa using hv
theorem rowIn_most {B g : Nat} {w0 w : World} {r : TRow} (h : RowIn B w0 w g r) : w.cell? ⟨g, 3, none⟩ = some (.int .u64 (r.most : Int)) := by
  rw [cell_of_row w g 3 _ 42 (0, 0) h.1]
  rfl
theorem rowIn_step {B g : Nat} {w0 w w' : World} {r : TRow} (k : Below w.heap.size w w') (h : RowIn B w0 w g r) (hB : B ≤ w0.heap.size) : RowIn B w0 w' g r :=
  ⟨by rw [k.block g (lt_of_heap h.1)]; exact h.1, h.2.trans (k.mono (Nat.le_trans hB h.2.size))⟩
theorem rowIn_drew {B g : Nat} {w0 w : World} {r : TRow} (h : RowIn B w0 w g r) : RowIn B w0 w.drew g r := ⟨h.1, h.2.drew⟩
theorem keep_step {B g : Nat} {w0 w w' : World} {r : TRow} (k : Below w.heap.size w w') (h : RowIn B w0 w g r) (hB : B ≤ w0.heap.size) : w'.rangeAt g 0 r.vals ∧ RowIn B w0 w' g r := ⟨rowIn_range (rowIn_step k h hB), rowIn_step k h hB⟩
theorem keep_drew {B g : Nat} {w0 w : World} {r : TRow} (h : RowIn B w0 w g r) : w.drew.rangeAt g 0 r.vals ∧ RowIn B w0 w.drew g r := ⟨rowIn_range (rowIn_drew h), rowIn_drew h⟩

theorem under_next {zs : List Nat} {j c : Nat} (h : j < zs.length) : under (zs.take (j + 1)) c = under (zs.take j) c + if Lib.bitLen (zs.getD j 0) < c then 1 else 0 := by
  rw [take_succ_getD h]
  unfold under
  rw [List.countP_append]
  simp only [List.countP_cons, List.countP_nil, decide_eq_true_eq, Nat.zero_add]
theorem under_take_le (zs : List Nat) (j c : Nat) : under (zs.take j) c ≤ zs.length := Nat.le_trans List.countP_le_length (by rw [List.length_take]; omega)

theorem Tryz.shares_long (len : Nat) (a b : Nat) (w : World) (hg : GlobsIn tallyGl w) (hl : 100 < len) (p : Option Addr) (cap : Nat) (hm : len ≤ 9223372036854775807) :
    Calls Tryz.prog 5 #[.slice p len cap, .int .u32 (a : Int), .int .u32 (b : Int)] w fun e w' => e = .returned (.bool true) ∧ Below w.heap.size w w' := by
  have A := Lib.hid (Tryz.awake_call hg)
  clear hg
  go_enter Tryz.func5, Tryz.ntmps5
  go_wp2_with (go_at_call 6; refine A.out.mono ?_; rintro e w' ⟨rfl, hb⟩)
  go_ret
  exact ⟨rfl, hb⟩

set_option maxHeartbeats 2000000 in
theorem Tryz.shares_main (zs : List Nat) (a b cap : Nat) (sp : Option Addr) (w : World) (hg : GlobsIn tallyGl w) (hl : zs.length ≤ 100) (hz : ∀ n ∈ zs, n < 18446744073709551616) (ha : a < 4294967296) (hb : b < 4294967296)
    (hc : 0 < zs.length → ∃ bl off, sp = some ⟨bl, off, none⟩ ∧ bl < w.heap.size ∧ ∀ k, k < zs.length → w.cell? ⟨bl, off + k, none⟩ = some (.int .u64 (zs.getD k 0 : Int))) :
    Calls Tryz.prog 5 #[.slice sp zs.length cap, .int .u32 (a : Int), .int .u32 (b : Int)] w fun e w' => e = .returned (.bool true) ∧ Below w.heap.size w w' := by
  have A := Lib.hid (Tryz.awake_call hg)
  have HC := Lib.hid hc
  have HZ := Lib.hid hz
  obtain ⟨n0, hn0⟩ : ∃ n0, n0 = zs.length := ⟨_, rfl⟩
  have HN := Lib.hid hn0
  rw [← hn0] at hl ⊢
  clear hg hc hz hn0
  have h100 : decide ((100 : Int) < (n0 : Int)) = false := by simp; omega
  go_enter Tryz.func5, Tryz.ntmps5
  go_wp2_with (first
    | (go_at_call 6; refine A.out.mono ?_; rintro e w1 ⟨rfl, hb1⟩)
    | (go_at_call 17; refine (Tryz.new_call _).mono ?_; rintro e w2 ⟨t, m, rfl, hT, ht, hm, hb2⟩))
  have hbb : Below w.heap.size w w2 := hb1.trans (hb2.mono hb1.size)
  have ht' : w.heap.size ≤ t := Nat.le_trans hb1.size ht
  have hm' : w.heap.size ≤ m := Nat.le_trans hb1.size hm
  clear hb1 hb2 ht hm w1
  go_loopw [27] (fun i wr => ∃ k r, i = .int .i64 (k : Nat) ∧ k ≤ n0 ∧ Counted (zs.take k) r ∧ TallyIs wr t m r ∧ Below w.heap.size w wr) (fun i _ => n0 - (intOf i).toNat)
  case atStart => exact ⟨0, .zero, rfl, Nat.zero_le _, by simpa using counted_nil, hT, hbb⟩
  case round =>
    obtain ⟨k, r, rfl, hk, hr, hT', hbk⟩ := hrel
    clear hbb hT
    by_cases hlt : k < n0
    · obtain ⟨bl, off, rfl, hblt, hcs⟩ := HC.out (by rw [← HN.out]; omega)
      have hcell := hcs k (by rw [← HN.out]; exact hlt)
      clear hcs
      have hcell' : wr.cell? ⟨bl, off + k, none⟩ = some (.int .u64 (zs.getD k 0 : Int)) := by
        rw [hbk.cell (p := ⟨bl, off + k, none⟩) hblt]
        exact hcell
      clear hcell
      have HR := Lib.hid hr
      have HT := Lib.hid hT'
      clear hr hT'
      go_wp2_with (first
        | (go_at_call 18; refine (Tryz.add_call (n := zs.getD k 0) HT.out (HZ.out _ (getD_mem (by rw [← HN.out]; exact hlt))) (by have := HR.out.cnt; rw [List.length_take] at this; omega)).mono ?_; rintro e w3 ⟨rfl, hT3, hO⟩))
      go_roundw
      case rel => exact ⟨k + 1, _, by go_num, hlt, counted_next HR.out (by rw [← HN.out]; exact hlt) (by rw [← HN.out]; exact hl), hT3, hbk.trans (below_of_only hO hbk.size hm')⟩
      case measure => simp [intOf]; omega
    · obtain rfl : k = n0 := by omega
      have hr2 : Counted zs r := by
        have e : zs.take k = zs := by rw [HN.out]; exact List.take_length
        rw [e] at hr
        exact hr
      have HR := Lib.hid hr2
      have HT := Lib.hid hT'
      clear hr hr2 hT' hk hlt
      have hbw := hbk.size
      go_wp2_with (first
        | (go_at_call 19; refine (Tryz.of_call HT.out).mono ?_; rintro e w3 ⟨rfl, hb3⟩)
        | (refine wpList_store_row (o := ⟨none, _, _, _, _, _⟩) ?h1 42 (.tmp 10) (.tmp 36) ?h2 w3.heap.size r.vals.toArray ?h3 ?h4 42 Tryz.zeroCells42 ?h5 ?c1 ?c2 (vals_one r) ?_))
      case h5 => exact heap_alloc_new _ _
      case h1 => rfl
      case h2 => rfl
      case h3 => rfl
      case h4 => rfl
      case c1 => simp only [List.size_toArray, vals_size]; kernel_rfl
      case c2 => simp only [List.size_toArray, vals_size]; rfl
      rw [alloc_setRow]
      have hrow : RowIn w.heap.size w (w3.alloc (.cells r.vals.toArray 42)) w3.heap.size r :=
        ⟨heap_alloc_new _ _, (hbk.trans (hb3.mono hbw)).alloc (Nat.le_trans hbw hb3.size) _⟩
      clear hb3 hbk
      generalize w3.alloc (.cells r.vals.toArray 42) = w4 at *
      generalize w3.heap.size = g at *
      have hu := Tryz.underlying42
      have hi : (Tryz.prog.info? 42).map (·.size) = some r.vals.length := by rw [vals_size]; kernel_rfl
      have HPS : Hid (psum r.cls 65 = r.cnt) := Lib.hid (by rw [psum_congr HR.out.cls, psum_just, under_65 _ HZ.out, HR.out.cnt])
      have hcn : r.cnt ≤ 100 := by have := HR.out.cnt; have := HN.out; omega
      obtain ⟨lo, hlo⟩ : ∃ lo : Nat, lo = min a b := ⟨_, rfl⟩
      obtain ⟨hi2, hhi⟩ : ∃ hi2 : Nat, hi2 = max a b := ⟨_, rfl⟩
      have hlohi : lo ≤ hi2 := by omega
      have hlo1 : min (a : Int) (b : Int) = (lo : Int) := by omega
      have hhi1 : max (a : Int) (b : Int) = (hi2 : Int) := by omega
      have hlo2 : lo ≤ 4294967295 := by omega
      have hhi2 : hi2 ≤ 4294967295 := by omega
      clear hlo hhi
      refine wp_region_held_drew (S := fun w' => w'.rangeAt g 0 r.vals ∧ RowIn w.heap.size w w' g r) (by kernel_rfl) (keep_drew hrow) (fun hHeld => ?_)
      refine wpAnyH_take (i := 0) (oi := _) (v := .agg r.vals.toArray) rfl (by kernel_rfl) (by kernel_rfl) (by kernel_rfl) (fun _ _ _ h => h) (yieldsIf_load_mid (by rfl) 42 _ rfl g 0 (by rfl) r.vals _ (fun _ h => h.1) Tryz.underlying42 rfl hi) hHeld ?_
      try simp only [Act.put, List.setIfInBounds_toArray, List.set_cons_zero, List.set_cons_succ]
      refine wpAnyH_take (i := 1) (oi := _) (v := .int .u32 (a : Int)) rfl (by kernel_rfl) (by kernel_rfl) (by kernel_rfl) (fun _ _ _ h => h) (Or.inl ⟨by rfl, fun W hW => by go_simp⟩) hHeld ?_
      try simp only [Act.put, List.setIfInBounds_toArray, List.set_cons_zero, List.set_cons_succ]
      refine wpAnyH_take (i := 2) (oi := _) (v := .int .u32 (b : Int)) rfl (by kernel_rfl) (by kernel_rfl) (by kernel_rfl) (fun _ _ _ h => h) (Or.inl ⟨by rfl, fun W hW => by go_simp⟩) hHeld ?_
      try simp only [Act.put, List.setIfInBounds_toArray, List.set_cons_zero, List.set_cons_succ]
      refine wpAnyH_take (i := 3) (oi := _) (v := .int .u32 (lo : Int)) rfl (by kernel_rfl) (by kernel_rfl) (by kernel_rfl) (fun _ _ _ h => h) (Or.inl ⟨by rfl, fun W hW => by (go_simp <;> first | omega | (rw [IntKind.wrap_u64]; omega))⟩) hHeld ?_
      try simp only [Act.put, List.setIfInBounds_toArray, List.set_cons_zero, List.set_cons_succ]
      refine wpAnyH_take (i := 4) (oi := _) (v := .int .u64 (lo : Int)) rfl (by kernel_rfl) (by kernel_rfl) (by kernel_rfl) (fun _ _ _ h => h) (Or.inl ⟨by rfl, fun W hW => by (go_simp <;> first | omega | (rw [IntKind.wrap_u64]; omega))⟩) hHeld ?_
      try simp only [Act.put, List.setIfInBounds_toArray, List.set_cons_zero, List.set_cons_succ]
      refine wpAnyH_take (i := 5) (oi := _) (v := .int .u64 4294967295) rfl (by kernel_rfl) (by kernel_rfl) (by kernel_rfl) (fun _ _ _ h => h) (Or.inl ⟨by rfl, fun W hW => by go_simp⟩) hHeld ?_
      try simp only [Act.put, List.setIfInBounds_toArray, List.set_cons_zero, List.set_cons_succ]
      refine wpAnyH_take (i := 7) (oi := _) (v := .agg r.vals.toArray) rfl (by kernel_rfl) (by kernel_rfl) (by kernel_rfl) (fun _ _ _ h => h) (yieldsIf_load_mid (by rfl) 42 _ rfl g 0 (by rfl) r.vals _ (fun _ h => h.1) Tryz.underlying42 rfl hi) hHeld ?_
      try simp only [Act.put, List.setIfInBounds_toArray, List.set_cons_zero, List.set_cons_succ]
      refine wpAnyH_take (i := 8) (oi := _) (v := .int .u32 (a : Int)) rfl (by kernel_rfl) (by kernel_rfl) (by kernel_rfl) (fun _ _ _ h => h) (Or.inl ⟨by rfl, fun W hW => by go_simp⟩) hHeld ?_
      try simp only [Act.put, List.setIfInBounds_toArray, List.set_cons_zero, List.set_cons_succ]
      refine wpAnyH_take (i := 9) (oi := _) (v := .int .u32 (b : Int)) rfl (by kernel_rfl) (by kernel_rfl) (by kernel_rfl) (fun _ _ _ h => h) (Or.inl ⟨by rfl, fun W hW => by go_simp⟩) hHeld ?_
      try simp only [Act.put, List.setIfInBounds_toArray, List.set_cons_zero, List.set_cons_succ]
      refine wpAnyH_take (i := 10) (oi := _) (v := .int .u32 (hi2 : Int)) rfl (by kernel_rfl) (by kernel_rfl) (by kernel_rfl) (fun _ _ _ h => h) (Or.inl ⟨by rfl, fun W hW => by (go_simp <;> first | omega | (rw [IntKind.wrap_u64]; omega))⟩) hHeld ?_
      try simp only [Act.put, List.setIfInBounds_toArray, List.set_cons_zero, List.set_cons_succ]
      refine wpAnyH_take (i := 11) (oi := _) (v := .int .u64 (hi2 : Int)) rfl (by kernel_rfl) (by kernel_rfl) (by kernel_rfl) (fun _ _ _ h => h) (Or.inl ⟨by rfl, fun W hW => by (go_simp <;> first | omega | (rw [IntKind.wrap_u64]; omega))⟩) hHeld ?_
      try simp only [Act.put, List.setIfInBounds_toArray, List.set_cons_zero, List.set_cons_succ]
      refine wpAnyH_take (i := 12) (oi := _) (v := .int .u64 4294967295) rfl (by kernel_rfl) (by kernel_rfl) (by kernel_rfl) (fun _ _ _ h => h) (Or.inl ⟨by rfl, fun W hW => by go_simp⟩) hHeld ?_
      try simp only [Act.put, List.setIfInBounds_toArray, List.set_cons_zero, List.set_cons_succ]
      refine wpAnyH_ready (rs := [6]) (by kernel_rfl) (by simp) ?_
      refine AllReadyH.cons (o := _) rfl (fun K hK => ?_) AllReadyH.nil
      go_simp
      refine (Tryz.at_call (r := r) (s := lo) (o := 4294967295) _ HPS.out hcn (by omega) (by omega) (by omega)).mono ?_
      rintro e w5 ⟨kx, hkx, rfl, hb5⟩
      try go_simp
      refine hK.out _ _ (keep_step hb5 hHeld.2 (Nat.le_refl _)) (fun hHeld2 => ?_)
      clear hK K
      try simp only [Act.put, List.setIfInBounds_toArray, List.set_cons_zero, List.set_cons_succ]
      clear hHeld
      have hHeld := hHeld2
      clear hHeld2
      refine wpAnyH_ready (rs := [13]) (by kernel_rfl) (by simp) ?_
      refine AllReadyH.cons (o := _) rfl (fun K hK => ?_) AllReadyH.nil
      go_simp
      refine (Tryz.at_call (r := r) (s := hi2) (o := 4294967295) _ HPS.out hcn (by omega) (by omega) (by omega)).mono ?_
      rintro e w6 ⟨ky, hky, rfl, hb6⟩
      try go_simp
      refine hK.out _ _ (keep_step hb6 hHeld.2 (Nat.le_refl _)) (fun hHeld2 => ?_)
      clear hK K
      try simp only [Act.put, List.setIfInBounds_toArray, List.set_cons_zero, List.set_cons_succ]
      clear hHeld
      have hHeld := hHeld2
      clear hHeld2
      refine wpAnyH_take (i := 14) (oi := ⟨some 12, .assign (.tmp 43), 3, _, _, none⟩) (v := .int .i64 (kx : Int)) rfl (by kernel_rfl) (by kernel_rfl) (by kernel_rfl) (fun _ _ _ h => h) (Or.inl ⟨by rfl, fun W hW => by go_simp⟩) hHeld ?_
      try simp only [Act.put, List.setIfInBounds_toArray, List.set_cons_zero, List.set_cons_succ]
      refine wpAnyH_take (i := 15) (oi := ⟨some 13, .assign (.tmp 50), 3, _, _, none⟩) (v := .int .i64 (ky : Int)) rfl (by kernel_rfl) (by kernel_rfl) (by kernel_rfl) (fun _ _ _ h => h) (Or.inl ⟨by rfl, fun W hW => by go_simp⟩) hHeld ?_
      try simp only [Act.put, List.setIfInBounds_toArray, List.set_cons_zero, List.set_cons_succ]
      refine wpAnyH_done (by kernel_rfl) ?_ _
      have hrow6 := hHeld.2
      clear hHeld hrow hb5 hb6
      go_wp2_with (first
        | (go_at_call 20; refine (Tryz.at_call (r := r) (s := 1) (o := 2) _ HPS.out hcn (by omega) (by omega) (by omega)).mono ?_; rintro e w7 ⟨kh, hkh, rfl, hb7⟩)
        | (refine wpList_load_mid (op := ⟨some 51, _, _, _, _, _⟩) ?h1 42 (.tmp 10) ?h2 g 0 ?h3 r.vals _ ?h4 Tryz.underlying42 ?h5 ?h6 ?_))
      case h1 => rfl
      case h2 => rfl
      case h3 => rfl
      case h4 => exact rowIn_range hrow6
      case h5 => rfl
      case h6 => exact hi
      have hrow7 := rowIn_step hb7 hrow6 (Nat.le_refl _)
      clear hb7 hrow6
      go_loop [15, 16, 55] (fun lw be i => ∃ j p q : Nat, j ≤ k ∧ i = .int .i64 (j : Int) ∧ lw = .int .i64 (p : Int) ∧ be = .int .i64 (q : Int) ∧ Hid (p = under (zs.take j) (kh + 1)) ∧ Hid (q = under (zs.take j) kh)) (fun _ _ i => k - (intOf i).toNat)
      case atStart => exact ⟨0, 0, 0, Nat.zero_le _, rfl, rfl, rfl, Lib.hid (by simp [under]), Lib.hid (by simp [under])⟩
      case round =>
        obtain ⟨j, p, q, hj, rfl, rfl, rfl, hp, hq⟩ := hrel
        have hp1 : p ≤ 100 := by rw [hp.out]; have := under_take_le zs j (kh + 1); have := HN.out; omega
        have hq1 : q ≤ 100 := by rw [hq.out]; have := under_take_le zs j kh; have := HN.out; omega
        by_cases hlt : j < k
        · have hjl : j < zs.length := by rw [← HN.out]; exact hlt
          obtain ⟨bl, off, rfl, hblt, hcs⟩ := HC.out (by omega)
          have hcell := hcs j hjl
          clear hcs
          have hcell' : w7.cell? ⟨bl, off + j, none⟩ = some (.int .u64 (zs.getD j 0 : Int)) := by
            rw [hrow7.2.cell (p := ⟨bl, off + j, none⟩) hblt]
            exact hcell
          clear hcell
          have HE1 := Lib.hid (under_next (c := kh + 1) hjl)
          have HE2 := Lib.hid (under_next (c := kh) hjl)
          have hz := HZ.out _ (getD_mem hjl)
          clear hjl
          generalize zs.getD j 0 = z at *
          by_cases h1 : Lib.bitLen z ≤ kh
          · by_cases h2 : Lib.bitLen z < kh
            · have hn1 : p + 1 = under (zs.take (j + 1)) (kh + 1) := by rw [HE1.out, if_pos (by omega), hp.out]
              have hn2 : q + 1 = under (zs.take (j + 1)) kh := by rw [HE2.out, if_pos h2, hq.out]
              have HN1 := Lib.hid hn1
              have HN2 := Lib.hid hn2
              clear hn1 hn2 HE1 HE2
              go_wp2_with (first | (go_at_call 21; refine (Tryz.class_any z _ hz).mono ?_; rintro e w8 ⟨rfl, rfl⟩))
              go_round
              case rel => exact ⟨j + 1, p + 1, q + 1, hlt, by go_num, by go_num, by go_num, HN1, HN2⟩
              case measure => simp [intOf]; omega
            · have hn1 : p + 1 = under (zs.take (j + 1)) (kh + 1) := by rw [HE1.out, if_pos (by omega), hp.out]
              have hn2 : q = under (zs.take (j + 1)) kh := by rw [HE2.out, if_neg h2, hq.out]; rfl
              have HN1 := Lib.hid hn1
              have HN2 := Lib.hid hn2
              clear hn1 hn2 HE1 HE2
              go_wp2_with (first | (go_at_call 21; refine (Tryz.class_any z _ hz).mono ?_; rintro e w8 ⟨rfl, rfl⟩))
              go_round
              case rel => exact ⟨j + 1, p + 1, q, hlt, by go_num, by go_num, rfl, HN1, HN2⟩
              case measure => simp [intOf]; omega
          · have h2 : ¬ Lib.bitLen z < kh := by omega
            have hn1 : p = under (zs.take (j + 1)) (kh + 1) := by rw [HE1.out, if_neg (by omega), hp.out]; rfl
            have hn2 : q = under (zs.take (j + 1)) kh := by rw [HE2.out, if_neg h2, hq.out]; rfl
            have HN1 := Lib.hid hn1
            have HN2 := Lib.hid hn2
            clear hn1 hn2 HE1 HE2
            go_wp2_with (first | (go_at_call 21; refine (Tryz.class_any z _ hz).mono ?_; rintro e w8 ⟨rfl, rfl⟩))
            go_round
            case rel => exact ⟨j + 1, p, q, hlt, by go_num, rfl, rfl, HN1, HN2⟩
            case measure => simp [intOf]; omega
        · obtain rfl : j = k := by omega
          have ht : zs.take j = zs := by rw [HN.out]; exact List.take_length
          have hxy : kx ≤ ky := at_le (r := r) hkx hky (by omega) hlohi
          have hsh := shares_half HR.out hkh
          have hp2 := hp.out
          have hq2 := hq.out
          rw [ht] at hp2 hq2
          rw [← hp2, ← hq2, ← HN.out] at hsh
          obtain ⟨hs1, hs2⟩ := hsh
          clear ht hp2 hq2 hp hq hkx hky hkh hlt hj
          by_cases hlen0 : j = 0
          · clear hs2
            go_wp2_with fail
            refine wp_region_held_drew (S := fun w' => RowIn w.heap.size w w' g r) (by kernel_rfl) (rowIn_drew hrow7) (fun hHeld => ?_)
            refine wpAnyH_take (i := 0) (oi := ⟨some 72, _, _, _, _, _⟩) (v := .int .i64 (kx : Int)) rfl (by kernel_rfl) (by kernel_rfl) (by kernel_rfl) (fun _ _ _ h => h) (Or.inl ⟨by kernel_rfl, fun W hW => by go_simp⟩) hHeld ?_
            try simp only [Act.put, List.setIfInBounds_toArray, List.set_cons_zero, List.set_cons_succ]
            refine wpAnyH_take (i := 1) (oi := ⟨some 73, _, _, _, _, _⟩) (v := .int .i64 (ky : Int)) rfl (by kernel_rfl) (by kernel_rfl) (by kernel_rfl) (fun _ _ _ h => h) (Or.inl ⟨by kernel_rfl, fun W hW => by go_simp⟩) hHeld ?_
            try simp only [Act.put, List.setIfInBounds_toArray, List.set_cons_zero, List.set_cons_succ]
            refine wpAnyH_take (i := 2) (oi := ⟨some 74, _, _, _, _, _⟩) (v := .bool true) rfl (by kernel_rfl) (by kernel_rfl) (by kernel_rfl) (fun _ _ _ h => h) (Or.inl ⟨by kernel_rfl, fun W hW => by (go_simp <;> first | omega | (rw [IntKind.wrap_i64]; omega))⟩) hHeld ?_
            try simp only [Act.put, List.setIfInBounds_toArray, List.set_cons_zero, List.set_cons_succ]
            refine wpAnyH_take (i := 3) (oi := ⟨some 75, _, _, _, _, _⟩) (v := .bool true) rfl (by kernel_rfl) (by kernel_rfl) (by kernel_rfl) (fun _ _ _ h => h) (Or.inl ⟨by kernel_rfl, fun W hW => by go_simp⟩) hHeld ?_
            try simp only [Act.put, List.setIfInBounds_toArray, List.set_cons_zero, List.set_cons_succ]
            refine wpAnyH_take (i := 4) (oi := ⟨some 76, _, _, _, _, _⟩) (v := .int .i64 (p : Int)) rfl (by kernel_rfl) (by kernel_rfl) (by kernel_rfl) (fun _ _ _ h => h) (Or.inl ⟨by kernel_rfl, fun W hW => by go_simp⟩) hHeld ?_
            try simp only [Act.put, List.setIfInBounds_toArray, List.set_cons_zero, List.set_cons_succ]
            refine wpAnyH_take (i := 5) (oi := ⟨some 77, _, _, _, _, _⟩) (v := .int .i64 (2 * (p : Int))) rfl (by kernel_rfl) (by kernel_rfl) (by kernel_rfl) (fun _ _ _ h => h) (Or.inl ⟨by kernel_rfl, fun W hW => by (go_simp <;> first | omega | (rw [IntKind.wrap_i64]; omega))⟩) hHeld ?_
            try simp only [Act.put, List.setIfInBounds_toArray, List.set_cons_zero, List.set_cons_succ]
            refine wpAnyH_take (i := 6) (oi := ⟨some 78, _, _, _, _, _⟩) (v := (.slice sp j cap)) rfl (by kernel_rfl) (by kernel_rfl) (by kernel_rfl) (fun _ _ _ h => h) (Or.inl ⟨by kernel_rfl, fun W hW => by go_simp⟩) hHeld ?_
            try simp only [Act.put, List.setIfInBounds_toArray, List.set_cons_zero, List.set_cons_succ]
            refine wpAnyH_take (i := 7) (oi := ⟨some 79, _, _, _, _, _⟩) (v := .int .i64 (j : Int)) rfl (by kernel_rfl) (by kernel_rfl) (by kernel_rfl) (fun _ _ _ h => h) (Or.inl ⟨by kernel_rfl, fun W hW => by go_simp⟩) hHeld ?_
            try simp only [Act.put, List.setIfInBounds_toArray, List.set_cons_zero, List.set_cons_succ]
            refine wpAnyH_take (i := 8) (oi := ⟨some 80, _, _, _, _, _⟩) (v := .bool true) rfl (by kernel_rfl) (by kernel_rfl) (by kernel_rfl) (fun _ _ _ h => h) (Or.inl ⟨by kernel_rfl, fun W hW => by (go_simp <;> first | omega | (rw [IntKind.wrap_i64]; omega))⟩) hHeld ?_
            try simp only [Act.put, List.setIfInBounds_toArray, List.set_cons_zero, List.set_cons_succ]
            refine wpAnyH_take (i := 9) (oi := ⟨some 81, _, _, _, _, _⟩) (v := .bool true) rfl (by kernel_rfl) (by kernel_rfl) (by kernel_rfl) (fun _ _ _ h => h) (Or.inl ⟨by kernel_rfl, fun W hW => by go_simp⟩) hHeld ?_
            try simp only [Act.put, List.setIfInBounds_toArray, List.set_cons_zero, List.set_cons_succ]
            refine wpAnyH_take (i := 10) (oi := ⟨some 82, _, _, _, _, _⟩) (v := .bool true) rfl (by kernel_rfl) (by kernel_rfl) (by kernel_rfl) (fun _ _ _ h => h) (Or.inl ⟨by kernel_rfl, fun W hW => by go_simp⟩) hHeld ?_
            try simp only [Act.put, List.setIfInBounds_toArray, List.set_cons_zero, List.set_cons_succ]
            refine wpAnyH_take (i := 11) (oi := ⟨some 83, _, _, _, _, _⟩) (v := (.slice sp j cap)) rfl (by kernel_rfl) (by kernel_rfl) (by kernel_rfl) (fun _ _ _ h => h) (Or.inl ⟨by kernel_rfl, fun W hW => by go_simp⟩) hHeld ?_
            try simp only [Act.put, List.setIfInBounds_toArray, List.set_cons_zero, List.set_cons_succ]
            refine wpAnyH_take (i := 12) (oi := ⟨some 84, _, _, _, _, _⟩) (v := .int .i64 (j : Int)) rfl (by kernel_rfl) (by kernel_rfl) (by kernel_rfl) (fun _ _ _ h => h) (Or.inl ⟨by kernel_rfl, fun W hW => by go_simp⟩) hHeld ?_
            try simp only [Act.put, List.setIfInBounds_toArray, List.set_cons_zero, List.set_cons_succ]
            refine wpAnyH_take (i := 13) (oi := ⟨some 85, _, _, _, _, _⟩) (v := .bool true) rfl (by kernel_rfl) (by kernel_rfl) (by kernel_rfl) (fun _ _ _ h => h) (Or.inl ⟨by kernel_rfl, fun W hW => by (go_simp <;> first | omega | (rw [IntKind.wrap_i64]; omega))⟩) hHeld ?_
            try simp only [Act.put, List.setIfInBounds_toArray, List.set_cons_zero, List.set_cons_succ]
            refine wpAnyH_take (i := 14) (oi := ⟨some 86, _, _, _, _, _⟩) (v := .bool true) rfl (by kernel_rfl) (by kernel_rfl) (by kernel_rfl) (fun _ _ _ h => h) (Or.inl ⟨by kernel_rfl, fun W hW => by go_simp⟩) hHeld ?_
            try simp only [Act.put, List.setIfInBounds_toArray, List.set_cons_zero, List.set_cons_succ]
            refine wpAnyH_take (i := 15) (oi := ⟨some 87, _, _, _, _, _⟩) (v := undef) rfl (by kernel_rfl) (by kernel_rfl) (by kernel_rfl) (fun _ _ _ h => h) (Or.inr ⟨by kernel_rfl, rfl⟩) hHeld ?_
            try simp only [Act.put, List.setIfInBounds_toArray, List.set_cons_zero, List.set_cons_succ]
            refine wpAnyH_take (i := 16) (oi := ⟨some 88, _, _, _, _, _⟩) (v := undef) rfl (by kernel_rfl) (by kernel_rfl) (by kernel_rfl) (fun _ _ _ h => h) (Or.inr ⟨by kernel_rfl, rfl⟩) hHeld ?_
            try simp only [Act.put, List.setIfInBounds_toArray, List.set_cons_zero, List.set_cons_succ]
            refine wpAnyH_take (i := 17) (oi := ⟨some 89, _, _, _, _, _⟩) (v := undef) rfl (by kernel_rfl) (by kernel_rfl) (by kernel_rfl) (fun _ _ _ h => h) (Or.inr ⟨by kernel_rfl, rfl⟩) hHeld ?_
            try simp only [Act.put, List.setIfInBounds_toArray, List.set_cons_zero, List.set_cons_succ]
            refine wpAnyH_take (i := 18) (oi := ⟨some 90, _, _, _, _, _⟩) (v := undef) rfl (by kernel_rfl) (by kernel_rfl) (by kernel_rfl) (fun _ _ _ h => h) (Or.inr ⟨by kernel_rfl, rfl⟩) hHeld ?_
            try simp only [Act.put, List.setIfInBounds_toArray, List.set_cons_zero, List.set_cons_succ]
            refine wpAnyH_take (i := 19) (oi := ⟨some 91, _, _, _, _, _⟩) (v := undef) rfl (by kernel_rfl) (by kernel_rfl) (by kernel_rfl) (fun _ _ _ h => h) (Or.inr ⟨by kernel_rfl, rfl⟩) hHeld ?_
            try simp only [Act.put, List.setIfInBounds_toArray, List.set_cons_zero, List.set_cons_succ]
            refine wpAnyH_take (i := 20) (oi := ⟨some 92, _, _, _, _, _⟩) (v := .bool true) rfl (by kernel_rfl) (by kernel_rfl) (by kernel_rfl) (fun _ _ _ h => h) (Or.inl ⟨by kernel_rfl, fun W hW => by go_simp⟩) hHeld ?_
            try simp only [Act.put, List.setIfInBounds_toArray, List.set_cons_zero, List.set_cons_succ]
            refine wpAnyH_take (i := 21) (oi := ⟨some 93, _, _, _, _, _⟩) (v := .bool true) rfl (by kernel_rfl) (by kernel_rfl) (by kernel_rfl) (fun _ _ _ h => h) (Or.inl ⟨by kernel_rfl, fun W hW => by go_simp⟩) hHeld ?_
            try simp only [Act.put, List.setIfInBounds_toArray, List.set_cons_zero, List.set_cons_succ]
            refine wpAnyH_take (i := 22) (oi := ⟨some 94, _, _, _, _, _⟩) (v := .bool true) rfl (by kernel_rfl) (by kernel_rfl) (by kernel_rfl) (fun _ _ _ h => h) (Or.inl ⟨by kernel_rfl, fun W hW => by go_simp⟩) hHeld ?_
            try simp only [Act.put, List.setIfInBounds_toArray, List.set_cons_zero, List.set_cons_succ]
            refine wpAnyH_take (i := 23) (oi := ⟨some 95, _, _, _, _, _⟩) (v := (.slice sp j cap)) rfl (by kernel_rfl) (by kernel_rfl) (by kernel_rfl) (fun _ _ _ h => h) (Or.inl ⟨by kernel_rfl, fun W hW => by go_simp⟩) hHeld ?_
            try simp only [Act.put, List.setIfInBounds_toArray, List.set_cons_zero, List.set_cons_succ]
            refine wpAnyH_take (i := 24) (oi := ⟨some 96, _, _, _, _, _⟩) (v := .int .i64 (j : Int)) rfl (by kernel_rfl) (by kernel_rfl) (by kernel_rfl) (fun _ _ _ h => h) (Or.inl ⟨by kernel_rfl, fun W hW => by go_simp⟩) hHeld ?_
            try simp only [Act.put, List.setIfInBounds_toArray, List.set_cons_zero, List.set_cons_succ]
            refine wpAnyH_take (i := 25) (oi := ⟨some 97, _, _, _, _, _⟩) (v := .bool true) rfl (by kernel_rfl) (by kernel_rfl) (by kernel_rfl) (fun _ _ _ h => h) (Or.inl ⟨by kernel_rfl, fun W hW => by (go_simp <;> first | omega | (rw [IntKind.wrap_i64]; omega))⟩) hHeld ?_
            try simp only [Act.put, List.setIfInBounds_toArray, List.set_cons_zero, List.set_cons_succ]
            refine wpAnyH_take (i := 26) (oi := ⟨some 98, _, _, _, _, _⟩) (v := .bool true) rfl (by kernel_rfl) (by kernel_rfl) (by kernel_rfl) (fun _ _ _ h => h) (Or.inl ⟨by kernel_rfl, fun W hW => by go_simp⟩) hHeld ?_
            try simp only [Act.put, List.setIfInBounds_toArray, List.set_cons_zero, List.set_cons_succ]
            refine wpAnyH_take (i := 27) (oi := ⟨some 99, _, _, _, _, _⟩) (v := undef) rfl (by kernel_rfl) (by kernel_rfl) (by kernel_rfl) (fun _ _ _ h => h) (Or.inr ⟨by kernel_rfl, rfl⟩) hHeld ?_
            try simp only [Act.put, List.setIfInBounds_toArray, List.set_cons_zero, List.set_cons_succ]
            refine wpAnyH_take (i := 28) (oi := ⟨some 100, _, _, _, _, _⟩) (v := undef) rfl (by kernel_rfl) (by kernel_rfl) (by kernel_rfl) (fun _ _ _ h => h) (Or.inr ⟨by kernel_rfl, rfl⟩) hHeld ?_
            try simp only [Act.put, List.setIfInBounds_toArray, List.set_cons_zero, List.set_cons_succ]
            refine wpAnyH_take (i := 29) (oi := ⟨some 101, _, _, _, _, _⟩) (v := undef) rfl (by kernel_rfl) (by kernel_rfl) (by kernel_rfl) (fun _ _ _ h => h) (Or.inr ⟨by kernel_rfl, rfl⟩) hHeld ?_
            try simp only [Act.put, List.setIfInBounds_toArray, List.set_cons_zero, List.set_cons_succ]
            refine wpAnyH_take (i := 30) (oi := ⟨some 102, _, _, _, _, _⟩) (v := undef) rfl (by kernel_rfl) (by kernel_rfl) (by kernel_rfl) (fun _ _ _ h => h) (Or.inr ⟨by kernel_rfl, rfl⟩) hHeld ?_
            try simp only [Act.put, List.setIfInBounds_toArray, List.set_cons_zero, List.set_cons_succ]
            refine wpAnyH_take (i := 31) (oi := ⟨some 103, _, _, _, _, _⟩) (v := undef) rfl (by kernel_rfl) (by kernel_rfl) (by kernel_rfl) (fun _ _ _ h => h) (Or.inr ⟨by kernel_rfl, rfl⟩) hHeld ?_
            try simp only [Act.put, List.setIfInBounds_toArray, List.set_cons_zero, List.set_cons_succ]
            refine wpAnyH_take (i := 32) (oi := ⟨some 104, _, _, _, _, _⟩) (v := undef) rfl (by kernel_rfl) (by kernel_rfl) (by kernel_rfl) (fun _ _ _ h => h) (Or.inr ⟨by kernel_rfl, rfl⟩) hHeld ?_
            try simp only [Act.put, List.setIfInBounds_toArray, List.set_cons_zero, List.set_cons_succ]
            refine wpAnyH_take (i := 33) (oi := ⟨some 105, _, _, _, _, _⟩) (v := .bool true) rfl (by kernel_rfl) (by kernel_rfl) (by kernel_rfl) (fun _ _ _ h => h) (Or.inl ⟨by kernel_rfl, fun W hW => by go_simp⟩) hHeld ?_
            try simp only [Act.put, List.setIfInBounds_toArray, List.set_cons_zero, List.set_cons_succ]
            refine wpAnyH_take (i := 34) (oi := ⟨some 106, _, _, _, _, _⟩) (v := .bool true) rfl (by kernel_rfl) (by kernel_rfl) (by kernel_rfl) (fun _ _ _ h => h) (Or.inl ⟨by kernel_rfl, fun W hW => by go_simp⟩) hHeld ?_
            try simp only [Act.put, List.setIfInBounds_toArray, List.set_cons_zero, List.set_cons_succ]
            refine wpAnyH_take (i := 35) (oi := ⟨some 6, .assign (.tmp 106), 4, _, _, none⟩) (v := .bool true) rfl (by kernel_rfl) (by kernel_rfl) (by kernel_rfl) (fun _ _ _ h => h) (Or.inl ⟨by kernel_rfl, fun W hW => by go_simp⟩) hHeld ?_
            try simp only [Act.put, List.setIfInBounds_toArray, List.set_cons_zero, List.set_cons_succ]
            refine wpAnyH_done (by kernel_rfl) ?_ _
            have hfin := hHeld.2
            clear hHeld
            go_wp2
            go_ret
            exact ⟨rfl, hfin⟩
          · have hs3 : 2 * q < j := by omega
            have hlen : 1 ≤ zs.length := by have := HN.out; omega
            have hmost : r.most < 18446744073709551616 := HZ.out _ (HR.out.mem (fun e => by rw [e] at hlen; simp at hlen))
            clear hs2
            go_wp2_with fail
            refine wp_region_held_drew (S := fun w' => RowIn w.heap.size w w' g r) (by kernel_rfl) (rowIn_drew hrow7) (fun hHeld => ?_)
            refine wpAnyH_take (i := 0) (oi := ⟨some 72, _, _, _, _, _⟩) (v := .int .i64 (kx : Int)) rfl (by kernel_rfl) (by kernel_rfl) (by kernel_rfl) (fun _ _ _ h => h) (Or.inl ⟨by kernel_rfl, fun W hW => by go_simp⟩) hHeld ?_
            try simp only [Act.put, List.setIfInBounds_toArray, List.set_cons_zero, List.set_cons_succ]
            refine wpAnyH_take (i := 1) (oi := ⟨some 73, _, _, _, _, _⟩) (v := .int .i64 (ky : Int)) rfl (by kernel_rfl) (by kernel_rfl) (by kernel_rfl) (fun _ _ _ h => h) (Or.inl ⟨by kernel_rfl, fun W hW => by go_simp⟩) hHeld ?_
            try simp only [Act.put, List.setIfInBounds_toArray, List.set_cons_zero, List.set_cons_succ]
            refine wpAnyH_take (i := 2) (oi := ⟨some 74, _, _, _, _, _⟩) (v := .bool true) rfl (by kernel_rfl) (by kernel_rfl) (by kernel_rfl) (fun _ _ _ h => h) (Or.inl ⟨by kernel_rfl, fun W hW => by (go_simp <;> first | omega | (rw [IntKind.wrap_i64]; omega))⟩) hHeld ?_
            try simp only [Act.put, List.setIfInBounds_toArray, List.set_cons_zero, List.set_cons_succ]
            refine wpAnyH_take (i := 3) (oi := ⟨some 75, _, _, _, _, _⟩) (v := .bool true) rfl (by kernel_rfl) (by kernel_rfl) (by kernel_rfl) (fun _ _ _ h => h) (Or.inl ⟨by kernel_rfl, fun W hW => by go_simp⟩) hHeld ?_
            try simp only [Act.put, List.setIfInBounds_toArray, List.set_cons_zero, List.set_cons_succ]
            refine wpAnyH_take (i := 4) (oi := ⟨some 76, _, _, _, _, _⟩) (v := .int .i64 (p : Int)) rfl (by kernel_rfl) (by kernel_rfl) (by kernel_rfl) (fun _ _ _ h => h) (Or.inl ⟨by kernel_rfl, fun W hW => by go_simp⟩) hHeld ?_
            try simp only [Act.put, List.setIfInBounds_toArray, List.set_cons_zero, List.set_cons_succ]
            refine wpAnyH_take (i := 5) (oi := ⟨some 77, _, _, _, _, _⟩) (v := .int .i64 (2 * (p : Int))) rfl (by kernel_rfl) (by kernel_rfl) (by kernel_rfl) (fun _ _ _ h => h) (Or.inl ⟨by kernel_rfl, fun W hW => by (go_simp <;> first | omega | (rw [IntKind.wrap_i64]; omega))⟩) hHeld ?_
            try simp only [Act.put, List.setIfInBounds_toArray, List.set_cons_zero, List.set_cons_succ]
            refine wpAnyH_take (i := 6) (oi := ⟨some 78, _, _, _, _, _⟩) (v := (.slice sp j cap)) rfl (by kernel_rfl) (by kernel_rfl) (by kernel_rfl) (fun _ _ _ h => h) (Or.inl ⟨by kernel_rfl, fun W hW => by go_simp⟩) hHeld ?_
            try simp only [Act.put, List.setIfInBounds_toArray, List.set_cons_zero, List.set_cons_succ]
            refine wpAnyH_take (i := 7) (oi := ⟨some 79, _, _, _, _, _⟩) (v := .int .i64 (j : Int)) rfl (by kernel_rfl) (by kernel_rfl) (by kernel_rfl) (fun _ _ _ h => h) (Or.inl ⟨by kernel_rfl, fun W hW => by go_simp⟩) hHeld ?_
            try simp only [Act.put, List.setIfInBounds_toArray, List.set_cons_zero, List.set_cons_succ]
            refine wpAnyH_take (i := 8) (oi := ⟨some 80, _, _, _, _, _⟩) (v := .bool true) rfl (by kernel_rfl) (by kernel_rfl) (by kernel_rfl) (fun _ _ _ h => h) (Or.inl ⟨by kernel_rfl, fun W hW => by (go_simp <;> first | omega | (rw [IntKind.wrap_i64]; omega))⟩) hHeld ?_
            try simp only [Act.put, List.setIfInBounds_toArray, List.set_cons_zero, List.set_cons_succ]
            refine wpAnyH_take (i := 9) (oi := ⟨some 81, _, _, _, _, _⟩) (v := .bool true) rfl (by kernel_rfl) (by kernel_rfl) (by kernel_rfl) (fun _ _ _ h => h) (Or.inl ⟨by kernel_rfl, fun W hW => by go_simp⟩) hHeld ?_
            try simp only [Act.put, List.setIfInBounds_toArray, List.set_cons_zero, List.set_cons_succ]
            refine wpAnyH_take (i := 10) (oi := ⟨some 82, _, _, _, _, _⟩) (v := .bool true) rfl (by kernel_rfl) (by kernel_rfl) (by kernel_rfl) (fun _ _ _ h => h) (Or.inl ⟨by kernel_rfl, fun W hW => by go_simp⟩) hHeld ?_
            try simp only [Act.put, List.setIfInBounds_toArray, List.set_cons_zero, List.set_cons_succ]
            refine wpAnyH_take (i := 11) (oi := ⟨some 83, _, _, _, _, _⟩) (v := (.slice sp j cap)) rfl (by kernel_rfl) (by kernel_rfl) (by kernel_rfl) (fun _ _ _ h => h) (Or.inl ⟨by kernel_rfl, fun W hW => by go_simp⟩) hHeld ?_
            try simp only [Act.put, List.setIfInBounds_toArray, List.set_cons_zero, List.set_cons_succ]
            refine wpAnyH_take (i := 12) (oi := ⟨some 84, _, _, _, _, _⟩) (v := .int .i64 (j : Int)) rfl (by kernel_rfl) (by kernel_rfl) (by kernel_rfl) (fun _ _ _ h => h) (Or.inl ⟨by kernel_rfl, fun W hW => by go_simp⟩) hHeld ?_
            try simp only [Act.put, List.setIfInBounds_toArray, List.set_cons_zero, List.set_cons_succ]
            refine wpAnyH_take (i := 13) (oi := ⟨some 85, _, _, _, _, _⟩) (v := .bool false) rfl (by kernel_rfl) (by kernel_rfl) (by kernel_rfl) (fun _ _ _ h => h) (Or.inl ⟨by kernel_rfl, fun W hW => by (go_simp <;> first | omega | (rw [IntKind.wrap_i64]; omega))⟩) hHeld ?_
            try simp only [Act.put, List.setIfInBounds_toArray, List.set_cons_zero, List.set_cons_succ]
            refine wpAnyH_take (i := 14) (oi := ⟨some 86, _, _, _, _, _⟩) (v := .bool false) rfl (by kernel_rfl) (by kernel_rfl) (by kernel_rfl) (fun _ _ _ h => h) (Or.inl ⟨by kernel_rfl, fun W hW => by go_simp⟩) hHeld ?_
            try simp only [Act.put, List.setIfInBounds_toArray, List.set_cons_zero, List.set_cons_succ]
            refine wpAnyH_take (i := 15) (oi := ⟨some 87, _, _, _, _, _⟩) (v := .int .i64 (q : Int)) rfl (by kernel_rfl) (by kernel_rfl) (by kernel_rfl) (fun _ _ _ h => h) (Or.inl ⟨by kernel_rfl, fun W hW => by go_simp⟩) hHeld ?_
            try simp only [Act.put, List.setIfInBounds_toArray, List.set_cons_zero, List.set_cons_succ]
            refine wpAnyH_take (i := 16) (oi := ⟨some 88, _, _, _, _, _⟩) (v := .int .i64 (2 * (q : Int))) rfl (by kernel_rfl) (by kernel_rfl) (by kernel_rfl) (fun _ _ _ h => h) (Or.inl ⟨by kernel_rfl, fun W hW => by (go_simp <;> first | omega | (rw [IntKind.wrap_i64]; omega))⟩) hHeld ?_
            try simp only [Act.put, List.setIfInBounds_toArray, List.set_cons_zero, List.set_cons_succ]
            refine wpAnyH_take (i := 17) (oi := ⟨some 89, _, _, _, _, _⟩) (v := (.slice sp j cap)) rfl (by kernel_rfl) (by kernel_rfl) (by kernel_rfl) (fun _ _ _ h => h) (Or.inl ⟨by kernel_rfl, fun W hW => by go_simp⟩) hHeld ?_
            try simp only [Act.put, List.setIfInBounds_toArray, List.set_cons_zero, List.set_cons_succ]
            refine wpAnyH_take (i := 18) (oi := ⟨some 90, _, _, _, _, _⟩) (v := .int .i64 (j : Int)) rfl (by kernel_rfl) (by kernel_rfl) (by kernel_rfl) (fun _ _ _ h => h) (Or.inl ⟨by kernel_rfl, fun W hW => by go_simp⟩) hHeld ?_
            try simp only [Act.put, List.setIfInBounds_toArray, List.set_cons_zero, List.set_cons_succ]
            refine wpAnyH_take (i := 19) (oi := ⟨some 91, _, _, _, _, _⟩) (v := .bool true) rfl (by kernel_rfl) (by kernel_rfl) (by kernel_rfl) (fun _ _ _ h => h) (Or.inl ⟨by kernel_rfl, fun W hW => by (go_simp <;> first | omega | (rw [IntKind.wrap_i64]; omega))⟩) hHeld ?_
            try simp only [Act.put, List.setIfInBounds_toArray, List.set_cons_zero, List.set_cons_succ]
            refine wpAnyH_take (i := 20) (oi := ⟨some 92, _, _, _, _, _⟩) (v := .bool true) rfl (by kernel_rfl) (by kernel_rfl) (by kernel_rfl) (fun _ _ _ h => h) (Or.inl ⟨by kernel_rfl, fun W hW => by go_simp⟩) hHeld ?_
            try simp only [Act.put, List.setIfInBounds_toArray, List.set_cons_zero, List.set_cons_succ]
            refine wpAnyH_take (i := 21) (oi := ⟨some 93, _, _, _, _, _⟩) (v := .bool true) rfl (by kernel_rfl) (by kernel_rfl) (by kernel_rfl) (fun _ _ _ h => h) (Or.inl ⟨by kernel_rfl, fun W hW => by go_simp⟩) hHeld ?_
            try simp only [Act.put, List.setIfInBounds_toArray, List.set_cons_zero, List.set_cons_succ]
            refine wpAnyH_take (i := 22) (oi := ⟨some 94, _, _, _, _, _⟩) (v := .bool true) rfl (by kernel_rfl) (by kernel_rfl) (by kernel_rfl) (fun _ _ _ h => h) (Or.inl ⟨by kernel_rfl, fun W hW => by go_simp⟩) hHeld ?_
            try simp only [Act.put, List.setIfInBounds_toArray, List.set_cons_zero, List.set_cons_succ]
            refine wpAnyH_take (i := 23) (oi := ⟨some 95, _, _, _, _, _⟩) (v := (.slice sp j cap)) rfl (by kernel_rfl) (by kernel_rfl) (by kernel_rfl) (fun _ _ _ h => h) (Or.inl ⟨by kernel_rfl, fun W hW => by go_simp⟩) hHeld ?_
            try simp only [Act.put, List.setIfInBounds_toArray, List.set_cons_zero, List.set_cons_succ]
            refine wpAnyH_take (i := 24) (oi := ⟨some 96, _, _, _, _, _⟩) (v := .int .i64 (j : Int)) rfl (by kernel_rfl) (by kernel_rfl) (by kernel_rfl) (fun _ _ _ h => h) (Or.inl ⟨by kernel_rfl, fun W hW => by go_simp⟩) hHeld ?_
            try simp only [Act.put, List.setIfInBounds_toArray, List.set_cons_zero, List.set_cons_succ]
            refine wpAnyH_take (i := 25) (oi := ⟨some 97, _, _, _, _, _⟩) (v := .bool false) rfl (by kernel_rfl) (by kernel_rfl) (by kernel_rfl) (fun _ _ _ h => h) (Or.inl ⟨by kernel_rfl, fun W hW => by (go_simp <;> first | omega | (rw [IntKind.wrap_i64]; omega))⟩) hHeld ?_
            try simp only [Act.put, List.setIfInBounds_toArray, List.set_cons_zero, List.set_cons_succ]
            refine wpAnyH_take (i := 26) (oi := ⟨some 98, _, _, _, _, _⟩) (v := .bool false) rfl (by kernel_rfl) (by kernel_rfl) (by kernel_rfl) (fun _ _ _ h => h) (Or.inl ⟨by kernel_rfl, fun W hW => by go_simp⟩) hHeld ?_
            try simp only [Act.put, List.setIfInBounds_toArray, List.set_cons_zero, List.set_cons_succ]
            refine wpAnyH_take (i := 27) (oi := ⟨some 99, _, _, _, _, _⟩) (v := .agg r.vals.toArray) rfl (by kernel_rfl) (by kernel_rfl) (by kernel_rfl) (fun _ _ _ h => h) (yieldsIf_load_mid (by rfl) 42 _ rfl g 0 (by rfl) r.vals _ (fun _ h => rowIn_range h) Tryz.underlying42 rfl hi) hHeld ?_
            try simp only [Act.put, List.setIfInBounds_toArray, List.set_cons_zero, List.set_cons_succ]
            refine wpAnyH_take (i := 29) (oi := ⟨some 101, _, _, _, _, _⟩) (v := .pointer (some ⟨g, 3, none⟩)) rfl (by kernel_rfl) (by kernel_rfl) (by kernel_rfl) (fun _ _ _ h => h) (Or.inl ⟨by kernel_rfl, fun W hW => by go_simp⟩) hHeld ?_
            try simp only [Act.put, List.setIfInBounds_toArray, List.set_cons_zero, List.set_cons_succ]
            refine wpAnyH_take (i := 30) (oi := ⟨some 102, _, _, _, _, _⟩) (v := .int .u64 (r.most : Int)) rfl (by kernel_rfl) (by kernel_rfl) (by kernel_rfl) (fun _ _ _ h => h) (Or.inl ⟨by kernel_rfl, fun W hW => by (have hmo := rowIn_most hW; go_simp)⟩) hHeld ?_
            try simp only [Act.put, List.setIfInBounds_toArray, List.set_cons_zero, List.set_cons_succ]
            refine wpAnyH_ready (rs := [28]) (by kernel_rfl) (by simp) ?_
            refine AllReadyH.cons (o := _) rfl (fun K hK => ?_) AllReadyH.nil
            go_simp
            refine (Tryz.at_call (r := r) (s := 1) (o := 1) _ HPS.out hcn (by omega) (by omega) (by omega)).mono ?_
            rintro e w8 ⟨kt, hkt, rfl, hb8⟩
            try go_simp
            refine hK.out _ _ (rowIn_step hb8 hHeld (Nat.le_refl _)) (fun hHeld2 => ?_)
            clear hK K
            try simp only [Act.put, List.setIfInBounds_toArray, List.set_cons_zero, List.set_cons_succ]
            clear hHeld
            have hHeld := hHeld2
            clear hHeld2
            refine wpAnyH_ready (rs := [31]) (by kernel_rfl) (by simp) ?_
            refine AllReadyH.cons (o := _) rfl (fun K hK => ?_) AllReadyH.nil
            go_simp
            refine (Tryz.class_any r.most _ hmost).mono ?_
            rintro e w9 ⟨rfl, rfl⟩
            try go_simp
            refine hK.out _ _ (hHeld) (fun hHeld2 => ?_)
            clear hK K
            try simp only [Act.put, List.setIfInBounds_toArray, List.set_cons_zero, List.set_cons_succ]
            clear hHeld
            have hHeld := hHeld2
            clear hHeld2
            have htop : kt = Lib.bitLen r.most := shares_top HR.out HZ.out hkt hlen
            have HT0 := Lib.hid htop
            clear htop
            rw [← HT0.out]
            clear HT0
            refine wpAnyH_take (i := 32) (oi := ⟨some 104, _, _, _, _, _⟩) (v := .bool true) rfl (by kernel_rfl) (by kernel_rfl) (by kernel_rfl) (fun _ _ _ h => h) (Or.inl ⟨by kernel_rfl, fun W hW => by (go_simp <;> first | omega | (rw [IntKind.wrap_i64]; omega))⟩) hHeld ?_
            try simp only [Act.put, List.setIfInBounds_toArray, List.set_cons_zero, List.set_cons_succ]
            refine wpAnyH_take (i := 33) (oi := ⟨some 105, _, _, _, _, _⟩) (v := .bool true) rfl (by kernel_rfl) (by kernel_rfl) (by kernel_rfl) (fun _ _ _ h => h) (Or.inl ⟨by kernel_rfl, fun W hW => by go_simp⟩) hHeld ?_
            try simp only [Act.put, List.setIfInBounds_toArray, List.set_cons_zero, List.set_cons_succ]
            refine wpAnyH_take (i := 34) (oi := ⟨some 106, _, _, _, _, _⟩) (v := .bool true) rfl (by kernel_rfl) (by kernel_rfl) (by kernel_rfl) (fun _ _ _ h => h) (Or.inl ⟨by kernel_rfl, fun W hW => by go_simp⟩) hHeld ?_
            try simp only [Act.put, List.setIfInBounds_toArray, List.set_cons_zero, List.set_cons_succ]
            refine wpAnyH_take (i := 35) (oi := ⟨some 6, .assign (.tmp 106), 4, _, _, none⟩) (v := .bool true) rfl (by kernel_rfl) (by kernel_rfl) (by kernel_rfl) (fun _ _ _ h => h) (Or.inl ⟨by kernel_rfl, fun W hW => by go_simp⟩) hHeld ?_
            try simp only [Act.put, List.setIfInBounds_toArray, List.set_cons_zero, List.set_cons_succ]
            refine wpAnyH_done (by kernel_rfl) ?_ _
            have hfin := hHeld.2
            clear hHeld
            go_wp2
            go_ret
            exact ⟨rfl, hfin⟩
end Go.Proofs
