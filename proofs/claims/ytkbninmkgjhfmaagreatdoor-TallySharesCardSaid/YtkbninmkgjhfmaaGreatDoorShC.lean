/- The statement TallyShares (layer 36): whatever the list, and whatever the two shares, the law's call returns true, and every argument reads behind the call as it read before: the tied card. Conditions: none beyond the row's own (the listed variables as the program's text lays them). -/
import Derived.Test.YtkbninmkgjhfmaaGreatDoorShR
set_option maxHeartbeats 400000
namespace Go.Proofs.YtkbninmkgjhfmaaGreatDoor.TallyShares
open Go Go.Det Go.RowKit Go.ChangeShapes Go.WideShapes Go.ChangeAt

theorem own : ownKnob Tryz.prog.godebug = none := by kernel_rfl
theorem laidOut : laidOutB Tryz.prog = true := by kernel_rfl

/-- A slice of integers that came in. -/
def IsRow (k : IntKind) (w : World) (a : Option Addr) (len cap : Nat) (zs : List Int) : Prop :=
  (a = none ∧ len = 0 ∧ cap = 0 ∧ zs = []) ∨
  ∃ x, a = some x ∧ len ≤ cap ∧ cap ≤ maxLen ∧ zs.length = cap ∧ (∀ i, i < zs.length → w.cell? (x.add i) = some (.int k (zs.getD i 0))) ∧ ∀ n ∈ zs, (Lit.int k n).wf = true

theorem u64_of {n : Int} (h : (Lit.int .u64 n).wf = true) : ∃ m : Nat, n = m ∧ m < 18446744073709551616 := by
  have := bounds_u64 h
  exact ⟨n.toNat, by omega, by omega⟩
theorem u32_of {n : Int} (h : (Lit.int .u32 n).wf = true) : ∃ m : Nat, n = m ∧ m < 4294967296 := by
  have := bounds_u32 h
  exact ⟨n.toNat, by omega, by omega⟩

theorem spot_none {w : World} {x : Addr} {v : Value} (h : w.cell? x = some v) : x.spot = none := by
  unfold World.cell? at h
  split at h
  · split at h
    · cases h
    · rename_i hs; cases hx : x.spot <;> simp_all
  · cases h
theorem add_zero (x : Addr) : x.add 0 = x := by simp [Addr.add]

theorem walk (a0 : Option Addr) (len0 cap0 : Nat) (z0 : List Int) (a1 : Int) (a2 : Int) (w : World) (hg : GlobsIn tallyGl w) (w0 : IsRow .u64 w a0 len0 cap0 z0) (w1 : (Lit.int .u32 a1).wf = true) (w2 : (Lit.int .u32 a2).wf = true) :
    Calls Tryz.prog 5 #[.slice a0 len0 cap0, .int .u32 a1, .int .u32 a2] w fun e w' => e = .returned (.bool true) ∧ Below w.heap.size w w' := by
  obtain ⟨a, rfl, ha⟩ := u32_of w1
  obtain ⟨b, rfl, hb⟩ := u32_of w2
  by_cases hl : 100 < len0
  · refine Tryz.shares_long len0 a b w hg hl a0 cap0 ?_
    rcases w0 with ⟨_, rfl, _, _⟩ | ⟨x, _, h1, h2, _⟩
    · omega
    · unfold maxLen at h2; omega
  · have key : ∀ zs : List Nat, zs.length = len0 → (∀ n ∈ zs, n < 18446744073709551616) → (0 < zs.length → ∃ bl off, a0 = some ⟨bl, off, none⟩ ∧ bl < w.heap.size ∧ ∀ k, k < zs.length → w.cell? ⟨bl, off + k, none⟩ = some (.int .u64 (zs.getD k 0 : Int))) →
        Calls Tryz.prog 5 #[.slice a0 len0 cap0, .int .u32 (a : Int), .int .u32 (b : Int)] w fun e w' => e = .returned (.bool true) ∧ Below w.heap.size w w' := fun zs h1 h2 h3 => by
      have h := Tryz.shares_main zs a b cap0 a0 w hg (by omega) h2 ha hb h3
      rw [h1] at h
      exact h
    rcases w0 with ⟨rfl, rfl, rfl, rfl⟩ | ⟨x, rfl, h1, h2, h3, h4, h5⟩
    · exact key [] rfl (fun n hn => by cases hn) (fun h => by cases h)
    · have hlen : ((z0.take len0).map Int.toNat).length = len0 := by rw [List.length_map, List.length_take]; omega
      refine key ((z0.take len0).map Int.toNat) hlen ?_ ?_
      · intro n hn
        obtain ⟨z, hz, rfl⟩ := List.mem_map.1 hn
        obtain ⟨m, rfl, hm⟩ := u64_of (h5 z (List.mem_of_mem_take hz))
        simpa using hm
      · intro hpos
        rw [hlen] at hpos ⊢
        have hsp := spot_none (h4 0 (by omega))
        rw [add_zero] at hsp
        obtain ⟨bl, off, sp⟩ := x
        simp only at hsp
        subst hsp
        have hadd : ∀ i, (⟨bl, off, none⟩ : Addr).add i = ⟨bl, off + i, none⟩ := fun i => by unfold Addr.add; split <;> simp_all
        refine ⟨bl, off, rfl, ?_, fun k hk => ?_⟩
        · have := h4 0 (by omega)
          rw [hadd] at this
          exact block_lt_of_cell this
        · have hk2 : k < z0.length := by omega
          have := h4 k hk2
          rw [hadd] at this
          rw [this]
          have hzk : z0.getD k 0 = z0[k] := by simp [List.getD_eq_getElem?_getD, List.getElem?_eq_getElem hk2]
          obtain ⟨m, hm, _⟩ := u64_of (h5 z0[k] (List.getElem_mem hk2))
          have e2 : ((z0.take len0).map Int.toNat).getD k 0 = z0[k].toNat := by
            rw [List.getD_eq_getElem?_getD, List.getElem?_map, List.getElem?_take_of_lt hk, List.getElem?_eq_getElem hk2]
            rfl
          rw [e2, hzk, hm]
          simp

/-! ### The row -/
set_option maxRecDepth 100000 in
theorem lifted (os : Os) (started : os.Started) (H : Type) (enc : TypeId × Value → H) :
    ReturnsInHanded {} Tryz.checked os 5 .any (fun w args => (Rows.tallySharesSpec.pre enc Tryz.prog Tryz.f5 Rows.tallySharesRow.domain false w args ∧ laidMetH Tryz.prog tallyLaid w) ∧ sizedMet enc Tryz.prog Tryz.f5 (OpenSpec.ofChange Rows.tallySharesSpec) false w args)
      (Rows.tallySharesSpec.post enc Tryz.prog Tryz.f5 false true false false) := by
  refine returns_laid_shaped (C := Tryz.checked) (X := fun w _ => laidMetH Tryz.prog tallyLaid w) (fun _ _ _ hh h => h.of_heap hh) own started (by kernel_rfl) Tryz.func5
    (ChangeSpec.witness_shaped (enc := enc) (C := Tryz.checked) (os := os) (X := fun w _ => laidMetH Tryz.prog tallyLaid w) false (World.laidAll Tryz.prog os tallyLaid) #[.slice none 0 0, .int .u32 0, .int .u32 0] 8 (World.laidAll_os _ _ _)
      (World.shaped_of_ZipB (by kernel_rfl) (by kernel_rfl)) (by kernel_rfl) (by kernel_rfl) (by kernel_rfl)
      (by rw [MakeChecks.laidMetH_plain _ _ _ (by kernel_rfl)]; exact laidMet_laidAll _ (by kernel_rfl) (by kernel_rfl))) ?_
  intro W base args ds gs before hval0 hW _ hL hsh
  have hgl := globs_of hL hsh
  have hval : ∀ (j : Nat) t v, Tryz.f5.params[j]? = some t → args[j]? = some v → Value.okWide Tryz.prog W .any base t v := hval0
  have hW' := hW
  obtain ⟨p, q, hA0, hV, rfl, hfz, hnd⟩ := hW
  have hA : DataW.TrodAll enc Tryz.prog W 0 (fun _ => true) true Tryz.f5.params.toList args.toList ds p := hA0
  rw [Tryz.params5] at hA hval
  obtain ⟨v0, vs0, d0, ds0, p0, q0, hargs, rfl, rfl, h0, r0⟩ := trodAll_cons hA
  obtain ⟨v1, vs1, d1, ds1, p1, q1, rfl, rfl, rfl, h1, r1⟩ := trodAll_cons r0
  obtain ⟨v2, vs2, d2, ds2, p2, q2, rfl, rfl, rfl, h2, r2⟩ := trodAll_cons r1
  obtain ⟨rfl, rfl, rfl⟩ := trodAll_nil r2
  obtain rfl : args = #[v0, v1, v2] := by cases args; simp_all
  obtain ⟨rfl, rfl⟩ := trodVars_none hV
  obtain ⟨a0, len0, cap0, rfl⟩ := okWide_slice Tryz.underlying49 (hval 0 49 v0 rfl rfl)
  have k0 := h0
  have lt0 : ∀ x ∈ p0, x.block < W.heap.size := by obtain ⟨m, hm⟩ := k0; exact DataW.trod_lt m _ _ _ hm
  obtain ⟨z0, w0⟩ : ∃ zs, IsRow .u64 W a0 len0 cap0 zs := by
    obtain ⟨fuel, hf⟩ := h0
    rcases open_ints Tryz.underlying49 Tryz.underlying27 (by kernel_rfl) hf with ⟨hcs, _⟩ | ⟨x, l, c, zs, hcs, _, hl, hm, hz, _, hcell, hwz⟩
    · simp [Value.cells] at hcs
      obtain ⟨rfl, rfl, rfl⟩ := hcs
      exact ⟨[], .inl ⟨rfl, rfl, rfl, rfl⟩⟩
    · simp [Value.cells] at hcs
      obtain ⟨rfl, rfl, rfl⟩ := hcs
      exact ⟨zs, .inr ⟨_, rfl, hl, hm, by simpa using hz, hcell, hwz⟩⟩
  obtain ⟨a1, rfl, rfl, rfl, w1⟩ := open_int Tryz.underlying55 (hval 1 55 v1 rfl rfl) h1
  obtain ⟨a2, rfl, rfl, rfl, w2⟩ := open_int Tryz.underlying55 (hval 2 55 v2 rfl rfl) h2
  clear hA0 hval0
  refine (walk a0 len0 cap0 z0 a1 a2 W hgl w0 w1 w2).mono fun e W' ⟨he, bel⟩ => ?_
  subst he
  exact ⟨_, rfl, _, _, _, [], _, [], hW', trodAll_mk1 (shut_bool Tryz.underlying4 _), (trodAll_cons_mk (Below.trod laidOut (by kernel_rfl) (of_decide_eq_true (by kernel_rfl)) k0 bel lt0) (trodAll_cons_mk (shut_int Tryz.underlying55 w1) (trodAll_cons_mk (shut_int Tryz.underlying55 w2) trodAll_mk0))), rfl, bel.frame _, fun h => by cases h⟩

theorem row_holds : Rows.TallySharesSaid :=
  OpenClaim.holds_of_wide 5 Tryz.f5 rfl rfl rfl rfl rfl rfl rfl ⟨rfl, rfl, rfl, rfl, rfl⟩ rfl rfl rfl rfl rfl (by kernel_rfl) Tryz.func5 (by kernel_rfl)
    (of_decide_eq_true (by kernel_rfl)) (by unfold Func.isWrapper; first | (rw [if_pos (by decide +kernel)]; kernel_rfl) | (rw [if_neg (by decide +kernel)]; exact ⟨rfl, rfl⟩))
    (fun os started H enc _ => lifted os started H enc)
end Go.Proofs.YtkbninmkgjhfmaaGreatDoor.TallyShares
namespace Go.Proofs.YtkbninmkgjhfmaaGreatDoor
open Go
theorem tallyShares_card : Rows.TallySharesCardSaid :=
  Claim7.holds_tied_plain_at .later [] [.data, .data, .pinned] true (true, "d0f7a9e2267018b885dd953d2d27a66dfc7a9431037c5b2fcb12aebcb5a7609f") false TallyShares.row_holds (fun _ h => by cases h) (by kernel_rfl) (fun _ h => by cases h) tallyShares_row_tie rfl ⟨rfl, rfl⟩ (by kernel_rfl) rfl
    (fun f fn hf hfn => by
      obtain rfl : f = 5 := Option.some.inj ((show Tryz.prog.funcNamed "taproot/taprootlaw36.TallyShares" = some 5 by kernel_rfl).symm.trans hf) |>.symm
      obtain rfl : fn = Tryz.f5 := (Option.some.inj (Tryz.func5.symm.trans hfn)).symm
      exact ⟨by kernel_rfl, fun j t ht => by
        rw [Tryz.params5] at ht
        have hm : t ∈ [49, 55, 55] := by simpa using Array.mem_of_getElem? ht
        have hall : ([49, 55, 55].all fun u => !Tryz.prog.wantsStandIn u) = true := by kernel_rfl
        exact (show Tryz.prog.wantsStandIn t = false by simpa using List.all_eq_true.1 hall t hm)⟩)
    (by kernel_rfl)
#print axioms tallyShares_card
end Go.Proofs.YtkbninmkgjhfmaaGreatDoor
