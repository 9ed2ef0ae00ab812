/- The tally dump: contract of Row.At. -/
import Derived.Test.YtkbninmkgjhfmaaGreatDoorShB1
import Derived.LoopTactic
import Derived.WalkSmall
import Derived.Deep.LoopGhost
import Derived.Outline
import Derived.Deep.DeepFit
set_option maxHeartbeats 400000
namespace Go.Proofs
open Go Go.RowKit

/-- An array's element, by value. -/
theorem run_index_arr {P : Program} (t e : TypeId) (n : Nat) (cs : Array Value) (k : Nat) (v : Value) (w : World) (h : P.underlying t = some (.array n e)) (ha : (isAgg e).run P w = .ok false w)
    (hs : (sizeOf e).run P w = .ok 1 w) (hk : k < n) (hv : cs[k]? = some v) : (Instr.index t (.agg cs) (.int .i64 (k : Int))).run P w = .ok v w := by
  have hk' : (0 : Int) ≤ k ∧ (k : Int) < n := by omega
  simp [Instr.index, run_underlying h, asIntOf, hk', hk, part, ha, hs, hv]

/-- A row of cells that lies within a block, loaded as one value. -/
theorem run_loadVar_part {P : Program} (w : World) (g o : Nat) (ty : TypeId) (cs : Array Value) (d : TypeDesc) (hc : ∀ j v, cs[j]? = some v → w.cell? ⟨g, o + j, none⟩ = some v)
    (hu : P.underlying ty = some d) (hd : (match d with | .struct _ | .array _ _ => true | _ => false) = true) (hi : (P.info? ty).map (·.size) = some cs.size) :
    (loadVar ty ⟨g, o, none⟩).run P w = .ok (.agg cs) w := by
  have hl : (loadCells ⟨g, o, none⟩ cs.toList.length).run P w = .ok cs.toList.toArray w :=
    run_loadCells_list (P := P) w ⟨g, o, none⟩ cs.toList (fun j v hv => by
      have hadd : (⟨g, o, none⟩ : Addr).add j = ⟨g, o + j, none⟩ := by unfold Addr.add; split <;> simp_all
      rw [hadd]
      exact hc j v (by simpa using hv))
  cases hq : P.info? ty with
  | none => simp [hq] at hi
  | some i =>
    have hs : i.size = cs.size := by simpa [hq] using hi
    have hagg : (isAgg ty).run P w = .ok true w := by
      unfold isAgg
      rw [Sem.run_bind, run_underlying hu w]
      cases d <;> simp_all
    simp only [Array.length_toList, Array.toArray_toList] at hl
    simp [loadVar, Sem.run_bind, hagg, sizeOf, typeInfo, hq, hs, hl]

theorem wpList_load_part {P : Program} {ops : Array Oper} {rest : List Oper} {o : Oper} {a : Act} {w : World} {Q : Exit → Act → World → Prop} (hgd : o.guard = none) (ty : TypeId) (x : Operand) (ho : o.op = .load ty x)
    (g off : Nat) (hx : a.eval x = .pointer (some ⟨g, off, none⟩)) (cs : Array Value) (d : TypeDesc) (hc : ∀ j v, cs[j]? = some v → w.cell? ⟨g, off + j, none⟩ = some v)
    (hu : P.underlying ty = some d) (hd : (match d with | .struct _ | .array _ _ => true | _ => false) = true) (hi : (P.info? ty).map (·.size) = some cs.size)
    (h : wpList P ops Q rest (a.put o.dst (.agg cs)) w) : wpList P ops Q (o :: rest) a w :=
  wpList_plain hgd fun _ hK => by
    unfold Oper.wp execOp
    simp only [ho, hx, Instr.loadAt, Instr.sureAddr, Sem.run_bind, Sem.run_pure, Result.andThen_ok, run_loadVar_part w g off ty cs d hc hu hd hi]
    exact hK _ _ h

def psum (f : Nat → Nat) : Nat → Nat
  | 0 => 0
  | n + 1 => psum f n + f n
theorem psum_mono (f : Nat → Nat) {a b : Nat} (h : a ≤ b) : psum f a ≤ psum f b := by
  induction b with
  | zero => rw [Nat.le_zero.1 h]; exact Nat.le_refl _
  | succ b ih =>
    rcases Nat.lt_or_ge b a with h1 | h1
    · rw [show a = b + 1 from by omega]; exact Nat.le_refl _
    · exact Nat.le_trans (ih h1) (Nat.le_add_right _ _)

theorem needN_pos (c s o : Nat) (hc : 1 ≤ c) (hs : 1 ≤ s) (ho : 1 ≤ o) : 1 ≤ needN c s o := by
  unfold needN
  split
  · exact hc
  · have : 1 ≤ c * s := Nat.mul_le_mul hc hs
    exact (Nat.le_div_iff_mul_le (by omega)).2 (by omega)
theorem needN_le (c s o : Nat) (ho : 1 ≤ o) : needN c s o ≤ c := by
  unfold needN
  split
  · exact Nat.le_refl _
  · rename_i h
    have h1 : c * s ≤ c * (o - 1) := Nat.mul_le_mul_left _ (by omega)
    have h2 : c * (o - 1) + c = c * o := by rw [Nat.mul_sub, Nat.mul_one]; have : c * 1 ≤ c * o := Nat.mul_le_mul_left _ ho; omega
    rcases Nat.eq_zero_or_pos c with rfl | hc
    · have e : (0 * s + o - 1) / o = 0 := Nat.div_eq_of_lt (by omega)
      omega
    · exact Nat.le_of_lt_succ ((Nat.div_lt_iff_lt_mul (by omega)).2 (by rw [Nat.succ_mul]; omega))

/-- The first place whose sum is enough. -/
def IsAt (f : Nat → Nat) (least r : Nat) : Prop := r < 65 ∧ least ≤ psum f (r + 1) ∧ psum f r < least

set_option maxRecDepth 100000 in
theorem Tryz.at_any (R C : Array Value) (f : Nat → Nat) (cnt s o : Nat) (w : World) (hR : R.size = 69) (h0 : R[0]? = some (.int .u64 (cnt : Int))) (hC : C.size = 65) (hRC : ∀ j v, C[j]? = some v → R[4 + j]? = some v)
    (hf : ∀ k : Nat, k < 65 → C[k]? = some (.int .u64 (f k : Int))) (hs : psum f 65 = cnt)
    (hc1 : 1 ≤ cnt) (hc : cnt ≤ 100) (hs1 : 1 ≤ s) (hs2 : s ≤ 4294967295) (ho : 1 ≤ o) (ho2 : o ≤ 4294967295) :
    Calls Tryz.prog 20 #[.agg R, .int .u64 s, .int .u64 o] w fun e w' => ∃ r : Nat, IsAt f (needN cnt s o) r ∧ e = .returned (.int .i64 r) ∧ Below w.heap.size w w' := by
  have H0 : ((cnt : Int) == 0) = false := by simp; omega
  have H1 : ((s : Int) == 0) = false := by simp; omega
  have H2 : ((o : Int) == 0) = false := by simp; omega
  have HF := Lib.hid hf
  have HRC := Lib.hid hRC
  have HS := Lib.hid hs
  have HR := Lib.hid hR
  have HC := Lib.hid hC
  clear hf hRC hs hR hC
  have hL1 := needN_pos cnt s o hc1 hs1 ho
  have hL2 := needN_le cnt s o ho
  have N := fun W => Tryz.need_any cnt s o W hc hs2 ho ho2
  generalize needN cnt s o = L at *
  have N' := Lib.hid N
  clear N
  go_enter Tryz.func20, Tryz.ntmps20
  go_wp2_with (first
    | (go_at_call 31; refine (N'.out _).mono ?_; rintro e w' ⟨rfl, n, rfl⟩)
    | (refine wpList_load_part rfl 40 _ rfl _ 4 rfl C _ ?c1 Tryz.underlying40 rfl ?c2 ?_))
  case c1 =>
    intro j v hv
    have := HRC.out j v hv
    simp [this]
  case c2 => rw [HC.out]; kernel_rfl
  have hix : ∀ (W : World) (k : Nat), k < 65 → (Instr.index 40 (.agg C) (.int .i64 (k : Int))).run Tryz.prog W = .ok (.int .u64 (f k : Int)) W := fun W k hk =>
    run_index_arr 40 27 65 C k _ W Tryz.underlying40 (by kernel_rfl) (by kernel_rfl) hk (HF.out k hk)
  have HIX := Lib.hid hix
  clear hix
  go_loop [8, 29] (fun sn i => ∃ k : Nat, k < 65 ∧ i = .int .i64 (k : Int) ∧ sn = .int .u64 (psum f k : Int) ∧ psum f k < L) (fun _ i => 65 - (intOf i).toNat)
  case atStart => exact ⟨0, by omega, rfl, rfl, hL1⟩
  case round =>
    obtain ⟨k, hk, rfl, rfl, hlt⟩ := hrel
    have hx := HIX.out
    have hm := psum_mono f (show k + 1 ≤ 65 from hk)
    have he : psum f (k + 1) = psum f k + f k := rfl
    rw [HS.out, he] at hm
    have HE := Lib.hid he
    clear he
    by_cases hb : L ≤ psum f k + f k
    · have hxk := fun W => hx W k hk
      clear hx
      go_wp2
      go_ret
      exact ⟨k, ⟨hk, by rw [HE.out]; exact hb, hlt⟩, rfl, below_drewN ((Below.refl _ _).alloc (Nat.le_refl _) _) _⟩
    · have hk2 : k + 1 < 65 := by
        rcases Nat.lt_or_ge (k + 1) 65 with h | h
        · exact h
        · exfalso
          have e : k = 64 := by omega
          subst e
          have := HS.out
          have h65 : psum f 65 = psum f 64 + f 64 := rfl
          omega
      have hxk := fun W => hx W k hk
      clear hx
      go_wp2
      go_round
      case rel => exact ⟨k + 1, hk2, by go_num, by rw [HE.out]; go_num, by rw [HE.out]; omega⟩
      case measure => simp [intOf]; omega
end Go.Proofs
