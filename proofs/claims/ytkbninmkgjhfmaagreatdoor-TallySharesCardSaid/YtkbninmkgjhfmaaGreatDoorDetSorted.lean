/- slices.Sorted at maps.Keys' value, keys of a string's kind: the evaluator's word for it, over the library's contract. Conditions: none beyond those of each theorem. -/
import Derived.Test.YtkbninmkgjhfmaaGreatDoorDetClosed
import Derived.Sort.KeysCollected
set_option maxHeartbeats 400000
namespace Go.Det
open Go Go.RowKit Go.Maps Go.Sort
open Go.Proofs (encStr)
open Go.WideElems (Fit rd rg rd_mk rg_of)
section
variable {B : Nat → Prop} {w0 w w' : World} {ρ : Rho} {σ σ' : AS} {E : Env}

def ltS : List UInt8 → List UInt8 → Bool
  | _, [] => false
  | [], _ :: _ => true
  | a :: x, b :: y => cond (Nat.blt a.toNat b.toNat) true (cond (Nat.beq a.toNat b.toNat) (ltS x y) false)

theorem ltS_iff : ∀ {x y : List UInt8}, ltS x y = true ↔ x < y
  | x, [] => by cases x <;> simp [ltS]
  | [], b :: y => by simp [ltS]
  | a :: x, b :: y => by
    rw [List.cons_lt_cons_iff, ltS, ← ltS_iff (x := x) (y := y), UInt8.lt_iff_toNat_lt]
    cases h : Nat.blt a.toNat b.toNat with
    | true => simp only [cond, true_iff]; exact .inl (blt_lt h)
    | false =>
      have h1 : ¬ a.toNat < b.toNat := fun hl => by rw [lt_blt hl] at h; cases h
      simp only [cond]
      cases h2 : Nat.beq a.toNat b.toNat with
      | true =>
        have : a = b := UInt8.toNat_inj.1 (Nat.eq_of_beq_eq_true h2)
        simp [this]
      | false =>
        have : a ≠ b := fun e => by rw [e] at h2; simp at h2
        simp [h1, this]

def insK (x : List UInt8) : List (List UInt8) → List (List UInt8)
  | [] => [x]
  | y :: r => cond (ltS y x) (y :: insK x r) (x :: y :: r)
def sortK : List (List UInt8) → List (List UInt8)
  | [] => []
  | x :: r => insK x (sortK r)

theorem insK_perm (x : List UInt8) : ∀ l, (insK x l).Perm (x :: l)
  | [] => .refl _
  | y :: r => by
    simp only [insK]
    cases ltS y x with
    | true => exact ((insK_perm x r).cons y).trans (.swap x y r)
    | false => exact .refl _
theorem sortK_perm : ∀ l, (sortK l).Perm l
  | [] => .refl _
  | x :: r => (insK_perm x _).trans ((sortK_perm r).cons x)

theorem insK_sorted (x : List UInt8) : ∀ l : List (List UInt8), l.Pairwise (· ≤ ·) → (insK x l).Pairwise (· ≤ ·)
  | [], _ => by simp [insK]
  | y :: r, h => by
    simp only [insK]
    have hr := (List.pairwise_cons.1 h)
    cases hl : ltS y x with
    | true =>
      refine List.pairwise_cons.2 ⟨fun z hz => ?_, insK_sorted x r hr.2⟩
      rcases List.mem_cons.1 ((insK_perm x r).mem_iff.1 hz) with rfl | hz
      · exact List.le_of_lt (ltS_iff.1 hl)
      · exact hr.1 z hz
    | false =>
      have hxy : x ≤ y := List.not_lt.1 fun h => by rw [ltS_iff.2 h] at hl; cases hl
      refine List.pairwise_cons.2 ⟨fun z hz => ?_, h⟩
      rcases List.mem_cons.1 hz with rfl | hz
      · exact hxy
      · exact List.le_trans hxy (hr.1 z hz)
theorem sortK_sorted : ∀ l, (sortK l).Pairwise (· ≤ ·)
  | [] => .nil
  | x :: r => insK_sorted x _ (sortK_sorted r)

theorem sortK_merge (l : List (List UInt8)) : l.mergeSort leB = sortK l := by
  rw [Go.mergeSort_of_perm (sortK_perm l).symm]
  refine List.mergeSort_of_pairwise ?_
  exact (sortK_sorted l).imp fun h => by simpa [leB] using h

/-- The library's contract. -/
def SortedC (P : Program) (f fk : FuncId) (te : TypeId) : Prop :=
  ∀ (c b nn : Nat) (D0 : DataW Unit) (R : Value → Option (DataW Unit × List MemPlace)) (w : World), c < w.heap.size → w.cell? ⟨c, 0, none⟩ = some (.map (some b)) → w.ownsMap P te R b nn D0 → Maps.size D0 ≤ maxLen → Maps.size D0 * 16 ≤ 140737488355328 →
    CallsIn Fence.wide 5 P f #[.func (.func fk) #[] #[.pointer (some ⟨c, 0, none⟩)]] w fun e w' => ∃ (v : Value) (ss : List (List UInt8)), e = .returned v ∧ ss.Perm (strKeys D0) ∧
      w'.ownsRow w.heap.size te 1 v ss.length ((ss.mergeSort (fun x y => decide (x ≤ y))).map encStr) ∧ (v = .slice none 0 0 ↔ ss = []) ∧ Below w.heap.size w w'

theorem Rel.adopt {o : AObj} {ob : Obj} {g N i : Nat} (h : Rel B w0 ρ σ w) (gr : Grown w w') (ha : σ.add o = some (i, σ')) (hg : w'.heap[g]? = some ob) (hge : w.heap.size ≤ g) (ho : ObjR (ρ.upd i (g, N)) o N ob) :
    Rel B w0 (ρ.upd i (g, N)) σ' w' ∧ ρ.Le (ρ.upd i (g, N)) := by
  have h' := h.grown gr
  have hi := AS.add_next ha
  have hf : ρ i = none := h.fresh _ (by rw [h.next, hi]; exact Nat.le_refl _)
  have hle : ρ.Le (ρ.upd i (g, N)) := Rho.le_upd hf (by rw [h.next, hi])
  obtain ⟨h1, _, h3, h4, h5⟩ := h.addLate ha
  have hbelow : ∀ j oj c M, σ'.get j = some oj → ρ j = some (c, M) → c < w.heap.size := fun j oj c M hj hc => by
    obtain ⟨ob', k1, _⟩ := h1.objs j oj hj c M hc
    exact lt_of_heap k1
  have h1' := h1.grown gr
  refine ⟨⟨h'.os, h'.tape, h'.output, h'.size, h'.bsz, h'.low, ?_, ?_, ?_, ?_⟩, hle⟩
  · intro j oj hj c M hc
    by_cases e : j = i
    · subst e
      rw [h5] at hj
      cases hj
      rw [Rho.upd_same] at hc
      cases hc
      exact ⟨ob, hg, ho, fun _ hk => Nat.lt_irrefl _ (Nat.lt_of_lt_of_le (h.bsz _ hk) hge)⟩
    · rw [Rho.upd_ne e] at hc
      obtain ⟨ob', k1, k2, k3⟩ := h1'.objs j oj hj c M hc
      exact ⟨ob', k1, ObjR.sub (ρ := ⟨ρ.f, ρ.n + 1⟩) (ρ' := ρ.upd i (g, N)) (fun a p e => hle.sub a p e) k2, k3⟩
  · intro j k oj ok c M M' hj hk hcj hck
    by_cases ej : j = i <;> by_cases ek : k = i
    · rw [ej, ek]
    · exfalso
      subst ej
      rw [Rho.upd_same] at hcj
      rw [Rho.upd_ne ek] at hck
      cases hcj
      have := hbelow k ok _ M' hk hck
      omega
    · exfalso
      subst ek
      rw [Rho.upd_same] at hck
      rw [Rho.upd_ne ej] at hcj
      cases hck
      have := hbelow j oj _ M hj hcj
      omega
    · rw [Rho.upd_ne ej] at hcj
      rw [Rho.upd_ne ek] at hck
      exact h1'.inj j k oj ok c M M' hj hk hcj hck
  · show i + 1 = σ'.next
    have := h1.next
    rw [← this, h3]
  · intro j hj
    have hj' : i + 1 ≤ j := hj
    rw [Rho.upd_ne (by omega)]
    exact h.fresh j (by omega)

def bornB (ck : Nat) : List (AV × AV × Nat) → Bool
  | [] => true
  | e :: r => Nat.blt e.2.2 ck && (r.all fun q => !(Nat.beq e.2.2 q.2.2)) && bornB ck r
def dupB : List (List UInt8) → Bool
  | [] => true
  | x :: r => (r.all fun y => !(ltS x y == ltS y x)) && dupB r

/-- 'slices.Sorted(maps.Keys(m))'. -/
def hSorted (fk : FuncId) (te : TypeId) : Hook := fun args σ =>
  match args with
  | [.func (.func f) [] [.ptr (some (i, 0))]] =>
    cond (Nat.beq f fk) (match σ.get i with
      | some (.cells [.map (some m)] _ _ none) =>
        (match σ.get m with
         | some (.map es ck) => (keysA es).bind fun ks =>
           cond (bornB ck es && dupB ks && (ks.all fun k => Nat.ble k.length 100000) && Nat.ble es.length 100000)
            (match sortK ks with
             | [] => some (.slice none 0 0 false, σ)
             | l => (σ.add (.cells (strsA l) te true (some 1))).map fun p => (.slice (some (p.1, 0)) l.length 0 true, p.2)) none
         | _ => none)
      | _ => none) none
  | _ => none

theorem keysA_conc : ∀ {es : List (AV × AV × Nat)} {ks : List (List UInt8)} {en : List MapEntry}, keysA es = some ks → concE ρ es = some en → en.map (·.key) = ks.map encStr ∧ en.map (·.born) = es.map (·.2.2)
  | [], ks, en, h, k => by
    simp only [keysA, Option.some.injEq] at h
    simp only [concE, Option.some.injEq] at k
    subst h; subst k
    exact ⟨rfl, rfl⟩
  | (x, y, n) :: r, ks, en, h, k => by
    cases x <;> simp only [keysA, reduceCtorEq] at h
    rename_i s
    cases hr : keysA r with
    | none => rw [hr] at h; cases h
    | some l =>
      rw [hr] at h
      simp only [Option.map_some, Option.some.injEq] at h
      subst h
      simp only [concE] at k
      obtain ⟨x1, h1, k⟩ := bind2 k
      obtain ⟨y1, h2, k⟩ := bind2 k
      cases hz : concE ρ r with
      | none => rw [hz] at k; cases k
      | some z =>
        rw [hz] at k
        simp only [Option.map_some, Option.some.injEq] at k
        subst k
        obtain ⟨i1, i2⟩ := keysA_conc hr hz
        simp only [conc, Option.some.injEq] at h1
        subst h1
        exact ⟨by simp [i1, encStr], by simp [i2]⟩

theorem bornB_spec {ck : Nat} : ∀ {es : List (AV × AV × Nat)}, bornB ck es = true → (∀ n ∈ es.map (·.2.2), n < ck) ∧ (es.map (·.2.2)).Nodup
  | [], _ => by simp
  | e :: r, h => by
    simp only [bornB, Bool.and_eq_true] at h
    obtain ⟨⟨h1, h2⟩, h3⟩ := h
    obtain ⟨i1, i2⟩ := bornB_spec h3
    refine ⟨fun n hn => ?_, ?_⟩
    · rcases List.mem_cons.1 hn with rfl | hn
      · exact blt_lt h1
      · exact i1 n hn
    · refine List.nodup_cons.2 ⟨fun hm => ?_, i2⟩
      obtain ⟨q, hq, he⟩ := List.mem_map.1 hm
      have := List.all_eq_true.1 h2 q hq
      rw [he] at this
      simp at this

theorem dupB_spec : ∀ {ks : List (List UInt8)}, dupB ks = true → ks.Nodup
  | [], _ => by simp
  | x :: r, h => by
    simp only [dupB, Bool.and_eq_true] at h
    refine List.nodup_cons.2 ⟨fun hm => ?_, dupB_spec h.2⟩
    have := List.all_eq_true.1 h.1 x hm
    simp at this

theorem hSorted_ok {f fk : FuncId} {te : TypeId} (hte : E.P.underlying te = some .string) (C : SortedC E.P f fk te) (henter : ∀ (args : Array Value) (w : World), (callFunc f args).run E.P w = .ok (.enter f args) w) : HookOK E f (hSorted fk te) := by
  intro B w0 w ρ σ σ' r args xs v h hr hG hx
  unfold hSorted at h
  split at h
  · rename_i f' i
    cases hb : Nat.beq f' fk with
    | false => rw [hb] at h; cases h
    | true =>
      rw [hb] at h
      simp only [cond] at h
      have hf' := Nat.eq_of_beq_eq_true hb
      subst hf'
      split at h
      · rename_i m e wr hgi
        split at h
        · rename_i es ck hgm
          cases hks : keysA es with
          | none => rw [hks] at h; cases h
          | some ks =>
            rw [hks] at h
            simp only [Option.bind_some] at h
            cases hc : (bornB ck es && dupB ks && (ks.all fun k => Nat.ble k.length 100000) && Nat.ble es.length 100000) with
            | false => rw [hc] at h; cases h
            | true =>
              rw [hc] at h
              simp only [cond] at h
              simp only [Bool.and_eq_true, List.all_eq_true] at hc
              obtain ⟨⟨⟨hborn, hdup⟩, hlen⟩, hsz⟩ := hc
              obtain ⟨x, r', h1, h2, rfl⟩ := concL_cons hx
              simp only [concL, Option.some.injEq] at h2
              subst h2
              obtain ⟨fn, as, bs, k1, k2, k3, rfl⟩ := conc_func h1
              simp only [concFn, Option.some.injEq] at k1
              subst k1
              simp only [concL, Option.some.injEq] at k2
              subst k2
              obtain ⟨y, r', k4, k5, rfl⟩ := concL_cons k3
              simp only [concL, Option.some.injEq] at k5
              subst k5
              obtain ⟨c, N, hci, rfl⟩ := conc_ptr k4
              -- the cell, the map
              obtain ⟨u, hu1, hu2⟩ := hr.cell (off := 0) hgi hci (v := .map (some m)) rfl
              obtain ⟨M, hm1, hm2⟩ : ∃ b M, ρ m = some (b, M) ∧ u = .map (some b) := by
                simp only [conc] at hu2
                cases hmm : ρ m with
                | none => rw [hmm] at hu2; cases hu2
                | some q => rw [hmm] at hu2; exact ⟨q.1, q.2, rfl, (Option.some.inj hu2).symm⟩
              obtain ⟨hm3, hm4⟩ := hm2
              subst hm4
              obtain ⟨ob, o1, o2, _⟩ := hr.objs m _ hgm _ _ hm3
              cases ob with
              | map en ck' =>
                obtain ⟨rfl, o3⟩ := o2
                obtain ⟨e1, e2⟩ := keysA_conc hks o3
                obtain ⟨b1, b2⟩ := bornB_spec hborn
                have hnd := dupB_spec hdup
                have hlen2 : en.size = es.length := by
                  have := congrArg List.length e2
                  simpa using this
                let R : Value → Option (DataW Unit × List MemPlace) := fun _ => some (.nil, [])
                have hkey : ∀ s : List UInt8, s ∈ ks → Go.keyOf E.P te (encStr s) = some (.string s) := fun s hs => by
                  have := Nat.le_of_ble_eq_true (hlen s hs)
                  have hm : s.length ≤ maxLen := Nat.le_trans this (by decide)
                  simp [Go.keyOf, hte, mapKey, encStr, ByteArray.size, hm]
                have hread : ∀ q ∈ en.toList, ∃ s ∈ ks, q.key = encStr s ∧ rd E.P te R q = some (.string s, .nil) := fun q hq => by
                  have : q.key ∈ en.toList.map (·.key) := List.mem_map.2 ⟨q, hq, rfl⟩
                  rw [e1] at this
                  obtain ⟨s, hs, hsq⟩ := List.mem_map.1 this
                  refine ⟨s, hs, hsq.symm, ?_⟩
                  obtain ⟨qk, qv, qb⟩ := q
                  simp only at hsq
                  subst hsq
                  exact rd_mk (yv := (.nil, [])) (hkey s hs) rfl
                have hfit : Fit E.P te R en ck' := by
                  refine ⟨by rw [hlen2]; exact Nat.le_trans (Nat.le_of_ble_eq_true hsz) (by decide), ⟨fun q hq => b1 _ (by rw [← e2]; exact List.mem_map.2 ⟨q, hq, rfl⟩), by rw [e2]; exact b2, ?_⟩, fun q hq => let ⟨s, _, _, h⟩ := hread q hq; ⟨_, h⟩⟩
                  rw [e1]
                  exact List.pairwise_map.2 (hnd.imp fun hne he => hne (Go.encStr_inj he))
                have hrg : (en.toList.map (rg E.P te R)).map (fun p => Go.strOf p.1) = ks := by
                  have h1 : ∀ q ∈ en.toList, Go.strOf (rg E.P te R q).1 = (fun k => match k with | Value.string s => s.data.toList | _ => []) q.key := fun q hq => by
                    obtain ⟨s, _, hk, hrd⟩ := hread q hq
                    rw [rg_of hrd, hk]
                    simp [Go.strOf, encStr]
                  rw [List.map_map, List.map_congr_left (g := (fun k => match k with | Value.string s => s.data.toList | _ => []) ∘ (·.key)) h1, ← List.map_map, e1, List.map_map]
                  conv => rhs; rw [← List.map_id ks]
                  exact List.map_congr_left fun s _ => by simp [encStr]
                have hown : w.ownsMap E.P te R M en.size (.map ((en.toList.map (rg E.P te R)).foldr DataW.insert [])) := ⟨en, ck', o1, hfit, Nat.le_refl _, rfl⟩
                have hperm : (strKeys (.map ((en.toList.map (rg E.P te R)).foldr DataW.insert []) : DataW Unit)).Perm ks := by
                  rw [← hrg]
                  exact (WideShapes.sorted_perm _).map _
                have hsize : Maps.size (.map ((en.toList.map (rg E.P te R)).foldr DataW.insert []) : DataW Unit) = es.length := by
                  rw [Maps.size_eq, (WideShapes.sorted_perm _).length_eq, List.length_map, Array.length_toList, hlen2]
                have hcc : c < w.heap.size := by
                  obtain ⟨ob', q1, _⟩ := hr.objs i _ hgi _ _ hci
                  exact lt_of_heap q1
                have hle := Nat.le_of_ble_eq_true hsz
                have key := C c M en.size _ R w hcc hu1 hown (by rw [hsize]; exact Nat.le_trans hle (by decide)) (by rw [hsize]; omega)
                have key0 : CallsIn (FW r) 0 E.P f _ w _ := callsIn_wide.2 (callsIn_wide.1 key)
                refine .inr (.inl ⟨f, _, w, henter _ _, key0.mono ?_⟩)
                rintro en' w' ⟨vv, ss, rfl, hss, hrow, hnil, hbel⟩
                refine ⟨vv, rfl, ?_⟩
                have gr : Grown w w' := ⟨hbel.os, hbel.tape, hbel.output, hbel.size, hbel.block⟩
                have hmerge : ss.mergeSort (fun x y => decide (x ≤ y)) = sortK ks := by
                  rw [← sortK_merge ks]
                  exact Go.mergeSort_of_perm (hss.trans hperm)
                rw [hmerge] at hrow
                have hsl : (sortK ks).length = ss.length := by rw [(sortK_perm ks).length_eq, (hss.trans hperm).length_eq]
                cases hs : sortK ks with
                | nil =>
                  rw [hs] at h hsl
                  simp only [Option.some.injEq, Prod.mk.injEq] at h
                  obtain ⟨rfl, rfl⟩ := h
                  have : ss = [] := List.eq_nil_of_length_eq_zero hsl.symm
                  rw [hnil.2 this]
                  exact ⟨ρ, .refl ρ, hr.grown gr, rfl⟩
                | cons k0 kr =>
                  rw [hs] at h hsl hrow
                  simp only at h
                  cases ha : σ.add (.cells (strsA (k0 :: kr)) te true (some 1)) with
                  | none => rw [ha] at h; cases h
                  | some q =>
                    obtain ⟨j, σ1⟩ := q
                    rw [ha] at h
                    simp only [Option.map_some, Option.some.injEq, Prod.mk.injEq] at h
                    obtain ⟨rfl, rfl⟩ := h
                    obtain ⟨hl1, hl2⟩ := hrow
                    rcases hl2 with ⟨hvn, hz⟩ | ⟨g, cap, cur, rfl, hge, hcell, hnc, hcm, hcs, htake⟩
                    · rw [← hsl] at hz; cases hz
                    · have hcc2 : cur.toList.take ss.length = strsV (k0 :: kr) := by
                        rw [Nat.mul_one] at htake
                        rw [htake]
                        rfl
                      obtain ⟨a1, a2⟩ := hr.adopt (N := cap) gr ha hcell hge ⟨rfl, ⟨_, concL_strs _, by
                        refine ⟨hcc2 ▸ List.take_prefix _ _, by rw [hcs]; exact Nat.le_refl _, ?_⟩
                        show (strsA (k0 :: kr)).length ≤ cap * 1
                        have : (strsA (k0 :: kr)).length = ss.length := by rw [← hsl]; simp [strsA]
                        rw [this, Nat.mul_one]; exact hnc⟩, fun _ o _ hh => by simp at hh⟩
                      refine ⟨_, a2, a1, ?_⟩
                      simp only [conc, Rho.upd_same, Option.bind_some, concS, if_true]
                      rw [if_pos (by rw [hsl]; exact hnc), hsl]
                      rfl
              | _ => exact o2.elim
        · cases h
      · cases h
  · cases h

end
end Go.Det
