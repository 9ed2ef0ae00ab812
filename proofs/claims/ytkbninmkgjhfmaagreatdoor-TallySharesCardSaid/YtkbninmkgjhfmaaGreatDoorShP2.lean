/- The tally dump: Row.plus as a hook of the evaluator, at every two rows. -/
import Derived.Test.YtkbninmkgjhfmaaGreatDoorShP1
import Derived.Test.YtkbninmkgjhfmaaGreatDoorDetUse
set_option maxHeartbeats 400000
namespace Go.Proofs
open Go Go.Det

/-- The numbers of a row. -/
def parseU : List AV → Option (List Int)
  | [] => some []
  | .int .u64 n :: r => (parseU r).map fun l => n :: l
  | .ann (.int .u64 n) _ :: r => (parseU r).map fun l => n :: l
  | _ => none

def intsA (l : List Int) : List AV := l.map (.int .u64)
def intsV (l : List Int) : List Value := l.map (.int .u64)
theorem concL_ints (ρ : Rho) : ∀ l : List Int, concL ρ (intsA l) = some (intsV l)
  | [] => rfl
  | n :: l => concL_mk (v := .int .u64 n) (x := .int .u64 n) rfl (concL_ints ρ l)

theorem parseU_conc {ρ : Rho} : ∀ {R : List AV} {l : List Int} {xs : List Value}, parseU R = some l → concL ρ R = some xs → xs = intsV l
  | [], l, xs, h, hx => by
    simp only [parseU, Option.some.injEq] at h
    simp only [concL, Option.some.injEq] at hx
    subst h; subst hx; rfl
  | v :: R, l, xs, h, hx => by
    obtain ⟨x, y, h1, h2, rfl⟩ := concL_cons hx
    unfold parseU at h
    split at h
    · rename_i heq; cases heq
    · rename_i n r heq
      cases heq
      cases hp : parseU R with
      | none => rw [hp] at h; cases h
      | some l' =>
        rw [hp] at h
        simp only [Option.map_some, Option.some.injEq] at h
        subst h
        rw [conc_int h1, parseU_conc hp h2]
        rfl
    · rename_i n t r heq
      cases heq
      cases hp : parseU R with
      | none => rw [hp] at h; cases h
      | some l' =>
        rw [hp] at h
        simp only [Option.map_some, Option.some.injEq] at h
        subst h
        rw [conc_int (conc_ann h1).1, parseU_conc hp h2]
        rfl
    · cases h

theorem clsA_list : ∀ (t : List Int) (i : Nat) (f : Nat → Int), (∀ j, j < t.length → f (i + j) = t.getD j 0) → clsA f i t.length = intsA t
  | [], _, _, _ => rfl
  | n :: t, i, f, h => by
    have h0 := h 0 (by simp)
    simp only [Nat.add_zero, List.getD_cons_zero] at h0
    simp only [List.length_cons, clsA, intsA, List.map_cons, h0]
    congr 1
    refine clsA_list t (i + 1) f fun j hj => ?_
    have := h (j + 1) (by simp; omega)
    rw [List.getD_cons_succ] at this
    rw [← this]
    congr 1
    omega

theorem rowA_list {a b c d : Int} {t : List Int} (h : t.length = 65) : rowA a b c d (fun i => t.getD i 0) = intsA (a :: b :: c :: d :: t) := by
  unfold rowA
  rw [show (65 : Nat) = t.length from h.symm, clsA_list t 0 _ fun j _ => by simp]
  rfl

def zipU : List Int → List Int → List Int
  | a :: l, b :: m => IntKind.u64.wrap (a + b) :: zipU l m
  | _, _ => []
theorem zipU_length : ∀ {l m : List Int}, l.length = m.length → (zipU l m).length = l.length
  | [], [], _ => rfl
  | _ :: l, _ :: m, h => by simp only [zipU, List.length_cons]; rw [zipU_length (by simpa using h)]
  | [], _ :: _, h => by cases h
  | _ :: _, [], h => by cases h
theorem zipU_getD : ∀ {l m : List Int} {i : Nat}, l.length = m.length → i < l.length → (zipU l m).getD i 0 = IntKind.u64.wrap (l.getD i 0 + m.getD i 0)
  | a :: l, b :: m, 0, _, _ => rfl
  | a :: l, b :: m, i + 1, h, hi => by
    simp only [zipU, List.getD_cons_succ]
    exact zipU_getD (by simpa using h) (by simpa using hi)
  | [], _, _, _, hi => by simp at hi
  | _ :: _, [], _, h, _ => by cases h

/-- Two rows together. -/
def plusU : List Int → List Int → Option (List Int)
  | .ofNat rc :: ra :: rl :: rg :: rt, .ofNat sc :: sa :: sl :: sg :: st =>
    cond (Nat.beq rt.length 65 && Nat.beq st.length 65)
    (match sc, rc with
     | 0, rc => some (.ofNat rc :: ra :: rl :: rg :: rt)
     | sc + 1, 0 => some (.ofNat (sc + 1) :: sa :: sl :: sg :: st)
     | sc + 1, rc + 1 => some (IntKind.u64.wrap (Int.ofNat (rc + 1) + Int.ofNat (sc + 1)) :: IntKind.u64.wrap (ra + sa) :: (if sl < rl then sl else rl) :: (if sg > rg then sg else rg) :: zipU rt st)) none
  | _, _ => none

theorem plusU_run {R S l : List Int} (h : plusU R S = some l) :
    (callF (tallyEnv (hookAt [])) (exec (tallyEnv (hookAt [])) 600) 24 [.agg (intsA R), .agg (intsA S)] (heap0 6 [])).map Prod.fst = some (.agg (intsA l)) := by
  unfold plusU at h
  split at h
  · rename_i rc ra rl rg rt sc sa sl sg st
    cases hc : (Nat.beq rt.length 65 && Nat.beq st.length 65) with
    | false => rw [hc] at h; cases h
    | true =>
      rw [hc] at h
      simp only [Bool.and_eq_true] at hc
      have h1 := Nat.eq_of_beq_eq_true hc.1
      have h2 := Nat.eq_of_beq_eq_true hc.2
      rw [← rowA_list h1, ← rowA_list h2]
      simp only [cond] at h
      split at h
      · simp only [Option.some.injEq] at h
        subst h
        rw [← rowA_list h1]
        exact plus_left _ _ _ _ _ _ _ _ _
      · simp only [Option.some.injEq] at h
        subst h
        rw [← rowA_list h2]
        exact plus_right _ _ _ _ _ _ _ _ _
      · simp only [Option.some.injEq] at h
        subst h
        have hz : rt.length = st.length := h1.trans h2.symm
        have hzl : (zipU rt st).length = 65 := (zipU_length hz).trans h1
        rw [plus_both]
        congr 2
        rw [← rowA_list hzl]
        unfold rowA
        congr 4
        have : ∀ (n i : Nat) (f g : Nat → Int), (∀ j, i ≤ j → j < i + n → f j = g j) → clsA f i n = clsA g i n := by
          intro n
          induction n with
          | zero => intros; rfl
          | succ n ih =>
            intro i f g hh
            simp only [clsA]
            rw [hh i (Nat.le_refl _) (by omega), ih (i + 1) f g fun j h1 h2 => hh j (by omega) (by omega)]
        exact this _ _ _ _ fun j _ hj => (zipU_getD hz (by omega)).symm
  · cases h

def hPlus : Hook := fun args σ =>
  match args with
  | [.agg R, .agg S] => (parseU R).bind fun r => (parseU S).bind fun s => (plusU r s).map fun l => (.agg (intsA l), σ)
  | _ => none

theorem hPlus_ok (hk : FuncId → Option Hook) : HookOK (tallyEnv hk) 24 hPlus := by
  have : HookOK (tallyEnv (hookAt [])) 24 hPlus := by
    intro B w0 w ρ σ σ' r args xs v h hr hG hx
    have h0 : EnvOK (tallyEnv (hookAt [])) := tally_ok fun p hp => by cases hp
    unfold hPlus at h
    split at h
    · rename_i R S
      obtain ⟨x, r1, h1, h2, rfl⟩ := concL_cons hx
      obtain ⟨y, r2, h3, h4, rfl⟩ := concL_cons h2
      simp only [concL, Option.some.injEq] at h4
      subst h4
      obtain ⟨X, hX, rfl⟩ := conc_agg h1
      obtain ⟨Y, hY, rfl⟩ := conc_agg h3
      cases hpR : parseU R with
      | none => rw [hpR] at h; cases h
      | some R' =>
        cases hpS : parseU S with
        | none => rw [hpR, hpS] at h; cases h
        | some S' =>
          rw [hpR, hpS] at h
          cases hp : plusU R' S' with
          | none => simp [hp] at h
          | some l =>
            simp only [Option.bind_some, hp, Option.map_some, Option.some.injEq, Prod.mk.injEq] at h
            obtain ⟨rfl, rfl⟩ := h
            have eX := parseU_conc hpR hX
            have eY := parseU_conc hpS hY
            subst eX; subst eY
            have hrun := plusU_run hp
            cases hcc : callF (tallyEnv (hookAt [])) (exec (tallyEnv (hookAt [])) 600) 24 [.agg (intsA R'), .agg (intsA S')] (heap0 6 []) with
            | none => rw [hcc] at hrun; cases hrun
            | some q =>
              obtain ⟨v1, σ1⟩ := q
              rw [hcc] at hrun
              simp only [Option.map_some, Option.some.injEq] at hrun
              subst hrun
              have hok : globsOK 6 [] = true := by decide
              have hx0 : concL (rho0 6) [.agg (intsA R'), .agg (intsA S')] = some [.agg (intsV R').toArray, .agg (intsV S').toArray] :=
                concL_mk (by simp [conc, concL_ints]) (concL_mk (by simp [conc, concL_ints]) rfl)
              refine (callF_sound (r := r) h0 (exec_sound h0 Tryz.mixed 600) hcc (rel0 (w := w) hok (fun g hg => by cases hg)) gr0 hx0).mono ?_
              rintro x w' ⟨ρ', l1, l2, l3⟩
              refine ⟨ρ, .refl ρ, hr.grown ⟨l2.os, l2.tape, l2.output, l2.size, l2.low⟩, ?_⟩
              simp only [conc, concL_ints] at l3 ⊢
              exact l3
    · cases h
  exact this
end Go.Proofs
