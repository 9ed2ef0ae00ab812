/- Code: what the evaluator does stands for what the model does, whatever the tape and the heap. Conditions: none beyond those of each theorem. -/
import Derived.Test.YtkbninmkgjhfmaaGreatDoorDetSound9
import Derived.RangeFuncNested
set_option maxHeartbeats 400000
namespace Go.Det
open Go
section
variable {B : Nat → Prop} {w0 w : World} {ρ : Rho} {σ σ' : AS} {E : Env} {go : ExecT}

theorem callE_sound (hE : EnvOK E) (hgo : Snd E go) {f v : AV} {F : Value} {args : List AV} {xs : List Value} {r : Option Nat} (h : callE E go f args σ = some (v, σ')) (hr : Rel B w0 ρ σ w) (hG : GR ρ E.G)
    (hf : conc ρ f = some F) (hx : concL ρ args = some xs) : ∃ d g ys, Deferred.ofValue F xs.toArray = Pure.pure d ∧ (invoke d.target d.args).run E.P w = .ok (.enter g ys) w ∧
      CallsIn (FW r) 0 E.P g ys w fun e w'' => ∃ x, e = .returned x ∧ Post B w0 ρ v σ' x w'' := by
  unfold callE at h
  split at h
  · rename_i g fi ca
    split at h
    · rename_i hk
      obtain ⟨fn, as, bs, h1, h2, h3, rfl⟩ := conc_func hf
      simp only [concFn, Option.some.injEq] at h1
      subst h1
      obtain ⟨k1, k2⟩ := callF_enter (r := r) hE hgo hk h hr hG (concL_append (concL_append h2 hx) h3)
      refine ⟨{ target := .fn (.func g) bs.toArray, args := as.toArray ++ xs.toArray }, g, (as ++ xs ++ bs).toArray, rfl, ?_, k2⟩
      have harr : (as ++ xs ++ bs).toArray = as.toArray ++ xs.toArray ++ bs.toArray := by simp
      rw [harr] at k1 ⊢
      exact k1
    · cases h
  · cases h

theorem PostX.then_ {x : AX} {T : Tm} {D : List Nat} {e : Exit} {a : Act} {next : Act → World → Prop} {Q : Exit → Act → World → Prop} (h : PostX B w0 ρ x T D σ e a w)
    (hn : x = .normal → next a w) (hq : ∀ x', x = x' → x' ≠ .normal → Q e a w) : Exit.then next Q e a w := by
  obtain ⟨rfl, _⟩ := h
  cases x with
  | normal => exact hn rfl
  | exit id => exact hq _ rfl (by simp)
  | ret => exact hq _ rfl (by simp)

theorem exec_step (hE : EnvOK E) (hm : E.P.follows .mixedOrders = true) (hgo : Snd E go) : Snd E (execStep E go) := by
  intro B w0 w ρ σ σ' rd rdc c T T' D D' x a h hr ht hd hG hrd
  have plain : c.wpIn (FW rdc) 0 E.P (PostX B w0 ρ x T' D' σ') a w → (∀ b, c ≠ .loop b) → c.wpIn (FW rdc) 0 E.P (PostX B w0 ρ x T' D' σ') a w ∧ (∀ b, c = .loop b → LoopIn (FW rdc) E.P b (PostX B w0 ρ x T' D' σ') a w) := fun h1 h2 => ⟨h1, fun b hb => absurd hb (h2 b)⟩
  cases c with
  | skip =>
    simp only [execStep, Option.some.injEq, Prod.mk.injEq] at h
    obtain ⟨rfl, rfl, rfl, rfl⟩ := h
    exact plain (wpIn_skip ⟨rfl, ρ, .refl ρ, hr, ht, hd⟩) (by simp)
  | label l =>
    simp only [execStep, Option.some.injEq, Prod.mk.injEq] at h
    obtain ⟨rfl, rfl, rfl, rfl⟩ := h
    exact plain (wpIn_label ⟨rfl, ρ, .refl ρ, hr, ht, hd⟩) (by simp)
  | exit id =>
    simp only [execStep, Option.some.injEq, Prod.mk.injEq] at h
    obtain ⟨rfl, rfl, rfl, rfl⟩ := h
    exact plain (wpIn_exit ⟨rfl, ρ, .refl ρ, hr, ht, hd⟩) (by simp)
  | ret =>
    simp only [execStep, Option.some.injEq, Prod.mk.injEq] at h
    obtain ⟨rfl, rfl, rfl, rfl⟩ := h
    exact plain (wpIn_ret ⟨rfl, ρ, .refl ρ, hr, ht, hd⟩) (by simp)
  | seq p q =>
    refine plain ?_ (by simp)
    simp only [execStep] at h
    cases hp : go rd p T D σ with
    | none => rw [hp] at h; cases h
    | some r =>
      obtain ⟨x1, T1, D1, σ1⟩ := r
      rw [hp] at h
      have h1 := (hgo B w0 w ρ σ σ1 rd rdc p T T1 D D1 x1 a hp hr ht hd hG hrd).1
      refine wpIn_seq (wpIn_mono h1 ?_)
      rintro e a1 w1 ⟨rfl, ρ1, l1, l2, l3, l4⟩
      cases x1 with
      | normal =>
        simp only at h
        have h2 := (hgo B w0 w1 ρ1 σ1 σ' rd rdc q T1 T' D1 D' x a1 h l2 l3 l4 (hG.mono l1) (hrd.mono l1)).1
        exact wpIn_mono h2 fun e a w h => h.mono l1
      | exit id =>
        simp only [Option.some.injEq, Prod.mk.injEq] at h
        obtain ⟨rfl, rfl, rfl, rfl⟩ := h
        exact ⟨rfl, ρ1, l1, l2, l3, l4⟩
      | ret =>
        simp only [Option.some.injEq, Prod.mk.injEq] at h
        obtain ⟨rfl, rfl, rfl, rfl⟩ := h
        exact ⟨rfl, ρ1, l1, l2, l3, l4⟩
  | cond o p q =>
    refine plain ?_ (by simp)
    simp only [execStep] at h
    split at h
    · rename_i b hb
      have hv := conc_bool (aeval_sound (a := a) hb ht hG)
      exact wpIn_cond hv (hgo B w0 w ρ σ σ' rd rdc _ T T' D D' x a h hr ht hd hG hrd).1
    · cases h
  | block id p =>
    refine plain ?_ (by simp)
    simp only [execStep] at h
    cases hp : go rd p T D σ with
    | none => rw [hp] at h; cases h
    | some r =>
      obtain ⟨x1, T1, D1, σ1⟩ := r
      rw [hp] at h
      have h1 := (hgo B w0 w ρ σ σ1 rd rdc p T T1 D D1 x1 a hp hr ht hd hG hrd).1
      refine wpIn_block (wpIn_mono h1 ?_)
      rintro e a1 w1 ⟨rfl, ρ1, l1, l2, l3, l4⟩
      cases x1 with
      | normal =>
        simp only [Option.some.injEq, Prod.mk.injEq] at h
        obtain ⟨rfl, rfl, rfl, rfl⟩ := h
        exact ⟨rfl, ρ1, l1, l2, l3, l4⟩
      | exit id' =>
        simp only [Option.some.injEq, Prod.mk.injEq] at h
        obtain ⟨rfl, rfl, rfl, rfl⟩ := h
        show (if id' = id then _ else _)
        by_cases e : id' = id
        · rw [if_pos e]; exact ⟨by rw [if_pos e]; rfl, ρ1, l1, l2, l3, l4⟩
        · rw [if_neg e]; exact ⟨by rw [if_neg e]; rfl, ρ1, l1, l2, l3, l4⟩
      | ret =>
        simp only [Option.some.injEq, Prod.mk.injEq] at h
        obtain ⟨rfl, rfl, rfl, rfl⟩ := h
        exact ⟨rfl, ρ1, l1, l2, l3, l4⟩
  | loop p =>
    have key : p.wpIn (FW rdc) 0 E.P (Exit.then (fun a' w' => LoopIn (FW rdc) E.P p (PostX B w0 ρ x T' D' σ') a' w') (PostX B w0 ρ x T' D' σ')) a w := by
      simp only [execStep] at h
      cases hp : go rd p T D σ with
      | none => rw [hp] at h; cases h
      | some r =>
        obtain ⟨x1, T1, D1, σ1⟩ := r
        rw [hp] at h
        have h1 := (hgo B w0 w ρ σ σ1 rd rdc p T T1 D D1 x1 a hp hr ht hd hG hrd).1
        refine wpIn_mono h1 ?_
        rintro e a1 w1 ⟨rfl, ρ1, l1, l2, l3, l4⟩
        cases x1 with
        | normal =>
          simp only at h
          have h2 := (hgo B w0 w1 ρ1 σ1 σ' rd rdc (.loop p) T1 T' D1 D' x a1 h l2 l3 l4 (hG.mono l1) (hrd.mono l1)).2 p rfl
          exact h2.mono fun e a w h => h.mono l1
        | exit id =>
          simp only [Option.some.injEq, Prod.mk.injEq] at h
          obtain ⟨rfl, rfl, rfl, rfl⟩ := h
          exact ⟨rfl, ρ1, l1, l2, l3, l4⟩
        | ret =>
          simp only [Option.some.injEq, Prod.mk.injEq] at h
          obtain ⟨rfl, rfl, rfl, rfl⟩ := h
          exact ⟨rfl, ρ1, l1, l2, l3, l4⟩
    refine ⟨loop_start key, fun b hb => ?_⟩
    cases hb
    exact loop_again key
  | region id ops draw =>
    refine plain ?_ (by simp)
    simp only [execStep] at h
    cases draw with
    | true =>
      simp only at h
      cases hq : runDraw E go ops T σ with
      | none => rw [hq] at h; cases h
      | some q =>
        rw [hq] at h
        simp only [Option.some.injEq, Prod.mk.injEq] at h
        obtain ⟨rfl, rfl, rfl, rfl⟩ := h
        exact draw_sound hE hgo hm hq hr ht hd hG
    | false =>
      simp only at h
      cases hq : runOps E go ops ops.toList T σ with
      | none => rw [hq] at h; cases h
      | some q =>
        rw [hq] at h
        simp only [Option.some.injEq, Prod.mk.injEq] at h
        obtain ⟨rfl, rfl, rfl, rfl⟩ := h
        refine wpIn_region ?_
        have := runOps_sound (r := rdc) (pre := []) hE hgo (by simp) hq (.refl ρ) hr ht hd hG
        rw [List.range_eq_range']
        simpa using this
  | rangeFunc g ps as bd =>
    refine plain ?_ (by simp)
    simp only [execStep] at h
    obtain ⟨v, hv, h⟩ := bind2 h
    cases hlb : loopBlock rd σ with
    | none => rw [hlb] at h; cases h
    | some q =>
      obtain ⟨d, mk, σ1⟩ := q
      rw [hlb] at h
      simp only at h
      cases hadd : σ1.add (.loop .ready none T ps as bd d) with
      | none => rw [hadd] at h; cases h
      | some q2 =>
        obtain ⟨l, σ2⟩ := q2
        rw [hadd] at h
        simp only at h
        cases hce : callE E go v [.func (.yield l) [] []] σ2 with
        | none => rw [hce] at h; cases h
        | some q3 =>
          obtain ⟨rv, σ3⟩ := q3
          rw [hce] at h
          simp only at h
          -- the record, whoever the activation is of
          have enter : ∀ fn : FuncId, ∃ (ρ1 : Rho) (lc : Nat) (mark : List Deferred) (w1 : World) (N : Nat), ρ.Le ρ1 ∧ Rel B w0 ρ1 σ2 w1 ∧ ρ1 l = some (lc, N) ∧
              (Instr.enterLoop fn a.tmps ps as bd rdc).run E.P w = .ok (lc, mark) w1 ∧ DR ρ1 mk mark := by
            intro fn
            cases rd with
            | none =>
              cases rdc with
              | some _ => exact hrd.elim
              | none =>
                simp only [loopBlock] at hlb
                cases hda : σ.add (.deferred true) with
                | none => rw [hda] at hlb; cases hlb
                | some q4 =>
                  obtain ⟨dd, σd⟩ := q4
                  rw [hda] at hlb
                  simp only [Option.some.injEq, Prod.mk.injEq] at hlb
                  obtain ⟨rfl, rfl, rfl⟩ := hlb
                  obtain ⟨ρa, a1, a2, a3⟩ := add_sound (N := 0) (ob := .deferred (some [])) hda hr (fun ρ' _ => rfl)
                  obtain ⟨ρb, b1, b2, b3⟩ := add_sound (N := 0) (ob := .loop { state := .ready, pending := none, fn, tmps := a.tmps, params := ps, assign := as, body := bd, defers := w.heap.size }) hadd a2
                    (fun ρ' le => ⟨rfl, rfl, ht.mono (a1.trans le), rfl, rfl, rfl, 0, le _ _ a3⟩)
                  refine ⟨ρb, w.heap.size + 1, [{ target := .collected w.heap.size, args := #[] }], _, 0, a1.trans b1, b2, by simpa using b3, run_enterLoop_outer fn a.tmps ps as bd, ?_⟩
                  exact ⟨⟨w.heap.size, 0, b1 _ _ a3, rfl⟩, trivial⟩
            | some l0 =>
              cases rdc with
              | none => exact hrd.elim
              | some lc0 =>
                obtain ⟨N0, hl0⟩ := hrd
                simp only [loopBlock] at hlb
                cases hgl : σ.get l0 with
                | none => rw [hgl] at hlb; cases hlb
                | some ob =>
                  cases ob with
                  | loop st pd T'' ps' as' bd' d' =>
                    rw [hgl] at hlb
                    simp only [Option.some.injEq, Prod.mk.injEq] at hlb
                    obtain ⟨rfl, rfl, rfl⟩ := hlb
                    obtain ⟨lr, k1, k2, k3, k4, k5, k6, k7, k8⟩ := hr.loop hgl hl0
                    obtain ⟨M, k8⟩ := k8
                    obtain ⟨ρb, b1, b2, b3⟩ := add_sound (N := 0) (ob := .loop { state := .ready, pending := none, fn, tmps := a.tmps, params := ps, assign := as, body := bd, defers := lr.defers }) hadd hr
                      (fun ρ' le => ⟨rfl, rfl, ht.mono le, rfl, rfl, rfl, M, le _ _ k8⟩)
                    exact ⟨ρb, w.heap.size, [], _, 0, b1, b2, b3, run_enterLoop_inner k1 fn a.tmps ps as bd, trivial⟩
                  | _ => rw [hgl] at hlb; cases hlb
          refine wpIn_rangeFunc fun fn _ => ?_
          obtain ⟨ρ1, lc, mark, w1, N, e1, e2, e3, e4, e5⟩ := enter fn
          have hgv := conc_mono e1 _ _ (aeval_sound (a := a) hv ht hG)
          obtain ⟨dd, f, ys, c1, c2, c3⟩ := callE_sound (r := rdc) hE hgo hce e2 (hG.mono e1) hgv (xs := [.func (.yield lc) #[] #[]]) (by simp [concL, conc, concFn, e3])
          refine ⟨lc, mark, w1, dd, w1, f, ys, w1, e4, ?_, fun _ _ => trivial, c2, FW_depth rdc, ?_⟩
          · have : resolve a.eval (rangeCall g lc) 0 = Deferred.ofValue (a.eval g) #[.func (.yield lc) #[] #[]] := by
              simp [resolve, rangeCall, Act.eval]
            rw [this]
            have c1' : Deferred.ofValue (a.eval g) #[.func (.yield lc) #[] #[]] = Pure.pure dd := c1
            rw [c1']
            rfl
          · refine c3.mono ?_
            rintro e w3 ⟨xv, rfl, ρ3, f1, f2, f3⟩
            cases hg3 : σ3.get l with
            | none => rw [hg3] at h; cases h
            | some ob =>
              cases ob with
              | loop st pd T'' ps' as' bd' d' =>
                rw [hg3] at h
                have hl3 := f1 _ _ e3
                obtain ⟨lr, k1, k2, k3, k4, k5, k6, k7, k8⟩ := f2.loop hg3 hl3
                have hst : st ≠ .busy := fun e => by subst e; simp at h
                have hend := run_endLoop (P := E.P) k1 (by rw [k2]; exact hst)
                have hrel := f2.putObj (o' := .loop .exhausted pd T'' ps' as' bd' d') (ob' := .loop { lr with state := .exhausted }) hg3 hl3 rfl ⟨rfl, k3, k4, k5, k6, k7, k8⟩
                have hle := e1.trans f1
                have fin : ((jumpX pd).map fun x => (x, T, mk ++ D, σ3.put l (some (.loop .exhausted pd T'' ps' as' bd' d')))) = some (x, T', D', σ') → rangePost (FW rdc) 0 E.P lc (PostX B w0 ρ x T' D' σ') { a with defers := mark ++ a.defers } (.returned xv) w3 := by
                  intro hx
                  cases hj : jumpX pd with
                  | none => rw [hj] at hx; cases hx
                  | some x1 =>
                    rw [hj] at hx
                    simp only [Option.map_some, Option.some.injEq, Prod.mk.injEq] at hx
                    obtain ⟨rfl, rfl, rfl, rfl⟩ := hx
                    refine ⟨lr.pending, _, hend, ?_⟩
                    have hpost : ∀ x2, x2 = x1 → PostX B w0 ρ x1 T (mk ++ D) (σ3.put l (some (.loop .exhausted pd T'' ps' as' bd' d'))) (concX x2) { a with defers := mark ++ a.defers } (w3.putObj lc (.loop { lr with state := .exhausted })) := fun x2 e =>
                      ⟨by rw [e], ρ3, hle, hrel, ht.mono hle, (e5.mono f1).append (hd.mono hle)⟩
                    rw [k3] at hpost ⊢
                    cases pd with
                    | none => simp only [jumpX, Option.some.injEq] at hj; exact hpost .normal hj
                    | some j =>
                      cases j <;> simp only [jumpX, reduceCtorEq, Option.some.injEq] at hj
                      · exact wpIn_exit (hpost (.exit _) hj)
                      · exact wpIn_ret (hpost .ret hj)
                cases st <;> first | exact absurd rfl hst | exact fin h
              | _ => rw [hg3] at h; cases h
  | _ => simp [execStep] at h

theorem exec_sound (hE : EnvOK E) (hm : E.P.follows .mixedOrders = true) : ∀ n, Snd E (exec E n)
  | 0 => fun _ _ _ _ _ _ _ _ _ _ _ _ _ _ _ h => by simp [exec] at h
  | n + 1 => exec_step hE hm (exec_sound hE hm n)

#print axioms exec_sound
end
end Go.Det
