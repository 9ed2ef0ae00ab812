/- Maps and what goes through them: what the evaluator does stands for what the model does. Conditions: none. -/
import Derived.Test.YtkbninmkgjhfmaaGreatDoorDetOps3
set_option maxHeartbeats 400000
namespace Go.Det
open Go
section
variable {P : Program} {B : Nat → Prop} {w0 w : World} {ρ : Rho} {σ σ' : AS}

theorem keyOK_sound {d : TypeDesc} {k : AV} {K : Value} (h : keyOK d k = true) (hk : conc ρ k = some K) : MapKept.IsKey d K := by
  cases d <;> cases k <;> simp only [keyOK, Bool.false_eq_true] at h
  case bool.bool b => cases conc_bool hk; trivial
  case string.str s => cases conc_str hk; trivial
  case int.int k k' n => cases conc_int hk; show k' = k; simpa using h

theorem sameA_sound {d : TypeDesc} {a b : AV} {A C : Value} {r : Bool} (h : sameA d a b = some r) (ha : conc ρ a = some A) (hb : conc ρ b = some C) : Instr.sameNow d A C = some r ∧ (r = true → A = C) := by
  unfold sameA at h
  split at h
  · cases conc_int ha; cases conc_int hb
    split at h
    · rename_i he
      cases h
      subst he
      simp [Instr.sameNow]
    · cases h
  · cases conc_str ha; cases conc_str hb
    cases h
    refine ⟨by simp [Instr.sameNow, beq_toListBytes], fun e => ?_⟩
    rw [beq_iff_eq] at e
    subst e; rfl
  · cases conc_bool ha; cases conc_bool hb
    cases h
    exact ⟨by simp [Instr.sameNow], fun e => by rw [beq_iff_eq] at e; subst e; rfl⟩
  · cases h

theorem concE_cons {k v : AV} {n : Nat} {r : List (AV × AV × Nat)} {l : List MapEntry} (h : concE ρ ((k, v, n) :: r) = some l) :
    ∃ x y z, conc ρ k = some x ∧ conc ρ v = some y ∧ concE ρ r = some z ∧ l = { key := x, val := y, born := n } :: z := by
  simp only [concE] at h
  cases h1 : conc ρ k with
  | none => rw [h1] at h; cases h
  | some x =>
    cases h2 : conc ρ v with
    | none => rw [h1, h2] at h; cases h
    | some y =>
      cases h3 : concE ρ r with
      | none => rw [h1, h2, h3] at h; cases h
      | some z => rw [h1, h2, h3] at h; exact ⟨x, y, z, rfl, rfl, rfl, (Option.some.inj h).symm⟩

theorem concE_mk {k v : AV} {n : Nat} {r : List (AV × AV × Nat)} {x y : Value} {z : List MapEntry} (h1 : conc ρ k = some x) (h2 : conc ρ v = some y) (h3 : concE ρ r = some z) :
    concE ρ ((k, v, n) :: r) = some ({ key := x, val := y, born := n } :: z) := by simp [concE, h1, h2, h3]

theorem concE_length : ∀ {a : List (AV × AV × Nat)} {l : List MapEntry}, concE ρ a = some l → l.length = a.length
  | [], l, h => by simp only [concE, Option.some.injEq] at h; subst h; rfl
  | (k, v, n) :: r, l, h => by obtain ⟨x, y, z, _, _, h3, rfl⟩ := concE_cons h; simp [concE_length h3]

theorem concE_append : ∀ {a b : List (AV × AV × Nat)} {x y : List MapEntry}, concE ρ a = some x → concE ρ b = some y → concE ρ (a ++ b) = some (x ++ y)
  | [], b, x, y, h, k => by simp only [concE, Option.some.injEq] at h; subst h; exact k
  | (q, v, n) :: r, b, x, y, h, k => by obtain ⟨u1, u2, z, h1, h2, h3, rfl⟩ := concE_cons h; exact concE_mk h1 h2 (concE_append h3 k)

theorem concE_get : ∀ (i : Nat) {a : List (AV × AV × Nat)} {l : List MapEntry} {k v : AV} {n : Nat}, concE ρ a = some l → a[i]? = some (k, v, n) → ∃ x y, conc ρ k = some x ∧ conc ρ v = some y ∧ l[i]? = some { key := x, val := y, born := n }
  | 0, [], _, _, _, _, _, h => by simp at h
  | i + 1, [], _, _, _, _, _, h => by simp at h
  | 0, (k', v', n') :: r, l, k, v, n, h, hi => by
    obtain ⟨x, y, z, h1, h2, h3, rfl⟩ := concE_cons h
    simp only [List.getElem?_cons_zero, Option.some.injEq, Prod.mk.injEq] at hi
    obtain ⟨rfl, rfl, rfl⟩ := hi
    exact ⟨x, y, h1, h2, by simp⟩
  | i + 1, (k', v', n') :: r, l, k, v, n, h, hi => by
    obtain ⟨x, y, z, h1, h2, h3, rfl⟩ := concE_cons h
    simp only [List.getElem?_cons_succ] at hi ⊢
    exact concE_get i h3 hi

theorem concE_set : ∀ (i : Nat) {a : List (AV × AV × Nat)} {l : List MapEntry} {k v : AV} {n : Nat} {x y : Value}, concE ρ a = some l → conc ρ k = some x → conc ρ v = some y →
    concE ρ (a.set i (k, v, n)) = some (l.set i { key := x, val := y, born := n })
  | i, [], l, k, v, n, x, y, h, _, _ => by simp only [concE, Option.some.injEq] at h; subst h; cases i <;> simp [concE]
  | 0, (k', v', n') :: r, l, k, v, n, x, y, h, hx, hy => by
    obtain ⟨_, _, z, _, _, h3, rfl⟩ := concE_cons h
    simp only [List.set_cons_zero]; exact concE_mk hx hy h3
  | i + 1, (k', v', n') :: r, l, k, v, n, x, y, h, hx, hy => by
    obtain ⟨_, _, z, h1, h2, h3, rfl⟩ := concE_cons h
    simp only [List.set_cons_succ]; exact concE_mk h1 h2 (concE_set i h3 hx hy)

theorem concE_erase : ∀ (i : Nat) {a : List (AV × AV × Nat)} {l : List MapEntry}, concE ρ a = some l → concE ρ (a.eraseIdx i) = some (l.eraseIdx i)
  | i, [], l, h => by simp only [concE, Option.some.injEq] at h; subst h; simp [concE]
  | 0, (k', v', n') :: r, l, h => by obtain ⟨_, _, z, _, _, h3, rfl⟩ := concE_cons h; simpa using h3
  | i + 1, (k', v', n') :: r, l, h => by
    obtain ⟨_, _, z, h1, h2, h3, rfl⟩ := concE_cons h
    simp only [List.eraseIdx_cons_succ]; exact concE_mk h1 h2 (concE_erase i h3)

/-- The found entry: its place, its value, and that its key is the one that was asked for. -/
def FoundR (ρ : Rho) (K : Value) (l : List MapEntry) (i : Nat) : Option (Nat × AV) → Option (Nat × Value) → Prop
  | none, none => True
  | some (j, v), some (j', V) => j' = j ∧ conc ρ v = some V ∧ ∃ e, i ≤ j ∧ l[j - i]? = some e ∧ e.key = K ∧ e.val = V
  | _, _ => False

theorem findA_sound {d : TypeDesc} {k : AV} {K : Value} (hk : conc ρ k = some K) : ∀ {es : List (AV × AV × Nat)} {l : List MapEntry} {i : Nat} {f : Option (Nat × AV)}, findA d k es i = some f → concE ρ es = some l →
    ∃ F, Instr.findNow d K l i = some F ∧ FoundR ρ K l i f F
  | [], l, i, f, h, he => by
    simp only [concE, Option.some.injEq] at he
    simp only [findA, Option.some.injEq] at h
    subst h; subst he
    exact ⟨none, rfl, trivial⟩
  | (q, v, n) :: r, l, i, f, h, he => by
    obtain ⟨x, y, z, h1, h2, h3, rfl⟩ := concE_cons he
    simp only [findA] at h
    cases e : sameA d k q with
    | none => rw [e] at h; cases h
    | some b =>
      rw [e] at h
      obtain ⟨s1, s2⟩ := sameA_sound e hk h1
      cases b with
      | true =>
        simp only [Option.some.injEq] at h
        subst h
        exact ⟨some (i, y), by simp [Instr.findNow, s1], rfl, h2, { key := x, val := y, born := n }, Nat.le_refl _, by simp, (s2 rfl).symm, rfl⟩
      | false =>
        simp only at h
        obtain ⟨F, k1, k2⟩ := findA_sound hk h h3
        refine ⟨F, by simp [Instr.findNow, s1, k1], ?_⟩
        cases f with
        | none => cases F with
          | none => trivial
          | some _ => exact k2.elim
        | some p => cases F with
          | none => exact k2.elim
          | some q =>
            obtain ⟨a1, a2, e, a3, a4, a5⟩ := k2
            refine ⟨a1, a2, e, by omega, ?_, a5⟩
            have : p.1 - i = (p.1 - (i + 1)) + 1 := by omega
            rw [this, List.getElem?_cons_succ]
            exact a4

/-- What is known of a map that is looked into. -/
theorem mapGet_sound {t : TypeId} {m k : AV} {M K : Value} {f : TypeId × Option (Nat × AV)} (h : mapGet P t m k σ = some f) (hr : Rel B w0 ρ σ w) (hm : conc ρ m = some M) (hk : conc ρ k = some K) :
    ∃ kt kd, P.underlying t = some (.map kt f.1) ∧ P.underlying kt = some kd ∧ MapKept.IsKey kd K ∧
      ((m = .map none ∧ M = .map none ∧ f.2 = none) ∨
       ∃ r es c b N en F, m = .map (some r) ∧ M = .map (some b) ∧ σ.get r = some (.map es c) ∧ ρ r = some (b, N) ∧ w.heap[b]? = some (.map en c) ∧ concE ρ es = some en.toList ∧
         Instr.findNow kd K en.toList 0 = some F ∧ FoundR ρ K en.toList 0 f.2 F) := by
  unfold mapGet at h
  cases hu : P.underlying t with
  | none => rw [hu] at h; cases h
  | some d =>
    rw [hu] at h
    cases d <;> simp only [reduceCtorEq] at h
    rename_i kt et
    cases hkd : P.underlying kt with
    | none => rw [hkd] at h; cases h
    | some kd =>
      rw [hkd] at h
      simp only at h
      cases hq : keyOK kd k with
      | false => rw [hq] at h; cases h
      | true =>
        rw [hq] at h
        simp only [cond] at h
        have hkey := keyOK_sound hq hk
        cases m with
        | map a =>
          cases a with
          | none =>
            simp only [Option.some.injEq] at h
            subst h
            cases conc_mapNil hm
            exact ⟨kt, kd, rfl, hkd, hkey, .inl ⟨rfl, rfl, rfl⟩⟩
          | some r =>
            simp only at h
            obtain ⟨b, N, hb, rfl⟩ := conc_map hm
            cases hg : σ.get r with
            | none => rw [hg] at h; cases h
            | some ob =>
              cases ob with
              | map es c =>
                rw [hg] at h
                simp only at h
                cases hf : findA kd k es 0 with
                | none => rw [hf] at h; cases h
                | some f' =>
                  rw [hf] at h
                  simp only [Option.map_some, Option.some.injEq] at h
                  subst h
                  obtain ⟨ob, h1, h2, _⟩ := hr.objs r _ hg b N hb
                  cases ob with
                  | map en c' =>
                    obtain ⟨rfl, he⟩ := h2
                    obtain ⟨F, k1, k2⟩ := findA_sound hk hf he
                    exact ⟨kt, kd, rfl, hkd, hkey, .inr ⟨r, es, c', b, N, en, F, rfl, rfl, hg, hb, h1, he, k1, k2⟩⟩
                  | _ => exact h2.elim
              | _ => rw [hg] at h; cases h
        | _ => cases h

theorem lookup_sound {t : TypeId} {m k v : AV} {M K : Value} {ok : Bool} {f : TypeId × Option (Nat × AV)} (h : mapGet P t m k σ = some f)
    (hv : (match f.2 with | some (_, v) => some (if ok then AV.tuple [v, .bool true] else v) | none => (zeroT P f.1).map fun z => if ok then AV.tuple [z, .bool false] else z) = some v)
    (hr : Rel B w0 ρ σ w) (hm : conc ρ m = some M) (hk : conc ρ k = some K) : ∃ x, conc ρ v = some x ∧ (Instr.lookup t M K ok).run P w = .ok x w := by
  obtain ⟨kt, kd, hu, hkd, hkey, hcase⟩ := mapGet_sound h hr hm hk
  have zero : f.2 = none → ∃ x Z, conc ρ v = some x ∧ (zeroValue f.1).run P w = .ok Z w ∧ x = (if ok then .tuple #[Z, .bool false] else Z) := fun hn => by
    rw [hn] at hv
    simp only at hv
    cases hz : zeroT P f.1 with
    | none => rw [hz] at hv; cases hv
    | some z =>
      rw [hz] at hv
      simp only [Option.map_some, Option.some.injEq] at hv
      obtain ⟨Z, z1, z2⟩ := run_zero hz w
      subst hv
      refine ⟨_, Z, ?_, z1, rfl⟩
      cases ok <;> simp [conc, concL, z2 ρ]
  rcases hcase with ⟨rfl, rfl, hn⟩ | ⟨r, es, c, b, N, en, F, rfl, rfl, hg, hb, hh, he, hF, hR⟩
  · obtain ⟨x, Z, h1, h2, rfl⟩ := zero hn
    refine ⟨_, h1, ?_⟩
    have hf0 : Instr.findNow kd K [] 0 = some none := rfl
    simp only [Instr.lookup, Sem.run_bind, run_underlying hu, Result.andThen_ok, Sem.run_pure, MapKept.run_checkKey hkd hkey]
    have := MapKept.run_findKey (P := P) (w := w) (l := (#[] : Array MapEntry).toList) hkd hf0
    simp only [this, Result.andThen_ok]
    simp [h2]
  · cases hf : f.2 with
    | none =>
      rw [hf] at hR
      cases F with
      | some _ => exact hR.elim
      | none =>
        obtain ⟨x, Z, h1, h2, rfl⟩ := zero hf
        refine ⟨_, h1, ?_⟩
        simp only [Instr.lookup, Sem.run_bind, run_underlying hu, Result.andThen_ok, Sem.run_pure, MapKept.run_getObj_map hh, MapKept.run_checkKey hkd hkey, MapKept.run_findKey hkd hF]
        simp [h2]
    | some p =>
      rw [hf] at hR hv
      cases F with
      | none => exact hR.elim
      | some q =>
        obtain ⟨a1, a2, _⟩ := hR
        simp only [Option.some.injEq] at hv
        subst hv
        refine ⟨if ok then .tuple #[q.2, .bool true] else q.2, by cases ok <;> simp [conc, concL, a2], ?_⟩
        simp only [Instr.lookup, Sem.run_bind, run_underlying hu, Result.andThen_ok, Sem.run_pure, MapKept.run_getObj_map hh, MapKept.run_checkKey hkd hkey, MapKept.run_findKey hkd hF]

theorem Rel.putMap {r b N c c' : Nat} {es es' : List (AV × AV × Nat)} {en' : Array MapEntry} (h : Rel B w0 ρ σ w) (hg : σ.get r = some (.map es c)) (hb : ρ r = some (b, N))
    (he : concE ρ es' = some en'.toList) : Rel B w0 ρ (σ.put r (some (.map es' c'))) { w with heap := w.heap.setIfInBounds b (.map en' c') } := by
  obtain ⟨ob, h1, _, _⟩ := h.objs r _ hg b N hb
  refine h.put (ob' := .map en' c') hg hb rfl ⟨rfl, he⟩ rfl rfl rfl (by simp) ?_ ?_
  · exact (MapKept.heap_set h1).1
  · exact fun k hk => (MapKept.heap_set h1).2 k hk

theorem mapPut_sound {t : TypeId} {m k v : AV} {M K V : Value} (h : mapPut P t m k v σ = some σ') (hr : Rel B w0 ρ σ w) (hm : conc ρ m = some M) (hk : conc ρ k = some K) (hv : conc ρ v = some V) :
    ∃ w', (Instr.mapUpdate t M K V).run P w = .ok () w' ∧ Rel B w0 ρ σ' w' := by
  unfold mapPut at h
  cases hf : mapGet P t m k σ with
  | none => rw [hf] at h; cases h
  | some f =>
    rw [hf] at h
    simp only [Option.bind_some] at h
    obtain ⟨kt, kd, hu, hkd, hkey, hcase⟩ := mapGet_sound hf hr hm hk
    rcases hcase with ⟨rfl, rfl, hn⟩ | ⟨r, es, c, b, N, en, F, rfl, rfl, hg, hb, hh, he, hF, hR⟩
    · cases h
    · simp only [hg] at h
      cases hf2 : f.2 with
      | none =>
        rw [hf2] at h hR
        simp only [Option.some.injEq] at h
        subst h
        cases F with
        | some _ => exact hR.elim
        | none =>
          refine ⟨_, ?_, Rel.putMap (es' := es ++ [(k, v, c)]) (c' := c + 1) (en' := en.push { key := K, val := V, born := c }) hr hg hb (by rw [Array.toList_push]; exact concE_append he (concE_mk hk hv rfl))⟩
          simp [Instr.mapUpdate, run_underlying hu, MapKept.run_getObj_map hh, MapKept.run_checkKey hkd hkey, MapKept.run_findKey hkd hF, MapKept.run_setObj_map _ hh]
      | some p =>
        rw [hf2] at h hR
        cases F with
        | none => exact hR.elim
        | some q =>
          obtain ⟨i, pv⟩ := p
          obtain ⟨j, V'⟩ := q
          obtain ⟨rfl, a2, e, _, a4, a5, _⟩ := hR
          simp only [Nat.sub_zero] at a4
          simp only at h
          cases hes : es[j]? with
          | none => rw [hes] at h; cases h
          | some ent =>
            obtain ⟨ek, ev, eb⟩ := ent
            rw [hes] at h
            simp only [Option.some.injEq] at h
            subst h
            obtain ⟨x, y, _, _, g3⟩ := concE_get j he hes
            rw [a4] at g3
            cases g3
            have hget : en[j]? = some { key := x, val := y, born := eb } := by rw [← Array.getElem?_toList]; exact a4
            simp only at a5
            subst a5
            refine ⟨_, ?_, Rel.putMap (es' := es.set j (k, v, eb)) (c' := c) (en' := en.modify j fun e => { e with key := x, val := V }) hr hg hb ?_⟩
            · simp [Instr.mapUpdate, run_underlying hu, MapKept.run_getObj_map hh, MapKept.run_checkKey hkd hkey, MapKept.run_findKey hkd hF, MapKept.run_setObj_map _ hh, hget, MapKept.run_keyThatStays hkey]
            · have hs := concE_set j (n := eb) he hk hv
              rw [hs]
              congr 1
              apply List.ext_getElem?
              intro z
              rw [List.getElem?_set, Array.getElem?_toList, Array.getElem?_toList, Array.getElem?_modify]
              by_cases hz : j = z
              · subst hz
                have hlt := (List.getElem?_eq_some_iff.1 a4).1
                rw [if_pos rfl, if_pos hlt, if_pos rfl, hget]; rfl
              · simp [hz]

theorem mapDel_sound {t ty kt0 : TypeId} {m k : AV} {M K : Value} (h : mapDel P t m k σ = some σ') (hr : Rel B w0 ρ σ w) (hm : conc ρ m = some M) (hk : conc ρ k = some K) (rest : List TypeId) (args : List Value) :
    ∃ w', (Builtin.delete_ (t :: rest).toArray ty (M :: K :: args).toArray).run P w = .ok (.tuple #[]) w' ∧ Rel B w0 ρ σ' w' := by
  have _ := kt0
  unfold mapDel at h
  cases hf : mapGet P t m k σ with
  | none => rw [hf] at h; cases h
  | some f =>
    rw [hf] at h
    simp only [Option.bind_some] at h
    obtain ⟨kt, kd, hu, hkd, hkey, hcase⟩ := mapGet_sound hf hr hm hk
    rcases hcase with ⟨rfl, rfl, hn⟩ | ⟨r, es, c, b, N, en, F, rfl, rfl, hg, hb, hh, he, hF, hR⟩
    · simp only [Option.some.injEq] at h
      subst h
      exact ⟨w, by simp [Builtin.delete_, run_underlying hu, MapKept.run_checkKey hkd hkey], hr⟩
    · simp only [hg] at h
      cases hf2 : f.2 with
      | none =>
        rw [hf2] at h hR
        simp only [Option.some.injEq] at h
        subst h
        cases F with
        | some _ => exact hR.elim
        | none =>
          refine ⟨w, ?_, hr⟩
          have hself : ({ w with heap := w.heap.setIfInBounds b (.map en c) } : World) = w := by
            have hlt := lt_of_heap hh
            have hgb : w.heap[b] = .map en c := by rw [Array.getElem?_eq_getElem hlt] at hh; exact Option.some.inj hh
            have : w.heap.setIfInBounds b (.map en c) = w.heap := by
              apply Array.ext_getElem?
              intro z
              rw [Array.getElem?_setIfInBounds]
              by_cases hz : b = z
              · subst hz; simp [hlt, hgb]
              · simp [hz]
            rw [this]
          simp [Builtin.delete_, run_underlying hu, MapKept.run_getObj_map hh, MapKept.run_checkKey hkd hkey, MapKept.run_findKey hkd hF, MapKept.run_setObj_map _ hh, hself]
      | some p =>
        rw [hf2] at h hR
        cases F with
        | none => exact hR.elim
        | some q =>
          obtain ⟨i, pv⟩ := p
          obtain ⟨j, V'⟩ := q
          obtain ⟨rfl, a2, e, _, a4, _⟩ := hR
          simp only [Nat.sub_zero] at a4
          simp only [Option.some.injEq] at h
          subst h
          have hlt : j < en.size := by have := (List.getElem?_eq_some_iff.1 a4).1; simpa using this
          refine ⟨_, ?_, Rel.putMap (es' := es.eraseIdx j) (c' := c) (en' := en.eraseIdxIfInBounds j) hr hg hb ?_⟩
          · simp [Builtin.delete_, run_underlying hu, MapKept.run_getObj_map hh, MapKept.run_checkKey hkd hkey, MapKept.run_findKey hkd hF, MapKept.run_setObj_map _ hh]
          · rw [concE_erase j he]
            simp [Array.eraseIdxIfInBounds, hlt]
end
end Go.Det
