/- Iterators, literals, calls of builtins: what the evaluator does stands for what the model does. Conditions: none. -/
import Derived.Test.YtkbninmkgjhfmaaGreatDoorDetOps7
set_option maxHeartbeats 400000
namespace Go.Det
open Go
section
variable {P : Program} {B : Nat → Prop} {w0 w : World} {ρ : Rho} {σ σ' : AS}

theorem Rel.putObj {i b N : Nat} {o o' : AObj} {ob' : Obj} (h : Rel B w0 ρ σ w) (hi : σ.get i = some o) (hb : ρ i = some (b, N)) (hw : o.wr = true) (ho : ObjR ρ o' N ob') :
    Rel B w0 ρ (σ.put i (some o')) (w.putObj b ob') := by
  obtain ⟨ob, h1, _, _⟩ := h.objs i o hi b N hb
  exact h.put hi hb hw ho rfl rfl rfl (by simp) (World.putObj_heap_same (lt_of_heap h1)) (fun k hk => World.putObj_heap_other hk)

theorem concE_filter (p : Nat → Bool) : ∀ {es : List (AV × AV × Nat)} {l : List MapEntry}, concE ρ es = some l → concE ρ (es.filter fun e => p e.2.2) = some (l.filter fun e => p e.born)
  | [], l, h => by simp only [concE, Option.some.injEq] at h; subst h; rfl
  | (k, v, n) :: r, l, h => by
    obtain ⟨x, y, z, h1, h2, h3, rfl⟩ := concE_cons h
    have ih := concE_filter p h3
    simp only [List.filter_cons]
    cases p n with
    | true => simpa using concE_mk h1 h2 ih
    | false => simpa using ih

theorem concE_all (p : Nat → Bool) : ∀ {es : List (AV × AV × Nat)} {l : List MapEntry}, concE ρ es = some l → es.all (fun e => p e.2.2) = l.all fun e => p e.born
  | [], l, h => by simp only [concE, Option.some.injEq] at h; subst h; rfl
  | (k, v, n) :: r, l, h => by
    obtain ⟨x, y, z, h1, h2, h3, rfl⟩ := concE_cons h
    simp [concE_all p h3]

theorem next_sound {it v : AV} {str : Bool} {I : Value} {ty : TypeId} (h : nextA it str σ = some (v, σ')) (hr : Rel B w0 ρ σ w) (hi : conc ρ it = some I) : VR P B w0 (Instr.next I str ty) ρ w v σ' := by
  unfold nextA at h
  split at h
  · rename_i r
    obtain ⟨b, N, hb, rfl⟩ := conc_ptr hi
    split at h
    · -- a nil map
      rename_i si se la hg
      cases h
      obtain ⟨ob, h1, h2, _⟩ := hr.objs r _ hg b N hb
      cases ob with
      | mapIter m' si' se' la' =>
        obtain ⟨rfl, rfl, _, _⟩ := h2
        refine VR.pure (x := .tuple #[.bool false]) ?_ hr rfl
        simp [Instr.next, getObj, Sem.run, h1]
      | _ => exact h2.elim
    · -- a map
      rename_i m si se la hg
      obtain ⟨ob, h1, h2, _⟩ := hr.objs r _ hg b N hb
      cases ob with
      | mapIter m' si' se' la' =>
        obtain ⟨⟨bm, M, hm, rfl⟩, rfl, rfl, rfl⟩ := h2
        split at h
        · rename_i es ck hgm
          obtain ⟨ob, k1, k2, _⟩ := hr.objs m _ hgm bm M hm
          cases ob with
          | map en ck' =>
            obtain ⟨rfl, he⟩ := k2
            have htest : (!se'.toList.isEmpty && !es.isEmpty && es.all (fun e => Nat.ble la' e.2.2)) = (!se'.isEmpty && !en.isEmpty && en.all fun e => decide (e.born ≥ la')) := by
              have e1 : es.isEmpty = en.isEmpty := by
                have := concE_length he
                rw [Array.length_toList] at this
                cases es with
                | nil => simp at this; simp [this]
                | cons _ _ => simp at this; simp [Array.isEmpty, this]
              have e2 := concE_all (fun n => Nat.ble la' n) he
              rw [e1, e2]
              have e3 : se'.toList.isEmpty = se'.isEmpty := by simp
              rw [e3]
              congr 1
              rw [← Array.all_toList]
              congr 1
              funext e
              cases hq : Nat.ble la' e.born with
              | true => simpa using Nat.le_of_ble_eq_true hq
              | false =>
                symm
                rw [decide_eq_false_iff_not]
                intro h'
                rw [Nat.ble_eq_true_of_le h'] at hq
                cases hq
            cases ht : (!se'.toList.isEmpty && !es.isEmpty && es.all (fun e => Nat.ble la' e.2.2)) with
            | true => rw [ht] at h; cases h
            | false =>
              rw [ht] at h htest
              simp only [cond] at h
              have hfil := concE_filter (fun n => !se'.toList.contains n) he
              have hleft : (en.filter fun e => !se'.contains e.born).toList = en.toList.filter fun e => !se'.toList.contains e.born := by
                rw [Array.toList_filter]; congr 1; funext e; simp
              split at h
              · -- nothing is left
                rename_i hnil
                cases h
                rw [hnil] at hfil
                simp only [concE, Option.some.injEq] at hfil
                rw [← hfil] at hleft
                have hl : (en.filter fun e => !se'.contains e.born) = #[] := by apply Array.toList_inj.1; rw [hleft]
                refine VR.pure (x := .tuple #[.bool false]) ?_ hr rfl
                have hmo := MapKept.run_getObj_map (P := P) k1
                have hit : (getObj b).run P w = .ok (.mapIter (some bm) si' se' la') w := by simp [getObj, Sem.run, h1]
                simp only [Instr.next, Sem.run_bind, hit, Result.andThen_ok, hmo, ← htest, Bool.false_eq_true, if_false, hl]
                simp [choose, Sem.run, Question.forced]
              · -- one is left
                rename_i e hone
                obtain ⟨ek, ev, eb⟩ := e
                simp only at h
                cases hlt : Nat.blt eb si' with
                | false => rw [hlt] at h; cases h
                | true =>
                  rw [hlt] at h
                  simp only [Option.some.injEq, Prod.mk.injEq] at h
                  obtain ⟨rfl, rfl⟩ := h
                  rw [hone] at hfil
                  obtain ⟨x, y, z, c1, c2, c3, c4⟩ := concE_cons hfil
                  simp only [concE, Option.some.injEq] at c3
                  subst c3
                  rw [c4] at hleft
                  have hl : (en.filter fun e => !se'.contains e.born) = #[{ key := x, val := y, born := eb }] := by apply Array.toList_inj.1; rw [hleft]
                  have hlt' := blt_lt hlt
                  have hmo := MapKept.run_getObj_map (P := P) k1
                  have hit : (getObj b).run P w = .ok (.mapIter (some bm) si' se' la') w := by simp [getObj, Sem.run, h1]
                  have hset : (setObj b (.mapIter (some bm) si' (se'.push eb) ck')).run P w = .ok () (w.putObj b (.mapIter (some bm) si' (se'.push eb) ck')) := by simp [setObj, Sem.run, h1, World.putObj]
                  refine ⟨.tuple #[.bool true, x, y], _, ρ, ?_, .refl ρ,
                    hr.putObj (o' := .mapIter (some m) si' (se'.toList ++ [eb]) ck') (ob' := .mapIter (some bm) si' (se'.push eb) ck') hg hb rfl ⟨⟨bm, M, hm, rfl⟩, rfl, by simp, rfl⟩,
                    by simp [conc, concL, c1, c2]⟩
                  simp only [Instr.next, Sem.run_bind, hit, Result.andThen_ok, hmo, ← htest, Bool.false_eq_true, if_false, hl]
                  have hnew : (#[({ key := x, val := y, born := eb } : MapEntry)].filter fun e => decide (e.born ≥ si')) = #[] := by simp; omega
                  have hold : (#[({ key := x, val := y, born := eb } : MapEntry)].filter fun e => decide (e.born < si')) = #[{ key := x, val := y, born := eb }] := by simp [hlt']
                  simp only [hnew, hold]
                  simp [choose, Sem.run, Question.forced, hset]
              · cases h
          | _ => exact k2.elim
        · cases h
      | _ => exact h2.elim
    · -- a text
      rename_i s pos hg
      obtain ⟨ob, h1, h2, _⟩ := hr.objs r _ hg b N hb
      cases ob with
      | stringIter s' p' =>
        obtain ⟨rfl, rfl⟩ := h2
        have hit : (getObj b).run P w = .ok (.stringIter ⟨s.toArray⟩ p') w := by simp [getObj, Sem.run, h1]
        split at h
        · rename_i c hc
          cases hlt : Nat.blt c.toNat 128 with
          | false => rw [hlt] at h; cases h
          | true =>
            rw [hlt] at h
            simp only [cond, Option.some.injEq, Prod.mk.injEq] at h
            obtain ⟨rfl, rfl⟩ := h
            have hlt' := blt_lt hlt
            have hp : p' < s.length := (List.getElem?_eq_some_iff.1 hc).1
            have hget : (⟨s.toArray⟩ : ByteArray).get! p' = c := by
              simp only [ByteArray.get!]
              rw [Array.getElem!_eq_getD, Array.getD_eq_getD_getElem?]
              simp [hc]
            have hdec : Utf8.decode ⟨s.toArray⟩ p' = (c.toNat, 1) := by
              unfold Utf8.decode
              simp only [Nat.add_zero, hget]
              rw [if_pos (by omega)]
            have hset : (setObj b (.stringIter ⟨s.toArray⟩ (p' + 1))).run P w = .ok () (w.putObj b (.stringIter ⟨s.toArray⟩ (p' + 1))) := by simp [setObj, Sem.run, h1, World.putObj]
            refine ⟨.tuple #[.bool true, .int .i64 p', .int .i32 c.toNat], _, ρ, ?_, .refl ρ,
              hr.putObj (o' := .strIter s (p' + 1)) (ob' := .stringIter ⟨s.toArray⟩ (p' + 1)) hg hb rfl ⟨rfl, rfl⟩, by simp [conc, concL]⟩
            simp only [Instr.next, Sem.run_bind, hit, Result.andThen_ok, bytes_size]
            rw [if_pos hp]
            simp [hdec, hset, goInt]
        · rename_i hc
          cases h
          have hp : ¬ p' < s.length := by simpa using hc
          refine VR.pure (x := .tuple #[.bool false]) ?_ hr rfl
          simp only [Instr.next, Sem.run_bind, hit, Result.andThen_ok, bytes_size]
          rw [if_neg hp]
          rfl
      | _ => exact h2.elim
    · cases h
  · cases h

theorem delete_any {t ty : TypeId} {m k : AV} {M K : Value} (h : mapDel P t m k σ = some σ') (hr : Rel B w0 ρ σ w) (hm : conc ρ m = some M) (hk : conc ρ k = some K) (rest : List TypeId) (args : List Value) :
    VR P B w0 (Builtin.delete_ (t :: rest).toArray ty (M :: K :: args).toArray) ρ w (.tuple []) σ' := by
  obtain ⟨w', h1, h2⟩ := mapDel_sound (ty := ty) (kt0 := 0) h hr hm hk rest args
  exact ⟨.tuple #[], w', ρ, h1, .refl ρ, h2, rfl⟩

theorem OpR.of_value {s : Sem Next} {s' : Sem Value} {v : AV} (h : VR P B w0 s' ρ w v σ') (e : s = (do Pure.pure (Next.value (← s')))) : OpR P B w0 s ρ w v σ' := by subst e; exact h.op

theorem unsafeSliceData_def (ats : Array TypeId) (ty : TypeId) (a : Addr) (n c : Nat) : Builtin.unsafeSliceData_ ats ty #[.slice (some a) n c] =
    (if c ≠ 0 then pure (.pointer (some a)) else do
      if (← viewAt a.block).isSome then pure (.pointer (some a))
      else pure (.pointer (some ⟨← newObj (.view a (← elemOf ty)), 0, none⟩))) := rfl

theorem unsafeString_none_def (pt ty : TypeId) (rest : List TypeId) (k : IntKind) (n : Int) : Builtin.unsafeString_ (pt :: rest).toArray ty #[.pointer none, .int k n] =
    (do
      let n ← asInt (.int k n)
      if n < 0 then runtimePanic (.error "unsafe.String: len out of range")
      if n > IntKind.i64.max then unsupported (.unsafePointer "String: a length above the largest int")
      if n = 0 then pure (.string .empty)
      else runtimePanic (.error "unsafe.String: ptr is nil and len is not zero")) := rfl

theorem unsafeString_def (pt ty : TypeId) (rest : List TypeId) (a : Addr) (k : IntKind) (n : Int) : Builtin.unsafeString_ (pt :: rest).toArray ty #[.pointer (some a), .int k n] =
    (do
      let n ← asInt (.int k n)
      if n < 0 then runtimePanic (.error "unsafe.String: len out of range")
      if n > IntKind.i64.max then unsupported (.unsafePointer "String: a length above the largest int")
      if n = 0 then pure (.string .empty)
      else if ← variablesAt a (← elemOf pt) n.toNat then do
        let s ← loadBytes a .empty n.toNat
        freeze a n.toNat
        pure (.string s)
      else unsupported (.unsafePointer "String: not so many bytes at ptr")) := rfl

theorem builtinA_sound {b : Builtin} {ats : List TypeId} {ty : TypeId} {consts : Array Bool} {args : List AV} {xs : List Value} {v : AV} (h : builtinA P b ats args σ = some (v, σ')) (hr : Rel B w0 ρ σ w) (hx : concL ρ args = some xs) :
    OpR P B w0 (builtin b ats.toArray ty consts xs.toArray) ρ w v σ' := by
  unfold builtinA at h
  split at h
  · obtain ⟨S, _, hS, hx1, rfl⟩ := concL_cons hx
    obtain ⟨X, _, hX, _, rfl⟩ := concL_cons hx1
    exact OpR.of_value (appendA_sound h hr hS hX) rfl
  · obtain ⟨S, _, hS, hx1, rfl⟩ := concL_cons hx
    obtain ⟨X, _, hX, _, rfl⟩ := concL_cons hx1
    exact OpR.of_value (copyA_sound h hr hS hX) rfl
  · -- len
    rename_i t rest x r
    obtain ⟨X, ys, hX, hx1, rfl⟩ := concL_cons hx
    refine OpR.of_value (s' := Builtin.len_ (t :: rest).toArray ty (X :: ys).toArray) ?_ rfl
    split at h
    · rename_i s hu; cases conc_str hX; cases h
      exact VR.pure (x := .int .i64 s.length) (by simp [Builtin.len_, run_underlying hu, bytes_size, goInt]) hr rfl
    · rename_i n e hu; cases h
      exact VR.pure (x := .int .i64 n) (by simp [Builtin.len_, run_underlying hu, goInt]) hr rfl
    · rename_i e a n c q hu; obtain ⟨_, _, rfl, _⟩ := conc_slice_any hX; cases h
      exact VR.pure (x := .int .i64 n) (by simp [Builtin.len_, run_underlying hu, goInt]) hr rfl
    · rename_i e i o alt skip q hu
      obtain ⟨_, _, _, h2⟩ := conc_eslice hX
      cases h
      rcases h2 with ⟨_, rfl⟩ | ⟨_, rfl⟩ <;> exact VR.pure (x := .int .i64 0) (by simp [Builtin.len_, run_underlying hu, goInt]) hr rfl
    · rename_i k e hu; cases conc_mapNil hX; cases h
      exact VR.pure (x := .int .i64 0) (by simp [Builtin.len_, run_underlying hu, goInt]) hr rfl
    · rename_i k e m hu
      obtain ⟨bm, N, hb, rfl⟩ := conc_map hX
      split at h
      · rename_i es ck hg
        cases h
        obtain ⟨ob, h1, h2, _⟩ := hr.objs m _ hg bm N hb
        cases ob with
        | map en ck' =>
          have hlen := concE_length h2.2
          rw [Array.length_toList] at hlen
          exact VR.pure (x := .int .i64 es.length) (by simp [Builtin.len_, run_underlying hu, MapKept.run_getObj_map h1, goInt, hlen]) hr rfl
        | _ => exact h2.elim
      · cases h
    · cases h
  · -- cap
    rename_i t rest x r
    obtain ⟨X, ys, hX, hx1, rfl⟩ := concL_cons hx
    refine OpR.of_value (s' := Builtin.cap_ (t :: rest).toArray ty (X :: ys).toArray) ?_ rfl
    split at h
    · rename_i n e hu; cases h
      exact VR.pure (x := .int .i64 n) (by simp [Builtin.cap_, run_underlying hu, goInt]) hr rfl
    · rename_i e a n c hu
      cases h
      obtain ⟨ad, rfl⟩ : ∃ ad, X = .slice ad n c := by
        cases a with
        | none => obtain ⟨_, rfl⟩ := conc_sliceNil hX; exact ⟨_, rfl⟩
        | some p => obtain ⟨_, _, _, rfl⟩ := conc_slice (i := p.1) (o := p.2) hX; exact ⟨_, rfl⟩
      exact VR.pure (x := .int .i64 c) (by simp [Builtin.cap_, run_underlying hu, goInt]) hr rfl
    · cases h
  · -- min
    rename_i ats x r
    obtain ⟨X, ys, hX, hx1, rfl⟩ := concL_cons hx
    cases hf : foldA min2A x r with
    | none => rw [hf] at h; cases h
    | some z =>
      rw [hf] at h
      simp only [Option.map_some, Option.some.injEq, Prod.mk.injEq] at h
      obtain ⟨rfl, rfl⟩ := h
      obtain ⟨V, v1, v2⟩ := fold_sound (P := P) (F := Builtin.min2) (fun h ha hb w => min2_sound h ha hb w) w hf hx1 hX
      exact OpR.of_value (s' := Builtin.min_ _ ty (X :: ys).toArray) (VR.pure (x := V) (by simp only [Builtin.min_]; exact v2) hr v1) rfl
  · rename_i ats x r
    obtain ⟨X, ys, hX, hx1, rfl⟩ := concL_cons hx
    cases hf : foldA max2A x r with
    | none => rw [hf] at h; cases h
    | some z =>
      rw [hf] at h
      simp only [Option.map_some, Option.some.injEq, Prod.mk.injEq] at h
      obtain ⟨rfl, rfl⟩ := h
      obtain ⟨V, v1, v2⟩ := fold_sound (P := P) (F := Builtin.max2) (fun h ha hb w => max2_sound h ha hb w) w hf hx1 hX
      exact OpR.of_value (s' := Builtin.max_ _ ty (X :: ys).toArray) (VR.pure (x := V) (by simp only [Builtin.max_]; exact v2) hr v1) rfl
  · -- delete
    rename_i t rest m k r
    obtain ⟨M, _, hM, hx1, rfl⟩ := concL_cons hx
    obtain ⟨K, _, hK, _, rfl⟩ := concL_cons hx1
    cases hd : mapDel P t m k σ with
    | none => rw [hd] at h; cases h
    | some σ1 =>
      rw [hd] at h
      simp only [Option.map_some, Option.some.injEq, Prod.mk.injEq] at h
      obtain ⟨rfl, rfl⟩ := h
      exact OpR.of_value (delete_any hd hr hM hK _ _) rfl
  · -- clear
    rename_i t rest x r
    obtain ⟨X, ys, hX, hx1, rfl⟩ := concL_cons hx
    refine OpR.of_value (s' := Builtin.clear_ (t :: rest).toArray ty (X :: ys).toArray) ?_ rfl
    split at h
    · rename_i d hu; cases conc_mapNil hX; cases h
      exact VR.pure (x := .tuple #[]) (by cases d <;> simp [Builtin.clear_, run_underlying hu]) hr rfl
    · rename_i d n c q hu; obtain ⟨_, rfl⟩ := conc_sliceNil hX; cases h
      exact VR.pure (x := .tuple #[]) (by cases d <;> simp [Builtin.clear_, run_underlying hu]) hr rfl
    · rename_i d i o alt skip q hu
      obtain ⟨_, _, _, h2⟩ := conc_eslice hX
      cases h
      rcases h2 with ⟨_, rfl⟩ | ⟨_, rfl⟩ <;> exact VR.pure (x := .tuple #[]) (by cases d <;> simp [Builtin.clear_, run_underlying hu]) hr rfl
    · rename_i d m hu
      obtain ⟨bm, N, hb, rfl⟩ := conc_map hX
      split at h
      · rename_i es ck hg
        cases h
        obtain ⟨ob, h1, h2, _⟩ := hr.objs m _ hg bm N hb
        cases ob with
        | map en ck' =>
          obtain ⟨rfl, _⟩ := h2
          refine ⟨.tuple #[], _, ρ, ?_, .refl ρ, Rel.putMap (es' := []) (c' := ck') (en' := #[]) hr hg hb rfl, rfl⟩
          cases d <;> simp [Builtin.clear_, run_underlying hu, MapKept.run_getObj_map h1, MapKept.run_setObj_map _ h1]
        | _ => exact h2.elim
      · cases h
    · rename_i e i o n c q hu
      cases hz : zeroT P e with
      | none => rw [hz] at h; cases h
      | some z =>
        rw [hz] at h
        simp only [Option.bind_some] at h
        cases hst : storeN σ i o (repN n z.cells) with
        | none => rw [hst] at h; cases h
        | some σ1 =>
          rw [hst] at h
          simp only [Option.map_some, Option.some.injEq, Prod.mk.injEq] at h
          obtain ⟨rfl, rfl⟩ := h
          obtain ⟨b, N, hb, cc, rfl⟩ : ∃ b N, ρ i = some (b, N) ∧ ∃ cc, X = .slice (some ⟨b, o, none⟩) n cc := by
            cases q with
            | false => obtain ⟨b, N, hb, rfl⟩ := conc_slice hX; exact ⟨b, N, hb, _, rfl⟩
            | true => obtain ⟨b, N, hb, _, rfl⟩ := conc_open hX; exact ⟨b, N, hb, _, rfl⟩
          obtain ⟨zv, z1, z2⟩ := run_zero hz w
          have hzs : zv.cells.size = z.cells.length := by rw [← Array.length_toList]; exact concL_length (conc_cells (z2 ρ))
          have hcl := zeros_conc (z2 ρ) n _ rfl
          obtain ⟨w', k1, k2⟩ := run_storeN (P := P) hst hr hb hcl
          refine ⟨.tuple #[], if n = 0 then w else w', ρ, ?_, .refl ρ, ?_, rfl⟩
          · cases n with
            | zero => simp [Builtin.clear_, run_underlying hu]
            | succ n => simp [Builtin.clear_, run_underlying hu, z1, zeroCells_eq, hzs] ; simp only [Array.toList_map, Array.toList_range] at k1; simp [hzs] at k1; simp [k1]
          · split
            · rename_i hn
              subst hn
              simp only [repN, storeN] at hst
              cases hg : σ.get i with
              | none => rw [hg] at hst; cases hst
              | some ob =>
                cases ob with
                | cells cs e' wr qq =>
                  cases wr with
                  | false => rw [hg] at hst; cases hst
                  | true =>
                    have hz0 : ((Array.range (0 * z.cells.length)).map (zv.cells[· % zv.cells.size]!)).toList = [] := by simp
                    rw [hz0] at k1
                    have : w' = w := by
                      have hh : (storeCells ⟨b, o, none⟩ []).run P w = .ok () w := rfl
                      rw [hh] at k1
                      cases k1; rfl
                    rw [← this]; exact k2
                | _ => rw [hg] at hst; cases hst
            · exact k2
    · cases h
  · -- unsafe.SliceData
    rename_i ats n c q
    obtain ⟨X, ys, hX, hx1, rfl⟩ := concL_cons hx
    simp only [concL, Option.some.injEq] at hx1
    subst hx1
    obtain ⟨_, rfl⟩ := conc_sliceNil hX
    cases h
    exact OpR.of_value (s' := Builtin.unsafeSliceData_ _ ty #[.slice none n c]) (VR.pure (x := .pointer none) rfl hr rfl) rfl
  · rename_i ats i o n c q
    obtain ⟨X, ys, hX, hx1, rfl⟩ := concL_cons hx
    simp only [concL, Option.some.injEq] at hx1
    subst hx1
    cases hc : Nat.beq (cond q n c) 0 with
    | true => rw [hc] at h; cases h
    | false =>
      rw [hc] at h
      simp only [cond, Option.some.injEq, Prod.mk.injEq] at h
      obtain ⟨rfl, rfl⟩ := h
      have hne : ∀ m, Nat.beq m 0 = false → m ≠ 0 := fun m hm e => by subst e; cases hm
      obtain ⟨b, N, hb, cc, hcc, rfl⟩ : ∃ b N, ρ i = some (b, N) ∧ ∃ cc, cc ≠ 0 ∧ X = .slice (some ⟨b, o, none⟩) n cc := by
        cases q with
        | false => obtain ⟨b, N, hb, rfl⟩ := conc_slice hX; exact ⟨b, N, hb, _, hne _ hc, rfl⟩
        | true => obtain ⟨b, N, hb, hle, rfl⟩ := conc_open hX; exact ⟨b, N, hb, _, by have := hne _ hc; simp at this; omega, rfl⟩
      exact OpR.of_value (s' := Builtin.unsafeSliceData_ _ ty #[.slice (some ⟨b, o, none⟩) n cc]) (VR.pure (x := .pointer (some ⟨b, o, none⟩)) (by rw [unsafeSliceData_def]; rw [if_pos hcc]; rfl) hr (by simp [conc, hb])) rfl
  · -- unsafe.String of nil
    rename_i pt rest k n
    obtain ⟨X, ys, hX, hx1, rfl⟩ := concL_cons hx
    obtain ⟨Y, zs, hY, hx2, rfl⟩ := concL_cons hx1
    simp only [concL, Option.some.injEq] at hx2
    subst hx2
    cases conc_nil hX; cases conc_int hY
    split at h
    · rename_i hn
      subst hn
      cases h
      exact OpR.of_value (s' := Builtin.unsafeString_ (pt :: rest).toArray ty #[.pointer none, .int k 0]) (VR.pure (x := .string .empty) (by rw [unsafeString_none_def]; simp [asInt, asIntOf]) hr rfl) rfl
    · cases h
  · rename_i pt rest i o k n
    obtain ⟨X, ys, hX, hx1, rfl⟩ := concL_cons hx
    obtain ⟨Y, zs, hY, hx2, rfl⟩ := concL_cons hx1
    simp only [concL, Option.some.injEq] at hx2
    subst hx2
    obtain ⟨b, N, hb, rfl⟩ := conc_ptr hX
    cases conc_int hY
    refine OpR.of_value (s' := Builtin.unsafeString_ (pt :: rest).toArray ty #[.pointer (some ⟨b, o, none⟩), .int k n]) ?_ rfl
    split at h
    · cases h
    · rename_i hn
      simp only [not_or] at hn
      split at h
      · rename_i h0
        subst h0
        cases h
        exact VR.pure (x := .string .empty) (by rw [unsafeString_def]; simp [asInt, asIntOf]) hr rfl
      · rename_i h0
        split at h
        · rename_i cs e q u hg hu
          cases hz : szT P u with
          | none => rw [hz] at h; simp at h
          | some k1 =>
          rw [hz] at h
          dsimp only at h
          cases hc : (Nat.beq e u && Nat.beq k1 1) with
          | false => rw [hc] at h; cases h
          | true =>
            rw [hc] at h
            simp only [cond] at h
            simp only [Bool.and_eq_true] at hc
            obtain ⟨c1, c2⟩ := hc
            obtain rfl := beq_eq c1
            obtain rfl := beq_eq c2
            have hs : szT P e = some 1 := hz
            cases ht : takeN n.toNat (cs.drop o) with
            | none => rw [ht] at h; cases h
            | some l =>
              rw [ht] at h
              simp only [Option.bind_some] at h
              cases hbs : bytesOfA l with
              | none => rw [hbs] at h; cases h
              | some s =>
                rw [hbs] at h
                simp only [Option.map_some, Option.some.injEq, Prod.mk.injEq] at h
                obtain ⟨rfl, rfl⟩ := h
                obtain ⟨ob, h1, h2, _⟩ := hr.objs i _ hg b N hb
                cases ob with
                | cells c e' fr =>
                  obtain ⟨rfl, hrow, _⟩ := h2
                  obtain ⟨t1, t2⟩ := takeN_some _ _ l ht
                  have hln : loadN σ i o n.toNat = some l := by simp [loadN, hg, ht]
                  obtain ⟨xs, x1, _, _⟩ := run_loadN (P := P) hln hr hb
                  obtain ⟨ns, rfl, rfl⟩ := bytesOf_ints hbs x1
                  have hnl : ns.length = n.toNat := by have := concL_length x1; simp at this; omega
                  have hcell : ∀ j m, ns[j]? = some m → w.cell? ⟨b, o + 0 + j, none⟩ = some (.int .u8 m) := fun j m hj => by
                    obtain ⟨v, v1, v2⟩ := concL_get' (a := l) (u := .int .u8 m) j x1 (by simp [hj])
                    obtain ⟨y, y1, y2⟩ := hr.cell hg hb (get_of_takeN ht v1)
                    rw [v2] at y2
                    cases y2
                    rw [Nat.add_zero]
                    exact y1
                  have hload := run_loadBytes (P := P) ns 0 [] hcell
                  simp only [List.nil_append, Nat.add_zero, hnl] at hload
                  have hle : o + n.toNat ≤ c.size := by
                    have : o + n.toNat ≤ cs.length := by rw [t1, List.length_take, List.length_drop] at t2; omega
                    rcases Nat.eq_zero_or_pos cs.length with hz | hz
                    · omega
                    · have := RowR.lt (ρ := ρ) (q := q) (N := N) (o := cs.length - 1) hrow (by omega)
                      omega
                  have hvar := variablesAt_true (P := P) h1 hs hle
                  have hn0 : n.toNat ≠ 0 := by omega
                  obtain ⟨fr', f1, _⟩ := freeze_world (o := o) (n := n.toNat) h1 hn0
                  refine ⟨.string ⟨(ns.map fun n => UInt8.ofNat n.toNat).toArray⟩, _, ρ, ?_, .refl ρ,
                    hr.putObj (o' := .cells cs e' false q) (ob' := .cells c e' fr') hg hb rfl ⟨rfl, hrow, fun hh => by cases hh⟩, rfl⟩
                  have hemp : (ByteArray.empty : ByteArray) = ⟨([] : List UInt8).toArray⟩ := rfl
                  have hel : (elemOf pt).run P w = .ok e' w := by simp [elemOf, run_underlying hu]
                  have g1 : ¬ n < 0 := hn.1
                  have g2 : ¬ n > 9223372036854775807 := hn.2
                  rw [unsafeString_def]
                  simp only [asInt, asIntOf, Sem.run_bind, Sem.run_pure, Result.andThen_ok, i64max, g1, g2, h0, if_false, hel, hvar, if_true, hemp, hload, run_freeze, f1]
                | _ => exact h2.elim
        · cases h
  · cases h
end
end Go.Det
