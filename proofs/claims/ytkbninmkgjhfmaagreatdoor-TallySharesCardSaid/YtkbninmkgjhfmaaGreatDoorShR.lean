/- TallyShares: the row and its tied card. -/
import Derived.Test.YtkbninmkgjhfmaaGreatDoorShW1
import Derived.Test.YtkbninmkgjhfmaaGreatDoorTie
import Derived.Test.YtkbninmkgjhfmaaGreatDoorCards
import Derived.ProofKit
import Derived.OpenShut
import Derived.ChangeOld
import Derived.LaidMore
import Derived.Lay
import Derived.SevenTiedAt
import Derived.Stop.Joined
import Derived.HandedShaped
set_option maxHeartbeats 400000
namespace Go.Proofs
open Go Go.Det Go.RowKit

/-- The contract is handed the listed variables' reading and the world's shape. -/
theorem returns_laid_shaped {H : Type} {enc : TypeId × Value → H} {a : Assume} {C : Checked} {os : Os} {f : FuncId} {fn : Func} {s : ChangeSpec} {conds : List PathCond} {apart fresh handsOn again : Bool} {X : World → Array Value → Prop}
    (hX : ∀ (w w' : World) (args : Array Value), w.heap = w'.heap → X w args → X w' args)
    (own : ownKnob C.prog.godebug = none) (started : os.Started) (noInit : C.prog.inits.idxOf? f = none) (hfn : C.prog.funcs[f]? = some fn)
    (witness : ∃ (w : World) (tape : Tape) (i : Input), w.os = os ∧ (w.forCall tape i).Shaped C.prog ∧ i.vars = [] ∧ Input.okWide C.prog (w.forCall tape i) .any w.heap.size f i ∧
      ((s.pre enc C.prog fn conds apart (w.forCall tape i).memory i.args ∧ X (w.forCall tape i).memory i.args) ∧ sizedMet enc C.prog fn (OpenSpec.ofChange s) apart (w.forCall tape i).memory i.args) ∧ a.holds C.prog (lone (Frame.enter C.prog f i.args .normal) [] (w.forCall tape i)))
    (contract : ∀ (W : World) (base : Nat) (args : Array Value) (ds gs : List (DataW H)) (before : List MemPlace),
      (∀ (j : Nat) t v, fn.params[j]? = some t → args[j]? = some v → Value.okWide C.prog W .any base t v) →
      DataW.Whole enc C.prog fn.params.toList s.vars apart W args.toList ds gs before →
      conds.all (PathCond.test C.prog ⟨fn.params.toList, ds, s.plain.varTypes C.prog, gs⟩) = true →
      X W args → W.ShapedOpen C.prog →
      Calls C.prog f args W fun e W' => ∃ v, e = .returned v ∧ s.post enc C.prog fn apart fresh handsOn again W args v W') :
    ReturnsInHanded a C os f .any (fun w args => (s.pre enc C.prog fn conds apart w args ∧ X w args) ∧ sizedMet enc C.prog fn (OpenSpec.ofChange s) apart w args) (s.post enc C.prog fn apart fresh handsOn again) := by
  refine returnsInHanded_of_calls own started noInit witness ?_
  intro w tape i _ hsh _ hok hpre _
  obtain ⟨_, _, _, fn', hfn', _, _, _, _, hval⟩ := hok
  obtain rfl : fn' = fn := Option.some.inj (hfn'.symm.trans hfn)
  obtain ⟨⟨⟨ds, gs, before, hw, hc⟩, hx⟩, _⟩ := hpre
  have hw' := DataW.Whole.of_heap (w' := w.forCall tape i) (by rfl) hw
  refine (contract (w.forCall tape i) w.heap.size i.args ds gs before hval hw' hc (hX _ _ _ (by rfl) hx) hsh).mono fun e W' ⟨v, he, hp⟩ => ?_
  subst he
  exact ChangeSpec.post_blind hp

/-- An array of strings, read as a known datum: its cells. -/
theorem strs_of {P : Program} {W : World} {cs : Array Value} {n fuel : Nat} {t e : TypeId} {L : List (List UInt8)} {p : List MemPlace} (hu : P.underlying t = some (.array n e)) (he : P.underlying e = some .string) (hc : P.cellsOf e = 1) (hct : P.cellsOf t = n)
    (hd : DataW.trod (H := Unit) (fun _ => ()) P W 0 (fun _ => true) false fuel t cs.toList = some (.agg (L.map fun s => .lit (.string s)), p)) : cs = (strsV L).toArray := by
  obtain ⟨xs, m, _, ex, hl, hxl, hel⟩ := DataW.trod_array hu hd
  rw [hct] at hl
  have e1 : xs.map (·.1) = L.map fun s => (.lit (.string s) : DataW Unit) := (DataW.agg.inj (Prod.mk.inj ex).1).symm
  have hL : L.length = n := by have := congrArg List.length e1; simp at this; omega
  apply Array.toList_inj.1
  apply List.ext_getElem?
  intro i
  rcases Nat.lt_or_ge i n with hi | hi
  · have h := hel i hi
    rw [hc, Nat.mul_one, List.getElem?_eq_getElem (by omega : i < xs.length)] at h
    obtain ⟨s, h1, h2, _⟩ := DataW.trod_string he h
    have h3 : cs.toList[i]? = some (.string s) := by
      have h0 : ((cs.toList.drop i).take 1)[0]? = some (.string s) := by rw [h1]; rfl
      simpa using h0
    have h4 : (xs.map (·.1))[i]? = (L.map fun s => (.lit (.string s) : DataW Unit))[i]? := by rw [e1]
    rw [List.getElem?_map, List.getElem?_map, List.getElem?_eq_getElem (by omega : i < xs.length), List.getElem?_eq_getElem (by omega : i < L.length), h2] at h4
    simp only [Option.map_some, Option.some.injEq, DataW.lit.injEq, Lit.string.injEq] at h4
    rw [h3]
    simp only [strsV, List.getElem?_map, List.getElem?_eq_getElem (by omega : i < L.length), Option.map_some, ← h4]
  · rw [List.getElem?_eq_none (by omega), List.getElem?_eq_none (by simp [strsV]; omega)]

theorem shaped_2 {W : World} (h : W.ShapedOpen Tryz.prog) : ∃ cs, W.heap[2]? = some (.cells cs 163) := by
  have hz : (((begin Tryz.prog (fun _ _ => 0) default).world.heap[2]?).bind Obj.row?).map (·.2) = some 163 := by kernel_rfl
  cases hr : ((begin Tryz.prog (fun _ _ => 0) default).world.heap[2]?).bind Obj.row? with
  | none => rw [hr] at hz; cases hz
  | some p =>
    obtain ⟨zero, t⟩ := p
    rw [hr] at hz
    simp only [Option.map_some, Option.some.injEq] at hz
    subst hz
    obtain ⟨cs, h1, _⟩ := h.1 2 zero 163 (of_decide_eq_true (by kernel_rfl)) hr
    exact ⟨cs, h1⟩

abbrev tallyLaid : List (String × DataW Unit) := [("unicode/utf8.acceptRanges", YtkbninmkgjhfmaaGreatDoor.Rows.laid_unicode_utf8_acceptRanges), ("taproot/command.forms", YtkbninmkgjhfmaaGreatDoor.Rows.laid_taproot_command_forms), ("unicode/utf8.first", YtkbninmkgjhfmaaGreatDoor.Rows.laid_unicode_utf8_first)]

theorem globs_of {W : World} (h : laidMetH Tryz.prog tallyLaid W) (hs : W.ShapedOpen Tryz.prog) : GlobsIn tallyGl W := by
  rw [MakeChecks.laidMetH_plain _ _ _ (by kernel_rfl)] at h
  obtain ⟨ps, ⟨g0, t0, cs0, f0, p0, q0, _, _, _, _, ⟨g1, t1, cs1, f1, p1, q1, hg1, ht1, hv1, hd1, _, _⟩, _⟩, _, _⟩ := h
  obtain rfl := Option.some.inj ((show Tryz.prog.globalNamed "taproot/command.forms" = some 2 by kernel_rfl).symm.trans hg1)
  obtain rfl := Option.some.inj ((show (Tryz.prog.globals[2]?).map (·.type) = some 163 by kernel_rfl).symm.trans ht1)
  obtain ⟨cs, hcs⟩ := shaped_2 hs
  have hcs1 : cs1 = cs := by
    simp only [World.var?, hg1, Option.bind_some, hcs, Option.some.injEq] at hv1
    exact hv1.symm
  have hlit := strs_of (L := [[], [113], [110], [98], [98], [120, 107, 121, 109], [110, 99, 109], [110, 105, 116], [110, 105, 116, 100], [110, 105, 116, 109], [110], [109], [110], [110, 105, 99]]) Tryz.underlying163 Tryz.underlying9 (by kernel_rfl) (by kernel_rfl) hd1
  intro g hg
  simp only [tallyGl, List.mem_cons, List.not_mem_nil, or_false] at hg
  subst hg
  exact ⟨(0, 0), by rw [hcs, ← hcs1, hlit]⟩
end Go.Proofs
