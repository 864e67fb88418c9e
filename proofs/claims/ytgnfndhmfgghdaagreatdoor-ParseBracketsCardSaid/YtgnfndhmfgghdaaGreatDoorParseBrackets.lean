/- chancel/chancellaw5.ParseBrackets: for every input the call returns true, and what is raw reads behind it as it read before. Conditions: none beyond the given row's: the listed package-level variables start as the program's text lays them (the card ties them). -/
import Derived.Test.YtgnfndhmfgghdaaGreatDoorK12
import Derived.Test.YtgnfndhmfgghdaaGreatDoorCards
import Derived.Test.YtgnfndhmfgghdaaGreatDoorTie
import Derived.WalkKit
import Derived.ProofKit
import Derived.OpenShut
import Derived.Deep.DeepHandedRow
import Derived.Lay
import Derived.Carry
set_option linter.unusedVariables false
set_option linter.unusedSimpArgs false
set_option linter.unusedSectionVars false
set_option linter.constructorNameAsVariable false
set_option linter.unnecessarySimpa false
namespace Go.Proofs.YtgnfndhmfgghdaaGreatDoor.parseBrackets
open Go Go.Vai
open Go.ChangeShapes Go.WideShapes Go.ChangeAt Go.RowKit
theorem own : ownKnob Tryz.prog.godebug = none := by kernel_rfl
theorem plainLaid : (Rows.parseBracketsRow.laid.all fun x => x.2.handleName?.isNone) = true := by kernel_rfl
theorem laidOut : laidOutB Tryz.prog = true := k2
theorem lastRow : (((begin Tryz.prog (fun _ _ => 0) default).world.heap[8]?).bind Obj.row?).isSome = true := by kernel_rfl
theorem room {W : World} (h : W.ShapedOpen Tryz.prog) : Tryz.prog.globals.size ≤ W.heap.size := by
  obtain ⟨x, hx⟩ := Option.isSome_iff_exists.mp lastRow
  obtain ⟨cs, h1, _⟩ := h.1 8 x.1 x.2 (by rw [gsz]; omega) hx
  have := (Array.getElem?_eq_some_iff.mp h1).1
  rw [gsz]; omega
theorem glob3 : Tryz.prog.globalNamed "strings.asciiSpace" = some 3 := by kernel_rfl
theorem globType3 : (Tryz.prog.globals[3]?).map (·.type) = some 319 := by kernel_rfl
theorem cellsA3 : Tryz.prog.cellsOf 319 = 256 := by kernel_rfl
theorem cellsE3 : Tryz.prog.cellsOf 5 = 1 := by kernel_rfl
theorem tab3 : (Rows.laid_strings_asciiSpace : DataW Unit) = Lib.tabData .u8 Rows_3 := by kernel_rfl
theorem listed3 : ("strings.asciiSpace", Lib.tabData .u8 Rows_3) ∈ Rows.parseBracketsRow.laid := by
  have h : Rows.parseBracketsRow.laid[2]? = some ("strings.asciiSpace", Rows.laid_strings_asciiSpace) := by kernel_rfl
  rw [tab3] at h
  exact List.mem_of_getElem? h
theorem knows {W : World} (h : laidMetH Tryz.prog Rows.parseBracketsRow.laid W) : ∀ x ∈ lk, Knows W x := by
  rw [MakeChecks.laidMetH_plain _ _ _ plainLaid] at h
  intro x hx
  unfold lk at hx
  simp only [List.mem_cons, List.not_mem_nil, or_false] at hx
  subst hx
  exact knows_of_laid h (name := "strings.asciiSpace") listed3 glob3 globType3 Tryz.underlying319 Tryz.underlying5 cellsE3 cellsA3
set_option maxRecDepth 100000 in
theorem contract (H : Type) (enc : TypeId × Value → H) (W : World) (base : Nat) (args : Array Value) (ds gs : List (DataW H)) (before : List MemPlace)
    (hval : ∀ (j : Nat) t v, Tryz.f6.params[j]? = some t → args[j]? = some v → Value.okWide Tryz.prog W .any base t v)
    (hW : DataW.Whole enc Tryz.prog Tryz.f6.params.toList Rows.parseBracketsSpec.vars false W args.toList ds gs before) (hS : W.ShapedOpen Tryz.prog) (hL : laidMetH Tryz.prog Rows.parseBracketsRow.laid W) :
    Calls Tryz.prog 6 args W fun e W' => ∃ v, e = .returned v ∧ Rows.parseBracketsSpec.post enc Tryz.prog Tryz.f6 false true false false W args v W' := by
  have hW' := hW
  obtain ⟨p, q, hA0, hV, rfl, hfz, hnd⟩ := hW
  have hA : DataW.TrodAll enc Tryz.prog W 0 (fun _ => true) true Tryz.f6.params.toList args.toList ds p := hA0
  rw [Tryz.params6] at hA hval
  obtain ⟨v0, vs0, d0, ds0, p0, q0, hargs, rfl, rfl, h0, r0⟩ := trodAll_cons hA
  obtain ⟨v1, vs1, d1, ds1, p1, q1, rfl, rfl, rfl, h1, r1⟩ := trodAll_cons r0
  obtain ⟨rfl, rfl, rfl⟩ := trodAll_nil r1
  obtain rfl : args = #[v0, v1] := by cases args; simp_all
  obtain ⟨rfl, rfl⟩ := trodVars_none hV
  obtain ⟨a0, l0, c0, rfl⟩ := okWide_slice Tryz.underlying22 (hval 0 22 v0 rfl rfl)
  obtain ⟨fu0, hf0⟩ := h0
  obtain ⟨z, rfl, rfl, rfl, w1⟩ := open_int Tryz.underlying3 (hval 1 3 v1 rfl rfl) h1
  clear hA0
  simp only [List.append_nil] at hW'
  have hlt0 : ∀ x ∈ p0, x.block < W.heap.size := fun x hx => DataW.trod_lt _ _ _ _ hf0 x hx
  refine (walk6 (room hS) (knows hL) hf0).mono fun e W' ⟨he, hg⟩ => ?_
  subst he
  exact ⟨_, rfl, _, _, _, [], _, [], hW', trodAll_cons_mk (shut_bool Tryz.underlying4 _) trodAll_mk0,
    trodAll_cons_mk (Below.trod laidOut (by kernel_rfl) (of_decide_eq_true (by kernel_rfl)) ⟨fu0, hf0⟩ hg hlt0) (trodAll_cons_mk (shut_int Tryz.underlying3 w1) trodAll_mk0), rfl, hg.frame _, fun h => by cases h⟩
/-- A world for the witness: the listed variables laid. -/
theorem laid_met (os : Os) : laidMet Tryz.prog Rows.parseBracketsRow.laid ((World.laidAll Tryz.prog os Rows.parseBracketsRow.laid).forCall (fun _ _ => 0) ⟨#[], #[.slice none 0 0, .int .i64 0], []⟩).memory :=
  laidMet_laidAll _ (by kernel_rfl) (by kernel_rfl)
theorem reads (os : Os) {H : Type} (enc : TypeId × Value → H) : ∃ places, DataW.whole enc Tryz.prog ((World.laidAll Tryz.prog os Rows.parseBracketsRow.laid).forCall (fun _ _ => 0) ⟨#[], #[.slice none 0 0, .int .i64 0], []⟩).memory Tryz.f6.params.toList Rows.parseBracketsSpec.vars false (#[.slice none 0 0, .int .i64 0] : Array Value).toList 8 = some ([.nil, .lit (.int .i64 0)], [], places) :=
  ⟨[], by kernel_rfl⟩
set_option maxRecDepth 100000 in
theorem lifted (os : Os) (started : os.Started) (H : Type) (enc : TypeId × Value → H) (F : Stop.Interp) :
    ReturnsInHanded {} Tryz.checked os 6 .any ((OpenSpec.ofChange Rows.parseBracketsSpec).preRow enc Tryz.prog Tryz.f6 Rows.parseBracketsRow.domain false Rows.parseBracketsRow.laid) (((OpenSpec.ofChange Rows.parseBracketsSpec).at F).post enc Tryz.prog Tryz.f6 false true false false) := by
  obtain ⟨places, hx⟩ := reads os enc
  refine returnsInHanded_of_row (C := Tryz.checked) (s := OpenSpec.ofChange Rows.parseBracketsSpec) own started (by kernel_rfl) Tryz.func6
    (Vai.witness_row_shaped (enc := enc) (C := Tryz.checked) false (World.laidAll Tryz.prog os Rows.parseBracketsRow.laid) #[.slice none 0 0, .int .i64 0] (World.laidAll_os _ _ _) (World.shaped_of_ZipB (by kernel_rfl) (by kernel_rfl)) (by kernel_rfl)
      (OpenSpec.preRow_of_cond 8 hx (by kernel_rfl) (fun k hk => by cases hk) (by kernel_rfl) (by
        show laidMetH _ _ _
        rw [MakeChecks.laidMetH_plain _ _ _ plainLaid]; exact laid_met os))) ?_
  intro W base args ds gs before hval hW _ _ _ hL hS _
  exact contract H enc W base args ds gs before hval hW hS hL
theorem said : Rows.ParseBracketsSaid :=
  OpenClaim.holds_of_cond 6 Tryz.f6 rfl rfl rfl rfl rfl rfl rfl ⟨rfl, rfl, rfl, rfl, rfl⟩ rfl rfl rfl rfl rfl (by kernel_rfl) Tryz.func6 facts
    (of_decide_eq_true (by kernel_rfl)) (by unfold Func.isWrapper; first | (rw [if_pos (by decide +kernel)]; kernel_rfl) | (rw [if_neg (by decide +kernel)]; exact ⟨rfl, rfl⟩))
    (fun os started H enc _ F => by rw [OpenClaim.pre_eq_preRow]; exact lifted os started H enc F)
/-- No parameter wants a stand-in; the program's own looks are off. -/
theorem plain (f : FuncId) (fn : Func) (hf : Tryz.pinned.checked.prog.funcNamed "chancel/chancellaw5.ParseBrackets" = some f) (hfn : Tryz.pinned.checked.prog.funcs[f]? = some fn) :
    true = Tryz.pinned.checked.prog.looks [] ∧ ∀ (j : Nat) t, fn.params[j]? = some t → Tryz.pinned.checked.prog.wantsStandIn t = false := by
  obtain rfl : f = 6 := Option.some.inj ((show Tryz.prog.funcNamed "chancel/chancellaw5.ParseBrackets" = some 6 by kernel_rfl).symm.trans hf) |>.symm
  obtain rfl : fn = Tryz.f6 := (Option.some.inj (Tryz.func6.symm.trans hfn)).symm
  refine ⟨by kernel_rfl, fun j t ht => ?_⟩
  rw [Tryz.params6] at ht
  have hm := Array.mem_of_getElem? ht
  simp only [List.mem_toArray, List.mem_cons, List.not_mem_nil, or_false] at hm
  rcases hm with rfl | rfl
  · exact (show Tryz.prog.wantsStandIn 22 = false by kernel_rfl)
  · exact (show Tryz.prog.wantsStandIn 3 = false by kernel_rfl)
/-- The card. -/
theorem card : Rows.ParseBracketsCardSaid :=
  Claim7.holds_tied_plain_at .later [] _ _ _ _ said (fun _ h => by cases h) (by kernel_rfl) (fun _ h => by cases h) parseBrackets_row_tie rfl ⟨rfl, rfl⟩ (by kernel_rfl) rfl plain (by kernel_rfl)
end Go.Proofs.YtgnfndhmfgghdaaGreatDoor.parseBrackets
