/- chancel/chancellaw6.ShowOthers: for every input the call returns true, and what is raw reads behind it as it read before. Conditions: none beyond the given row's: the listed package-level variables start as the program's text lays them (the card ties them). -/
import Derived.Test.YtmmmjhkgjmbfaaaDoorK12
import Derived.Test.YtmmmjhkgjmbfaaaDoorCards
import Derived.Test.YtmmmjhkgjmbfaaaDoorTie
import Derived.WalkKit
import Derived.ProofKit
import Derived.OpenShut
import Derived.Deep.DeepHandedRow
import Derived.Lay
import Derived.Carry
set_option linter.unusedVariables false
set_option linter.unusedSimpArgs false
set_option linter.unusedSectionVars false
set_option linter.constructorNameAsVariable false
set_option linter.unnecessarySimpa false
namespace Go.Proofs.YtmmmjhkgjmbfaaaDoor.showOthers
open Go Go.Vai
open Go.ChangeShapes Go.WideShapes Go.ChangeAt Go.RowKit
theorem own : ownKnob Tryd.prog.godebug = none := by kernel_rfl
theorem plainLaid : (Rows.showOthersRow.laid.all fun x => x.2.handleName?.isNone) = true := by kernel_rfl
theorem laidOut : laidOutB Tryd.prog = true := by kernel_rfl
theorem lastRow : (((begin Tryd.prog (fun _ _ => 0) default).world.heap[3]?).bind Obj.row?).isSome = true := by kernel_rfl
theorem room {W : World} (h : W.ShapedOpen Tryd.prog) : Tryd.prog.globals.size ≤ W.heap.size := by
  obtain ⟨x, hx⟩ := Option.isSome_iff_exists.mp lastRow
  obtain ⟨cs, h1, _⟩ := h.1 3 x.1 x.2 (by rw [gsz]; omega) hx
  have := (Array.getElem?_eq_some_iff.mp h1).1
  rw [gsz]; omega
theorem glob1 : Tryd.prog.globalNamed "internal/strconv.uint64pow10" = some 1 := by kernel_rfl
theorem globType1 : (Tryd.prog.globals[1]?).map (·.type) = some 145 := by kernel_rfl
theorem cellsA1 : Tryd.prog.cellsOf 145 = 20 := by kernel_rfl
theorem cellsE1 : Tryd.prog.cellsOf 98 = 1 := by kernel_rfl
theorem tab1 : (Rows.laid_internal_strconv_uint64pow10 : DataW Unit) = Lib.tabData .u64 Rows_1 := by kernel_rfl
theorem listed1 : ("internal/strconv.uint64pow10", Lib.tabData .u64 Rows_1) ∈ Rows.showOthersRow.laid := by
  have h : Rows.showOthersRow.laid[2]? = some ("internal/strconv.uint64pow10", Rows.laid_internal_strconv_uint64pow10) := by kernel_rfl
  rw [tab1] at h
  exact List.mem_of_getElem? h
theorem glob3 : Tryd.prog.globalNamed "math/bits.deBruijn64tab" = some 3 := by kernel_rfl
theorem globType3 : (Tryd.prog.globals[3]?).map (·.type) = some 151 := by kernel_rfl
theorem cellsA3 : Tryd.prog.cellsOf 151 = 64 := by kernel_rfl
theorem cellsE3 : Tryd.prog.cellsOf 5 = 1 := by kernel_rfl
theorem tab3 : (Rows.laid_math_bits_deBruijn64tab : DataW Unit) = Lib.tabData .u8 Rows_3 := by kernel_rfl
theorem listed3 : ("math/bits.deBruijn64tab", Lib.tabData .u8 Rows_3) ∈ Rows.showOthersRow.laid := by
  have h : Rows.showOthersRow.laid[1]? = some ("math/bits.deBruijn64tab", Rows.laid_math_bits_deBruijn64tab) := by kernel_rfl
  rw [tab3] at h
  exact List.mem_of_getElem? h
theorem knows {W : World} (h : laidMetH Tryd.prog Rows.showOthersRow.laid W) : ∀ x ∈ lk, Knows W x := by
  rw [MakeChecks.laidMetH_plain _ _ _ plainLaid] at h
  intro x hx
  unfold lk at hx
  simp only [List.mem_cons, List.not_mem_nil, or_false] at hx
  rcases hx with rfl | rfl
  · exact knows_of_laid h (name := "internal/strconv.uint64pow10") listed1 glob1 globType1 Tryd.underlying145 Tryd.underlying98 cellsE1 cellsA1
  · exact knows_of_laid h (name := "math/bits.deBruijn64tab") listed3 glob3 globType3 Tryd.underlying151 Tryd.underlying5 cellsE3 cellsA3
set_option maxRecDepth 100000 in
theorem contract (H : Type) (enc : TypeId × Value → H) (W : World) (base : Nat) (args : Array Value) (ds gs : List (DataW H)) (before : List MemPlace)
    (hval : ∀ (j : Nat) t v, Tryd.f5.params[j]? = some t → args[j]? = some v → Value.okWide Tryd.prog W .any base t v)
    (hW : DataW.Whole enc Tryd.prog Tryd.f5.params.toList Rows.showOthersSpec.vars false W args.toList ds gs before) (hS : W.ShapedOpen Tryd.prog) (hL : laidMetH Tryd.prog Rows.showOthersRow.laid W) :
    Calls Tryd.prog 5 args W fun e W' => ∃ v, e = .returned v ∧ Rows.showOthersSpec.post enc Tryd.prog Tryd.f5 false true false false W args v W' := by
  have hW' := hW
  obtain ⟨p, q, hA0, hV, rfl, hfz, hnd⟩ := hW
  have hA : DataW.TrodAll enc Tryd.prog W 0 (fun _ => true) true Tryd.f5.params.toList args.toList ds p := hA0
  rw [Tryd.params5] at hA hval
  obtain ⟨v0, vs0, d0, ds0, p0, q0, hargs, rfl, rfl, h0, r0⟩ := trodAll_cons hA
  obtain ⟨v1, vs1, d1, ds1, p1, q1, rfl, rfl, rfl, h1, r1⟩ := trodAll_cons r0
  obtain ⟨v2, vs2, d2, ds2, p2, q2, rfl, rfl, rfl, h2, r2⟩ := trodAll_cons r1
  obtain ⟨rfl, rfl, rfl⟩ := trodAll_nil r2
  obtain rfl : args = #[v0, v1, v2] := by cases args; simp_all
  obtain ⟨rfl, rfl⟩ := trodVars_none hV
  obtain ⟨a0, l0, c0, rfl⟩ := okWide_slice Tryd.underlying36 (hval 0 36 v0 rfl rfl)
  obtain ⟨a1, l1, c1, rfl⟩ := okWide_slice Tryd.underlying37 (hval 1 37 v1 rfl rfl)
  obtain ⟨cs, rfl, _⟩ := okWide_struct Tryd.underlying40 (hval 2 40 v2 rfl rfl)
  obtain ⟨fu0, hf0⟩ := h0
  obtain ⟨fu1, hf1⟩ := h1
  obtain ⟨fu2, hf2⟩ := h2
  clear hA0
  simp only [List.append_nil] at hW'
  have hlt0 : ∀ x ∈ p0, x.block < W.heap.size := fun x hx => DataW.trod_lt _ _ _ _ hf0 x hx
  have hlt1 : ∀ x ∈ p1, x.block < W.heap.size := fun x hx => DataW.trod_lt _ _ _ _ hf1 x hx
  have hlt2 : ∀ x ∈ p2, x.block < W.heap.size := fun x hx => DataW.trod_lt _ _ _ _ hf2 x hx
  refine (walk5 (room hS) (knows hL) hf0 hf1 hf2).mono fun e W' ⟨he, hg⟩ => ?_
  subst he
  exact ⟨_, rfl, _, _, _, [], _, [], hW', trodAll_cons_mk (shut_bool Tryd.underlying4 _) trodAll_mk0,
    trodAll_cons_mk (Below.trod laidOut (by kernel_rfl) (of_decide_eq_true (by kernel_rfl)) ⟨fu0, hf0⟩ hg hlt0) (trodAll_cons_mk (Below.trod laidOut (by kernel_rfl) (of_decide_eq_true (by kernel_rfl)) ⟨fu1, hf1⟩ hg hlt1) (trodAll_cons_mk (Below.trod laidOut (by kernel_rfl) (of_decide_eq_true (by kernel_rfl)) ⟨fu2, hf2⟩ hg hlt2) trodAll_mk0)), rfl, hg.frame _, fun h => by cases h⟩
/-- A world for the witness: the listed variables laid. -/
theorem laid_met (os : Os) : laidMet Tryd.prog Rows.showOthersRow.laid ((World.laidAll Tryd.prog os Rows.showOthersRow.laid).forCall (fun _ _ => 0) ⟨#[], #[.slice none 0 0, .slice none 0 0, .agg #[.int .i64 0, .int .i64 0, .slice none 0 0, .slice none 0 0, .slice none 0 0]], []⟩).memory :=
  laidMet_laidAll _ (by kernel_rfl) (by kernel_rfl)
theorem reads (os : Os) {H : Type} (enc : TypeId × Value → H) : ∃ places, DataW.whole enc Tryd.prog ((World.laidAll Tryd.prog os Rows.showOthersRow.laid).forCall (fun _ _ => 0) ⟨#[], #[.slice none 0 0, .slice none 0 0, .agg #[.int .i64 0, .int .i64 0, .slice none 0 0, .slice none 0 0, .slice none 0 0]], []⟩).memory Tryd.f5.params.toList Rows.showOthersSpec.vars false (#[.slice none 0 0, .slice none 0 0, .agg #[.int .i64 0, .int .i64 0, .slice none 0 0, .slice none 0 0, .slice none 0 0]] : Array Value).toList 8 = some ([.nil, .nil, .agg [.lit (.int .i64 0), .lit (.int .i64 0), .nil, .nil, .nil]], [], places) :=
  ⟨[], by kernel_rfl⟩
set_option maxRecDepth 100000 in
theorem lifted (os : Os) (started : os.Started) (H : Type) (enc : TypeId × Value → H) (F : Stop.Interp) :
    ReturnsInHanded {} Tryd.checked os 5 .any ((OpenSpec.ofChange Rows.showOthersSpec).preRow enc Tryd.prog Tryd.f5 Rows.showOthersRow.domain false Rows.showOthersRow.laid) (((OpenSpec.ofChange Rows.showOthersSpec).at F).post enc Tryd.prog Tryd.f5 false true false false) := by
  obtain ⟨places, hx⟩ := reads os enc
  refine returnsInHanded_of_row (C := Tryd.checked) (s := OpenSpec.ofChange Rows.showOthersSpec) own started (by kernel_rfl) Tryd.func5
    (Vai.witness_row_shaped (enc := enc) (C := Tryd.checked) false (World.laidAll Tryd.prog os Rows.showOthersRow.laid) #[.slice none 0 0, .slice none 0 0, .agg #[.int .i64 0, .int .i64 0, .slice none 0 0, .slice none 0 0, .slice none 0 0]] (World.laidAll_os _ _ _) (World.shaped_of_ZipB (by kernel_rfl) (by kernel_rfl)) (by kernel_rfl)
      (OpenSpec.preRow_of_cond 8 hx (by kernel_rfl) (fun k hk => by cases hk) (by kernel_rfl) (by
        show laidMetH _ _ _
        rw [MakeChecks.laidMetH_plain _ _ _ plainLaid]; exact laid_met os))) ?_
  intro W base args ds gs before hval hW _ _ _ hL hS _
  exact contract H enc W base args ds gs before hval hW hS hL
theorem said : Rows.ShowOthersSaid :=
  OpenClaim.holds_of_cond 5 Tryd.f5 rfl rfl rfl rfl rfl rfl rfl ⟨rfl, rfl, rfl, rfl, rfl⟩ rfl rfl rfl rfl rfl (by kernel_rfl) Tryd.func5 (by kernel_rfl)
    (of_decide_eq_true (by kernel_rfl)) (by unfold Func.isWrapper; first | (rw [if_pos (by decide +kernel)]; kernel_rfl) | (rw [if_neg (by decide +kernel)]; exact ⟨rfl, rfl⟩))
    (fun os started H enc _ F => by rw [OpenClaim.pre_eq_preRow]; exact lifted os started H enc F)
/-- No parameter wants a stand-in; the program's own looks are off. -/
theorem plain (f : FuncId) (fn : Func) (hf : Tryd.pinned.checked.prog.funcNamed "chancel/chancellaw6.ShowOthers" = some f) (hfn : Tryd.pinned.checked.prog.funcs[f]? = some fn) :
    false = Tryd.pinned.checked.prog.looks [] ∧ ∀ (j : Nat) t, fn.params[j]? = some t → Tryd.pinned.checked.prog.wantsStandIn t = false := by
  obtain rfl : f = 5 := Option.some.inj ((show Tryd.prog.funcNamed "chancel/chancellaw6.ShowOthers" = some 5 by kernel_rfl).symm.trans hf) |>.symm
  obtain rfl : fn = Tryd.f5 := (Option.some.inj (Tryd.func5.symm.trans hfn)).symm
  refine ⟨by kernel_rfl, fun j t ht => ?_⟩
  rw [Tryd.params5] at ht
  have hm := Array.mem_of_getElem? ht
  simp only [List.mem_toArray, List.mem_cons, List.not_mem_nil, or_false] at hm
  rcases hm with rfl | rfl | rfl
  · exact (show Tryd.prog.wantsStandIn 36 = false by kernel_rfl)
  · exact (show Tryd.prog.wantsStandIn 37 = false by kernel_rfl)
  · exact (show Tryd.prog.wantsStandIn 40 = false by kernel_rfl)
/-- The card. -/
theorem card : Rows.ShowOthersCardSaid :=
  Claim7.holds_tied_plain_at .later [] _ _ _ _ said (fun _ h => by cases h) (by kernel_rfl) (fun _ h => by cases h) showOthers_row_tie rfl ⟨rfl, rfl⟩ (by kernel_rfl) rfl plain (by kernel_rfl)
end Go.Proofs.YtmmmjhkgjmbfaaaDoor.showOthers
