/- chancel/chancellaw5.ParseCompares: for every input the call returns true, and each argument reads behind it as it read before. Conditions: none beyond the given row's: the listed package-level variables start as the program's text lays them (the card ties them). -/
import Derived.Test.YtpoojngeloajhaaGreatDoorCards
import Derived.Test.YtpoojngeloajhaaGreatDoorTie
import Derived.Test.YtpoojngeloajhaaGreatDoorParseComparesE0
import Derived.Test.YtpoojngeloajhaaGreatDoorParseComparesE1
import Derived.Test.YtpoojngeloajhaaGreatDoorParseComparesE2
import Derived.Test.YtpoojngeloajhaaGreatDoorParseComparesE3
import Derived.Test.YtpoojngeloajhaaGreatDoorParseComparesE4
import Derived.Test.YtpoojngeloajhaaGreatDoorParseComparesE5
import Derived.Test.YtpoojngeloajhaaGreatDoorParseComparesE6
import Derived.Test.YtpoojngeloajhaaGreatDoorV35
import Derived.WalkKit
import Derived.ProofKit
import Derived.OpenShut
import Derived.Deep.DeepHandedRow
import Derived.Lay
namespace Go.Proofs.YtpoojngeloajhaaGreatDoor.parseCompares
open Go Go.Vai
open Go.ChangeShapes Go.WideShapes Go.ChangeAt Go.RowKit

theorem own : ownKnob Tryz.prog.godebug = none := by kernel_rfl
theorem plainLaid : (Rows.parseComparesRow.laid.all fun x => x.2.handleName?.isNone) = true := by kernel_rfl
theorem lastRow : (((begin Tryz.prog (fun _ _ => 0) default).world.heap[5]?).bind Obj.row?).isSome = true := by kernel_rfl
theorem room {W : World} (h : W.ShapedOpen Tryz.prog) : Tryz.prog.globals.size ≤ W.heap.size := by
  obtain ⟨x, hx⟩ := Option.isSome_iff_exists.mp lastRow
  obtain ⟨cs, h1, _⟩ := h.1 5 x.1 x.2 (by rw [gsz]; omega) hx
  have := (Array.getElem?_eq_some_iff.mp h1).1
  rw [gsz]; omega
theorem glob3 : Tryz.prog.globalNamed "strings.asciiSpace" = some 3 := by kernel_rfl
theorem globType3 : (Tryz.prog.globals[3]?).map (·.type) = some 92 := by kernel_rfl
theorem cellsA3 : Tryz.prog.cellsOf 92 = 256 := by kernel_rfl
theorem cellsE3 : Tryz.prog.cellsOf 5 = 1 := by kernel_rfl
theorem tab3 : (Rows.laid_strings_asciiSpace : DataW Unit) = Lib.tabData .u8 Rows_3 := by kernel_rfl
theorem listed3 : ("strings.asciiSpace", Lib.tabData .u8 Rows_3) ∈ Rows.parseComparesRow.laid := by
  have h : Rows.parseComparesRow.laid[2]? = some ("strings.asciiSpace", Rows.laid_strings_asciiSpace) := by kernel_rfl
  rw [tab3] at h
  exact List.mem_of_getElem? h
theorem knows {W : World} (h : laidMetH Tryz.prog Rows.parseComparesRow.laid W) : ∀ x ∈ lk, x.1 < Tryz.prog.globals.size ∧ Knows W x := by
  rw [MakeChecks.laidMetH_plain _ _ _ plainLaid] at h
  intro x hx
  refine ⟨lk_lt x hx, ?_⟩
  unfold lk at hx
  simp only [List.mem_cons, List.not_mem_nil, or_false] at hx
  rcases hx with rfl
  · exact knows_of_laid h (name := "strings.asciiSpace") listed3 glob3 globType3 Tryz.underlying92 Tryz.underlying5 cellsE3 cellsA3
theorem allN_mk {f : Nat → Bool} : ∀ {n : Nat}, (∀ m, m < n → f m = true) → allN f n = true
  | 0, _ => rfl
  | n + 1, h => by
    show (Bool.casesOn (f n) false (allN f n) : Bool) = true
    rw [h n (by omega)]; exact allN_mk fun m hm => h m (by omega)
theorem bee_0 : Gee 0 = true := allN_mk (f := fun j => Lee 0 j) fun j hj => by
  by_cases h0 : j < 2
  · have := allN_get eee_0_0 (j - 0) (by omega); rw [Nat.sub_add_cancel (by omega)] at this; exact this
  by_cases h2 : j < 4
  · have := allN_get eee_0_2 (j - 2) (by omega); rw [Nat.sub_add_cancel (by omega)] at this; exact this
  by_cases h4 : j < 6
  · have := allN_get eee_0_4 (j - 4) (by omega); rw [Nat.sub_add_cancel (by omega)] at this; exact this
  have := allN_get eee_0_6 (j - 6) (by omega); rw [Nat.sub_add_cancel (by omega)] at this; exact this
theorem bee_1 : Gee 1 = true := allN_mk (f := fun j => Lee 1 j) fun j hj => by
  by_cases h0 : j < 2
  · have := allN_get eee_1_0 (j - 0) (by omega); rw [Nat.sub_add_cancel (by omega)] at this; exact this
  by_cases h2 : j < 4
  · have := allN_get eee_1_2 (j - 2) (by omega); rw [Nat.sub_add_cancel (by omega)] at this; exact this
  by_cases h4 : j < 6
  · have := allN_get eee_1_4 (j - 4) (by omega); rw [Nat.sub_add_cancel (by omega)] at this; exact this
  have := allN_get eee_1_6 (j - 6) (by omega); rw [Nat.sub_add_cancel (by omega)] at this; exact this
theorem bee_2 : Gee 2 = true := allN_mk (f := fun j => Lee 2 j) fun j hj => by
  by_cases h0 : j < 2
  · have := allN_get eee_2_0 (j - 0) (by omega); rw [Nat.sub_add_cancel (by omega)] at this; exact this
  by_cases h2 : j < 4
  · have := allN_get eee_2_2 (j - 2) (by omega); rw [Nat.sub_add_cancel (by omega)] at this; exact this
  by_cases h4 : j < 6
  · have := allN_get eee_2_4 (j - 4) (by omega); rw [Nat.sub_add_cancel (by omega)] at this; exact this
  have := allN_get eee_2_6 (j - 6) (by omega); rw [Nat.sub_add_cancel (by omega)] at this; exact this
theorem bee_3 : Gee 3 = true := allN_mk (f := fun j => Lee 3 j) fun j hj => by
  by_cases h0 : j < 2
  · have := allN_get eee_3_0 (j - 0) (by omega); rw [Nat.sub_add_cancel (by omega)] at this; exact this
  by_cases h2 : j < 4
  · have := allN_get eee_3_2 (j - 2) (by omega); rw [Nat.sub_add_cancel (by omega)] at this; exact this
  by_cases h4 : j < 6
  · have := allN_get eee_3_4 (j - 4) (by omega); rw [Nat.sub_add_cancel (by omega)] at this; exact this
  have := allN_get eee_3_6 (j - 6) (by omega); rw [Nat.sub_add_cancel (by omega)] at this; exact this
theorem bee_4 : Gee 4 = true := allN_mk (f := fun j => Lee 4 j) fun j hj => by
  by_cases h0 : j < 2
  · have := allN_get eee_4_0 (j - 0) (by omega); rw [Nat.sub_add_cancel (by omega)] at this; exact this
  by_cases h2 : j < 4
  · have := allN_get eee_4_2 (j - 2) (by omega); rw [Nat.sub_add_cancel (by omega)] at this; exact this
  by_cases h4 : j < 6
  · have := allN_get eee_4_4 (j - 4) (by omega); rw [Nat.sub_add_cancel (by omega)] at this; exact this
  have := allN_get eee_4_6 (j - 6) (by omega); rw [Nat.sub_add_cancel (by omega)] at this; exact this
theorem bee_5 : Gee 5 = true := allN_mk (f := fun j => Lee 5 j) fun j hj => by
  by_cases h0 : j < 2
  · have := allN_get eee_5_0 (j - 0) (by omega); rw [Nat.sub_add_cancel (by omega)] at this; exact this
  by_cases h2 : j < 4
  · have := allN_get eee_5_2 (j - 2) (by omega); rw [Nat.sub_add_cancel (by omega)] at this; exact this
  by_cases h4 : j < 6
  · have := allN_get eee_5_4 (j - 4) (by omega); rw [Nat.sub_add_cancel (by omega)] at this; exact this
  have := allN_get eee_5_6 (j - 6) (by omega); rw [Nat.sub_add_cancel (by omega)] at this; exact this
theorem bee_6 : Gee 6 = true := allN_mk (f := fun j => Lee 6 j) fun j hj => by
  by_cases h0 : j < 2
  · have := allN_get eee_6_0 (j - 0) (by omega); rw [Nat.sub_add_cancel (by omega)] at this; exact this
  by_cases h2 : j < 4
  · have := allN_get eee_6_2 (j - 2) (by omega); rw [Nat.sub_add_cancel (by omega)] at this; exact this
  by_cases h4 : j < 6
  · have := allN_get eee_6_4 (j - 4) (by omega); rw [Nat.sub_add_cancel (by omega)] at this; exact this
  have := allN_get eee_6_6 (j - 6) (by omega); rw [Nat.sub_add_cancel (by omega)] at this; exact this
theorem aaee (r : Nat) (h : r < 7) : Gee r = true := by
  have : r = 0 ∨ r = 1 ∨ r = 2 ∨ r = 3 ∨ r = 4 ∨ r = 5 ∨ r = 6 := by omega
  rcases this with rfl | rfl | rfl | rfl | rfl | rfl | rfl
  · exact bee_0
  · exact bee_1
  · exact bee_2
  · exact bee_3
  · exact bee_4
  · exact bee_5
  · exact bee_6
theorem yes_of (run : List AV → Bool) (gee : ∀ r0, r0 < 7 → allN (fun r1 => run [.mp 7 r0 EU, .mp 7 r1 EU]) 7 = true) (a0 : Int) (a1 : Int) : run [.mp 7 (clsE 7 a0) EU, .mp 7 (clsE 7 a1) EU] = true := by
  have hr0 := clsE_lt (n := 7) (by omega) a0
  generalize clsE 7 a0 = r0 at *
  have hr1 := clsE_lt (n := 7) (by omega) a1
  generalize clsE 7 a1 = r1 at *
  ·
    have h := gee r0 hr0
    have h := allN_get h r1 hr1
    exact h
theorem yes (a0 : Int) (a1 : Int) : run [.mp 7 (clsE 7 a0) EU, .mp 7 (clsE 7 a1) EU] = true := yes_of run aaee a0 a1
/-- THE WALK. -/
theorem walk (a0 : Int) (a1 : Int) (W : World) (hS : W.ShapedOpen Tryz.prog) (hL : laidMetH Tryz.prog Rows.parseComparesRow.laid W) : Calls Tryz.prog 5 #[.int .i64 a0, .int .i64 a1] W fun e w' => e = .returned (.bool true) ∧ Below W.heap.size W w' :=
  law_of tbl_ok (fuel := 100000) (kn := 7) (args := [.mp 7 (clsE 7 a0) EU, .mp 7 (clsE 7 a1) EU]) Tryz.func5 (room hS) (knows hL) (fun _ => ⟨_, _, rfl, vr_eu (by omega) _ _, ⟨_, _, rfl, vr_eu (by omega) _ _, rfl⟩⟩) (fun w hn hl => known_ok w hn hl) (by rw [H0_eq]; rw [B5_ok]; exact isY_some (yes a0 a1))
set_option maxRecDepth 100000 in
theorem contract (H : Type) (enc : TypeId × Value → H) (W : World) (base : Nat) (args : Array Value) (ds gs : List (DataW H)) (before : List MemPlace)
    (hval : ∀ (j : Nat) t v, Tryz.f5.params[j]? = some t → args[j]? = some v → Value.okWide Tryz.prog W .any base t v)
    (hW : DataW.Whole enc Tryz.prog Tryz.f5.params.toList Rows.parseComparesSpec.vars false W args.toList ds gs before) (hS : W.ShapedOpen Tryz.prog) (hL : laidMetH Tryz.prog Rows.parseComparesRow.laid W) :
    Calls Tryz.prog 5 args W fun e W' => ∃ v, e = .returned v ∧ Rows.parseComparesSpec.post enc Tryz.prog Tryz.f5 false true false false W args v W' := by
  have hW' := hW
  obtain ⟨p, q, hA0, hV, rfl, hfz, hnd⟩ := hW
  have hA : DataW.TrodAll enc Tryz.prog W 0 (fun _ => true) true Tryz.f5.params.toList args.toList ds p := hA0
  rw [Tryz.params5] at hA hval
  obtain ⟨v0, vs0, d0, ds0, p0, q0, hargs, rfl, rfl, h0, r0⟩ := trodAll_cons hA
  obtain ⟨v1, vs1, d1, ds1, p1, q1, rfl, rfl, rfl, h1, r1⟩ := trodAll_cons r0
  obtain ⟨rfl, rfl, rfl⟩ := trodAll_nil r1
  obtain rfl : args = #[v0, v1] := by cases args; simp_all
  obtain ⟨rfl, rfl⟩ := trodVars_none hV
  obtain ⟨a0, rfl, rfl, rfl, w0⟩ := open_int Tryz.underlying3 (hval 0 3 v0 rfl rfl) h0
  obtain ⟨a1, rfl, rfl, rfl, w1⟩ := open_int Tryz.underlying3 (hval 1 3 v1 rfl rfl) h1
  clear hA0
  simp only [List.append_nil] at hW'
  refine (walk a0 a1 W hS hL).mono fun e W' ⟨he, hg⟩ => ?_
  subst he
  exact ⟨_, rfl, _, _, _, [], _, [], hW', trodAll_cons_mk (shut_bool Tryz.underlying4 _) trodAll_mk0, (trodAll_cons_mk (shut_int Tryz.underlying3 w0) (trodAll_cons_mk (shut_int Tryz.underlying3 w1) trodAll_mk0)), rfl, hg.frame _, fun h => by cases h⟩

/-- A world for the witness: the listed variables laid. -/
theorem laid_met (os : Os) : laidMet Tryz.prog Rows.parseComparesRow.laid ((World.laidAll Tryz.prog os Rows.parseComparesRow.laid).forCall (fun _ _ => 0) ⟨#[], #[.int .i64 0, .int .i64 0], []⟩).memory :=
  laidMet_laidAll _ (by kernel_rfl) (by kernel_rfl)
theorem reads (os : Os) {H : Type} (enc : TypeId × Value → H) : ∃ places, DataW.whole enc Tryz.prog ((World.laidAll Tryz.prog os Rows.parseComparesRow.laid).forCall (fun _ _ => 0) ⟨#[], #[.int .i64 0, .int .i64 0], []⟩).memory Tryz.f5.params.toList Rows.parseComparesSpec.vars false (#[.int .i64 0, .int .i64 0] : Array Value).toList 8 = some ([.lit (.int .i64 0), .lit (.int .i64 0)], [], places) :=
  ⟨[], by kernel_rfl⟩

set_option maxRecDepth 100000 in
theorem lifted (os : Os) (started : os.Started) (H : Type) (enc : TypeId × Value → H) (F : Stop.Interp) :
    ReturnsInHanded {} Tryz.checked os 5 .any ((OpenSpec.ofChange Rows.parseComparesSpec).preRow enc Tryz.prog Tryz.f5 Rows.parseComparesRow.domain false Rows.parseComparesRow.laid) (((OpenSpec.ofChange Rows.parseComparesSpec).at F).post enc Tryz.prog Tryz.f5 false true false false) := by
  obtain ⟨places, hx⟩ := reads os enc
  refine returnsInHanded_of_row (C := Tryz.checked) (s := OpenSpec.ofChange Rows.parseComparesSpec) own started (by kernel_rfl) Tryz.func5
    (Vai.witness_row_shaped (enc := enc) (C := Tryz.checked) false (World.laidAll Tryz.prog os Rows.parseComparesRow.laid) #[.int .i64 0, .int .i64 0] (World.laidAll_os _ _ _) (World.shaped_of_ZipB (by kernel_rfl) (by kernel_rfl)) (by kernel_rfl)
      (OpenSpec.preRow_of_cond 8 hx (by kernel_rfl) (fun k hk => by cases hk) (by kernel_rfl) (by
        show laidMetH _ _ _
        rw [MakeChecks.laidMetH_plain _ _ _ plainLaid]; exact laid_met os))) ?_
  intro W base args ds gs before hval hW _ _ _ hL hS _
  exact contract H enc W base args ds gs before hval hW hS hL

theorem said : Rows.ParseComparesSaid :=
  OpenClaim.holds_of_cond 5 Tryz.f5 rfl rfl rfl rfl rfl rfl rfl ⟨rfl, rfl, rfl, rfl, rfl⟩ rfl rfl rfl rfl rfl (by kernel_rfl) Tryz.func5 (by kernel_rfl)
    (of_decide_eq_true (by kernel_rfl)) (by unfold Func.isWrapper; first | (rw [if_pos (by decide +kernel)]; kernel_rfl) | (rw [if_neg (by decide +kernel)]; exact ⟨rfl, rfl⟩))
    (fun os started H enc _ F => by rw [OpenClaim.pre_eq_preRow]; exact lifted os started H enc F)

/-- No parameter wants a stand-in; the program's own looks are off. -/
theorem plain (f : FuncId) (fn : Func) (hf : Tryz.pinned.checked.prog.funcNamed "chancel/chancellaw5.ParseCompares" = some f) (hfn : Tryz.pinned.checked.prog.funcs[f]? = some fn) :
    true = Tryz.pinned.checked.prog.looks [] ∧ ∀ (j : Nat) t, fn.params[j]? = some t → Tryz.pinned.checked.prog.wantsStandIn t = false := by
  obtain rfl : f = 5 := Option.some.inj ((show Tryz.prog.funcNamed "chancel/chancellaw5.ParseCompares" = some 5 by kernel_rfl).symm.trans hf) |>.symm
  obtain rfl : fn = Tryz.f5 := (Option.some.inj (Tryz.func5.symm.trans hfn)).symm
  refine ⟨by kernel_rfl, fun j t ht => ?_⟩
  rw [Tryz.params5] at ht
  have hm := Array.mem_of_getElem? ht
  simp only [List.mem_toArray, List.mem_cons, List.not_mem_nil, or_false] at hm
  rcases hm with rfl | rfl
  · exact (show Tryz.prog.wantsStandIn 3 = false by kernel_rfl)
  · exact (show Tryz.prog.wantsStandIn 3 = false by kernel_rfl)

/-- ████ THE CARD ████ -/
theorem card : Rows.ParseComparesCardSaid :=
  Claim7.holds_tied_plain_at .later [] _ _ _ _ said (fun _ h => by cases h) (by kernel_rfl) (fun _ h => by cases h) parseCompares_row_tie rfl ⟨rfl, rfl⟩ (by kernel_rfl) rfl plain (by kernel_rfl)
end Go.Proofs.YtpoojngeloajhaaGreatDoor.parseCompares
