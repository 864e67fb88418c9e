/- chancel/chancellaw5.ParseBinds: for every input the call returns true, and each argument reads behind it as it read before. Conditions: none beyond the given row's: the listed package-level variables start as the program's text lays them (the card ties them). -/
import Derived.Test.YtpoojngeloajhaaGreatDoorCards
import Derived.Test.YtpoojngeloajhaaGreatDoorTie
import Derived.Test.YtpoojngeloajhaaGreatDoorParseBindsE0
import Derived.Test.YtpoojngeloajhaaGreatDoorParseBindsE1
import Derived.Test.YtpoojngeloajhaaGreatDoorParseBindsE2
import Derived.Test.YtpoojngeloajhaaGreatDoorParseBindsE3
import Derived.Test.YtpoojngeloajhaaGreatDoorV35
import Derived.WalkKit
import Derived.ProofKit
import Derived.OpenShut
import Derived.Deep.DeepHandedRow
import Derived.Lay
namespace Go.Proofs.YtpoojngeloajhaaGreatDoor.parseBinds
open Go Go.Vai
open Go.ChangeShapes Go.WideShapes Go.ChangeAt Go.RowKit

theorem own : ownKnob Tryz.prog.godebug = none := by kernel_rfl
theorem plainLaid : (Rows.parseBindsRow.laid.all fun x => x.2.handleName?.isNone) = true := by kernel_rfl
theorem lastRow : (((begin Tryz.prog (fun _ _ => 0) default).world.heap[5]?).bind Obj.row?).isSome = true := by kernel_rfl
theorem room {W : World} (h : W.ShapedOpen Tryz.prog) : Tryz.prog.globals.size ≤ W.heap.size := by
  obtain ⟨x, hx⟩ := Option.isSome_iff_exists.mp lastRow
  obtain ⟨cs, h1, _⟩ := h.1 5 x.1 x.2 (by rw [gsz]; omega) hx
  have := (Array.getElem?_eq_some_iff.mp h1).1
  rw [gsz]; omega
theorem glob3 : Tryz.prog.globalNamed "strings.asciiSpace" = some 3 := by kernel_rfl
theorem globType3 : (Tryz.prog.globals[3]?).map (·.type) = some 92 := by kernel_rfl
theorem cellsA3 : Tryz.prog.cellsOf 92 = 256 := by kernel_rfl
theorem cellsE3 : Tryz.prog.cellsOf 5 = 1 := by kernel_rfl
theorem tab3 : (Rows.laid_strings_asciiSpace : DataW Unit) = Lib.tabData .u8 Rows_3 := by kernel_rfl
theorem listed3 : ("strings.asciiSpace", Lib.tabData .u8 Rows_3) ∈ Rows.parseBindsRow.laid := by
  have h : Rows.parseBindsRow.laid[2]? = some ("strings.asciiSpace", Rows.laid_strings_asciiSpace) := by kernel_rfl
  rw [tab3] at h
  exact List.mem_of_getElem? h
theorem knows {W : World} (h : laidMetH Tryz.prog Rows.parseBindsRow.laid W) : ∀ x ∈ lk, x.1 < Tryz.prog.globals.size ∧ Knows W x := by
  rw [MakeChecks.laidMetH_plain _ _ _ plainLaid] at h
  intro x hx
  refine ⟨lk_lt x hx, ?_⟩
  unfold lk at hx
  simp only [List.mem_cons, List.not_mem_nil, or_false] at hx
  rcases hx with rfl
  · exact knows_of_laid h (name := "strings.asciiSpace") listed3 glob3 globType3 Tryz.underlying92 Tryz.underlying5 cellsE3 cellsA3
theorem aa00 (r : Nat) (h : r < 5) : G00 r = true := by
  by_cases h0 : r < 1
  · have := allN_get e00_0 (r - 0) (by omega); rw [Nat.sub_add_cancel (by omega)] at this; exact this
  by_cases h1 : r < 2
  · have := allN_get e00_1 (r - 1) (by omega); rw [Nat.sub_add_cancel (by omega)] at this; exact this
  by_cases h2 : r < 3
  · have := allN_get e00_2 (r - 2) (by omega); rw [Nat.sub_add_cancel (by omega)] at this; exact this
  by_cases h3 : r < 4
  · have := allN_get e00_3 (r - 3) (by omega); rw [Nat.sub_add_cancel (by omega)] at this; exact this
  have := allN_get e00_4 (r - 4) (by omega); rw [Nat.sub_add_cancel (by omega)] at this; exact this
theorem aa01 (r : Nat) (h : r < 5) : G01 r = true := by
  by_cases h0 : r < 1
  · have := allN_get e01_0 (r - 0) (by omega); rw [Nat.sub_add_cancel (by omega)] at this; exact this
  by_cases h1 : r < 2
  · have := allN_get e01_1 (r - 1) (by omega); rw [Nat.sub_add_cancel (by omega)] at this; exact this
  by_cases h2 : r < 3
  · have := allN_get e01_2 (r - 2) (by omega); rw [Nat.sub_add_cancel (by omega)] at this; exact this
  by_cases h3 : r < 4
  · have := allN_get e01_3 (r - 3) (by omega); rw [Nat.sub_add_cancel (by omega)] at this; exact this
  have := allN_get e01_4 (r - 4) (by omega); rw [Nat.sub_add_cancel (by omega)] at this; exact this
theorem aa10 (r : Nat) (h : r < 5) : G10 r = true := by
  by_cases h0 : r < 1
  · have := allN_get e10_0 (r - 0) (by omega); rw [Nat.sub_add_cancel (by omega)] at this; exact this
  by_cases h1 : r < 2
  · have := allN_get e10_1 (r - 1) (by omega); rw [Nat.sub_add_cancel (by omega)] at this; exact this
  by_cases h2 : r < 3
  · have := allN_get e10_2 (r - 2) (by omega); rw [Nat.sub_add_cancel (by omega)] at this; exact this
  by_cases h3 : r < 4
  · have := allN_get e10_3 (r - 3) (by omega); rw [Nat.sub_add_cancel (by omega)] at this; exact this
  have := allN_get e10_4 (r - 4) (by omega); rw [Nat.sub_add_cancel (by omega)] at this; exact this
theorem aa11 (r : Nat) (h : r < 5) : G11 r = true := by
  by_cases h0 : r < 1
  · have := allN_get e11_0 (r - 0) (by omega); rw [Nat.sub_add_cancel (by omega)] at this; exact this
  by_cases h1 : r < 2
  · have := allN_get e11_1 (r - 1) (by omega); rw [Nat.sub_add_cancel (by omega)] at this; exact this
  by_cases h2 : r < 3
  · have := allN_get e11_2 (r - 2) (by omega); rw [Nat.sub_add_cancel (by omega)] at this; exact this
  by_cases h3 : r < 4
  · have := allN_get e11_3 (r - 3) (by omega); rw [Nat.sub_add_cancel (by omega)] at this; exact this
  have := allN_get e11_4 (r - 4) (by omega); rw [Nat.sub_add_cancel (by omega)] at this; exact this
theorem yes_of (run : List AV → Bool) (g00 : ∀ r0, r0 < 5 → allN (fun r1 => run [.mp 5 r0 0, .mp 5 r1 0]) 5 = true) (g01 : ∀ r0, r0 < 5 → allN (fun r1 => run [.mp 5 r0 0, .mp 5 r1 1]) 5 = true) (g10 : ∀ r0, r0 < 5 → allN (fun r1 => run [.mp 5 r0 1, .mp 5 r1 0]) 5 = true) (g11 : ∀ r0, r0 < 5 → allN (fun r1 => run [.mp 5 r0 1, .mp 5 r1 1]) 5 = true) (a0 : Int) (a1 : Int) : run [.mp 5 (clsR 5 a0) (clsS a0), .mp 5 (clsR 5 a1) (clsS a1)] = true := by
  have hr0 := clsR_lt (n := 5) (by omega) a0
  have hs0 := clsS_lt a0
  generalize clsR 5 a0 = r0 at *
  generalize clsS a0 = s0 at *
  have hr1 := clsR_lt (n := 5) (by omega) a1
  have hs1 := clsS_lt a1
  generalize clsR 5 a1 = r1 at *
  generalize clsS a1 = s1 at *
  by_cases q00 : s0 = 0 ∧ s1 = 0
  · obtain ⟨rfl, rfl⟩ := q00
    have h := g00 r0 hr0
    have h := allN_get h r1 hr1
    exact h
  by_cases q01 : s0 = 0 ∧ s1 = 1
  · obtain ⟨rfl, rfl⟩ := q01
    have h := g01 r0 hr0
    have h := allN_get h r1 hr1
    exact h
  by_cases q10 : s0 = 1 ∧ s1 = 0
  · obtain ⟨rfl, rfl⟩ := q10
    have h := g10 r0 hr0
    have h := allN_get h r1 hr1
    exact h
  by_cases q11 : s0 = 1 ∧ s1 = 1
  · obtain ⟨rfl, rfl⟩ := q11
    have h := g11 r0 hr0
    have h := allN_get h r1 hr1
    exact h
  omega
theorem yes (a0 : Int) (a1 : Int) : run [.mp 5 (clsR 5 a0) (clsS a0), .mp 5 (clsR 5 a1) (clsS a1)] = true := yes_of run aa00 aa01 aa10 aa11 a0 a1
/-- THE WALK. -/
theorem walk (a0 : Int) (a1 : Int) (W : World) (hS : W.ShapedOpen Tryz.prog) (hL : laidMetH Tryz.prog Rows.parseBindsRow.laid W) : Calls Tryz.prog 4 #[.int .i64 a0, .int .i64 a1] W fun e w' => e = .returned (.bool true) ∧ Below W.heap.size W w' :=
  law_of tbl_ok (fuel := 100000) (kn := 7) (args := [.mp 5 (clsR 5 a0) (clsS a0), .mp 5 (clsR 5 a1) (clsS a1)]) Tryz.func4 (room hS) (knows hL) (fun _ => ⟨_, _, rfl, vr_cls _ _ _, ⟨_, _, rfl, vr_cls _ _ _, rfl⟩⟩) (fun w hn hl => known_ok w hn hl) (by rw [H0_eq]; exact isY_some (yes a0 a1))
set_option maxRecDepth 100000 in
theorem contract (H : Type) (enc : TypeId × Value → H) (W : World) (base : Nat) (args : Array Value) (ds gs : List (DataW H)) (before : List MemPlace)
    (hval : ∀ (j : Nat) t v, Tryz.f4.params[j]? = some t → args[j]? = some v → Value.okWide Tryz.prog W .any base t v)
    (hW : DataW.Whole enc Tryz.prog Tryz.f4.params.toList Rows.parseBindsSpec.vars false W args.toList ds gs before) (hS : W.ShapedOpen Tryz.prog) (hL : laidMetH Tryz.prog Rows.parseBindsRow.laid W) :
    Calls Tryz.prog 4 args W fun e W' => ∃ v, e = .returned v ∧ Rows.parseBindsSpec.post enc Tryz.prog Tryz.f4 false true false false W args v W' := by
  have hW' := hW
  obtain ⟨p, q, hA0, hV, rfl, hfz, hnd⟩ := hW
  have hA : DataW.TrodAll enc Tryz.prog W 0 (fun _ => true) true Tryz.f4.params.toList args.toList ds p := hA0
  rw [Tryz.params4] at hA hval
  obtain ⟨v0, vs0, d0, ds0, p0, q0, hargs, rfl, rfl, h0, r0⟩ := trodAll_cons hA
  obtain ⟨v1, vs1, d1, ds1, p1, q1, rfl, rfl, rfl, h1, r1⟩ := trodAll_cons r0
  obtain ⟨rfl, rfl, rfl⟩ := trodAll_nil r1
  obtain rfl : args = #[v0, v1] := by cases args; simp_all
  obtain ⟨rfl, rfl⟩ := trodVars_none hV
  obtain ⟨a0, rfl, rfl, rfl, w0⟩ := open_int Tryz.underlying3 (hval 0 3 v0 rfl rfl) h0
  obtain ⟨a1, rfl, rfl, rfl, w1⟩ := open_int Tryz.underlying3 (hval 1 3 v1 rfl rfl) h1
  clear hA0
  simp only [List.append_nil] at hW'
  refine (walk a0 a1 W hS hL).mono fun e W' ⟨he, hg⟩ => ?_
  subst he
  exact ⟨_, rfl, _, _, _, [], _, [], hW', trodAll_cons_mk (shut_bool Tryz.underlying4 _) trodAll_mk0, (trodAll_cons_mk (shut_int Tryz.underlying3 w0) (trodAll_cons_mk (shut_int Tryz.underlying3 w1) trodAll_mk0)), rfl, hg.frame _, fun h => by cases h⟩

/-- A world for the witness: the listed variables laid. -/
theorem laid_met (os : Os) : laidMet Tryz.prog Rows.parseBindsRow.laid ((World.laidAll Tryz.prog os Rows.parseBindsRow.laid).forCall (fun _ _ => 0) ⟨#[], #[.int .i64 0, .int .i64 0], []⟩).memory :=
  laidMet_laidAll _ (by kernel_rfl) (by kernel_rfl)
theorem reads (os : Os) {H : Type} (enc : TypeId × Value → H) : ∃ places, DataW.whole enc Tryz.prog ((World.laidAll Tryz.prog os Rows.parseBindsRow.laid).forCall (fun _ _ => 0) ⟨#[], #[.int .i64 0, .int .i64 0], []⟩).memory Tryz.f4.params.toList Rows.parseBindsSpec.vars false (#[.int .i64 0, .int .i64 0] : Array Value).toList 8 = some ([.lit (.int .i64 0), .lit (.int .i64 0)], [], places) :=
  ⟨[], by kernel_rfl⟩

set_option maxRecDepth 100000 in
theorem lifted (os : Os) (started : os.Started) (H : Type) (enc : TypeId × Value → H) (F : Stop.Interp) :
    ReturnsInHanded {} Tryz.checked os 4 .any ((OpenSpec.ofChange Rows.parseBindsSpec).preRow enc Tryz.prog Tryz.f4 Rows.parseBindsRow.domain false Rows.parseBindsRow.laid) (((OpenSpec.ofChange Rows.parseBindsSpec).at F).post enc Tryz.prog Tryz.f4 false true false false) := by
  obtain ⟨places, hx⟩ := reads os enc
  refine returnsInHanded_of_row (C := Tryz.checked) (s := OpenSpec.ofChange Rows.parseBindsSpec) own started (by kernel_rfl) Tryz.func4
    (Vai.witness_row_shaped (enc := enc) (C := Tryz.checked) false (World.laidAll Tryz.prog os Rows.parseBindsRow.laid) #[.int .i64 0, .int .i64 0] (World.laidAll_os _ _ _) (World.shaped_of_ZipB (by kernel_rfl) (by kernel_rfl)) (by kernel_rfl)
      (OpenSpec.preRow_of_cond 8 hx (by kernel_rfl) (fun k hk => by cases hk) (by kernel_rfl) (by
        show laidMetH _ _ _
        rw [MakeChecks.laidMetH_plain _ _ _ plainLaid]; exact laid_met os))) ?_
  intro W base args ds gs before hval hW _ _ _ hL hS _
  exact contract H enc W base args ds gs before hval hW hS hL

theorem said : Rows.ParseBindsSaid :=
  OpenClaim.holds_of_cond 4 Tryz.f4 rfl rfl rfl rfl rfl rfl rfl ⟨rfl, rfl, rfl, rfl, rfl⟩ rfl rfl rfl rfl rfl (by kernel_rfl) Tryz.func4 (by kernel_rfl)
    (of_decide_eq_true (by kernel_rfl)) (by unfold Func.isWrapper; first | (rw [if_pos (by decide +kernel)]; kernel_rfl) | (rw [if_neg (by decide +kernel)]; exact ⟨rfl, rfl⟩))
    (fun os started H enc _ F => by rw [OpenClaim.pre_eq_preRow]; exact lifted os started H enc F)

/-- No parameter wants a stand-in; the program's own looks are off. -/
theorem plain (f : FuncId) (fn : Func) (hf : Tryz.pinned.checked.prog.funcNamed "chancel/chancellaw5.ParseBinds" = some f) (hfn : Tryz.pinned.checked.prog.funcs[f]? = some fn) :
    true = Tryz.pinned.checked.prog.looks [] ∧ ∀ (j : Nat) t, fn.params[j]? = some t → Tryz.pinned.checked.prog.wantsStandIn t = false := by
  obtain rfl : f = 4 := Option.some.inj ((show Tryz.prog.funcNamed "chancel/chancellaw5.ParseBinds" = some 4 by kernel_rfl).symm.trans hf) |>.symm
  obtain rfl : fn = Tryz.f4 := (Option.some.inj (Tryz.func4.symm.trans hfn)).symm
  refine ⟨by kernel_rfl, fun j t ht => ?_⟩
  rw [Tryz.params4] at ht
  have hm := Array.mem_of_getElem? ht
  simp only [List.mem_toArray, List.mem_cons, List.not_mem_nil, or_false] at hm
  rcases hm with rfl | rfl
  · exact (show Tryz.prog.wantsStandIn 3 = false by kernel_rfl)
  · exact (show Tryz.prog.wantsStandIn 3 = false by kernel_rfl)

/-- ████ THE CARD ████ -/
theorem card : Rows.ParseBindsCardSaid :=
  Claim7.holds_tied_plain_at .later [] _ _ _ _ said (fun _ h => by cases h) (by kernel_rfl) (fun _ h => by cases h) parseBinds_row_tie rfl ⟨rfl, rfl⟩ (by kernel_rfl) rfl plain (by kernel_rfl)
end Go.Proofs.YtpoojngeloajhaaGreatDoor.parseBinds
