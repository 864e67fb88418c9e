/- chancel/chancellaw6.ShowChains: for every input the call returns true, and each argument reads behind it as it read before. Conditions: none beyond the given row's: the listed package-level variables start as the program's text lays them (the card ties them). -/
import Derived.Test.YtijkdfalbpmjbaaDoorCards
import Derived.Test.YtijkdfalbpmjbaaDoorTie
import Derived.Test.YtijkdfalbpmjbaaDoorShowChainsE0
import Derived.Test.YtijkdfalbpmjbaaDoorShowChainsE1
import Derived.WalkKit
import Derived.ProofKit
import Derived.OpenShut
import Derived.Deep.DeepHandedRow
import Derived.Lay
namespace Go.Proofs.YtijkdfalbpmjbaaDoor.showChains
open Go Go.Vai
open Go.ChangeShapes Go.WideShapes Go.ChangeAt Go.RowKit

theorem own : ownKnob Tryd.prog.godebug = none := by kernel_rfl
theorem plainLaid : (Rows.showChainsRow.laid.all fun x => x.2.handleName?.isNone) = true := by kernel_rfl
theorem lastGlobal : Tryd.prog.globalNamed "math/bits.deBruijn64tab" = some 3 := by kernel_rfl
theorem room {W : World} (h : laidMetH Tryd.prog Rows.showChainsRow.laid W) : Tryd.prog.globals.size ≤ W.heap.size := by
  rw [MakeChecks.laidMetH_plain _ _ _ plainLaid] at h
  have := size_of_laid h (n := "math/bits.deBruijn64tab") (d := Rows.laid_math_bits_deBruijn64tab) (by unfold Rows.showChainsRow; simp) lastGlobal
  rw [gsz]; omega
theorem knows {W : World} : ∀ x ∈ lk, x.1 < Tryd.prog.globals.size ∧ Knows W x := fun x hx => by cases hx
theorem a00 (r : Nat) (h : r < 4) : G00 r = true := by
  by_cases h0 : r < 2
  · have := allN_get e00_0 (r - 0) (by omega); rw [Nat.sub_add_cancel (by omega)] at this; exact this
  have := allN_get e00_2 (r - 2) (by omega); rw [Nat.sub_add_cancel (by omega)] at this; exact this
theorem a01 (r : Nat) (h : r < 4) : G01 r = true := by
  have := allN_get e01_0 (r - 0) (by omega); rw [Nat.sub_add_cancel (by omega)] at this; exact this
theorem a10 (r : Nat) (h : r < 4) : G10 r = true := by
  have := allN_get e10_0 (r - 0) (by omega); rw [Nat.sub_add_cancel (by omega)] at this; exact this
theorem a11 (r : Nat) (h : r < 4) : G11 r = true := by
  have := allN_get e11_0 (r - 0) (by omega); rw [Nat.sub_add_cancel (by omega)] at this; exact this
theorem yes_of (run : List AV → Bool) (g00 : ∀ r0, r0 < 4 → allN (fun r1 => and2 (run [.mp 4 r0 0, .mp 4 r1 0, .b true]) (run [.mp 4 r0 0, .mp 4 r1 0, .b false])) 4 = true) (g01 : ∀ r0, r0 < 4 → allN (fun r1 => and2 (run [.mp 4 r0 0, .mp 4 r1 1, .b true]) (run [.mp 4 r0 0, .mp 4 r1 1, .b false])) 4 = true) (g10 : ∀ r0, r0 < 4 → allN (fun r1 => and2 (run [.mp 4 r0 1, .mp 4 r1 0, .b true]) (run [.mp 4 r0 1, .mp 4 r1 0, .b false])) 4 = true) (g11 : ∀ r0, r0 < 4 → allN (fun r1 => and2 (run [.mp 4 r0 1, .mp 4 r1 1, .b true]) (run [.mp 4 r0 1, .mp 4 r1 1, .b false])) 4 = true) (a0 : Int) (a1 : Int) (a2 : Bool) : run [.mp 4 (clsR 4 a0) (clsS a0), .mp 4 (clsR 4 a1) (clsS a1), .b a2] = true := by
  have hr0 := clsR_lt (n := 4) (by omega) a0
  have hs0 := clsS_lt a0
  generalize clsR 4 a0 = r0 at *
  generalize clsS a0 = s0 at *
  have hr1 := clsR_lt (n := 4) (by omega) a1
  have hs1 := clsS_lt a1
  generalize clsR 4 a1 = r1 at *
  generalize clsS a1 = s1 at *
  by_cases q00 : s0 = 0 ∧ s1 = 0
  · obtain ⟨rfl, rfl⟩ := q00
    have h := g00 r0 hr0
    have h := allN_get h r1 hr1
    cases a2
    · exact (and2_r h)
    · exact (and2_l h)
  by_cases q01 : s0 = 0 ∧ s1 = 1
  · obtain ⟨rfl, rfl⟩ := q01
    have h := g01 r0 hr0
    have h := allN_get h r1 hr1
    cases a2
    · exact (and2_r h)
    · exact (and2_l h)
  by_cases q10 : s0 = 1 ∧ s1 = 0
  · obtain ⟨rfl, rfl⟩ := q10
    have h := g10 r0 hr0
    have h := allN_get h r1 hr1
    cases a2
    · exact (and2_r h)
    · exact (and2_l h)
  by_cases q11 : s0 = 1 ∧ s1 = 1
  · obtain ⟨rfl, rfl⟩ := q11
    have h := g11 r0 hr0
    have h := allN_get h r1 hr1
    cases a2
    · exact (and2_r h)
    · exact (and2_l h)
  omega
theorem yes (a0 : Int) (a1 : Int) (a2 : Bool) : run [.mp 4 (clsR 4 a0) (clsS a0), .mp 4 (clsR 4 a1) (clsS a1), .b a2] = true := yes_of run a00 a01 a10 a11 a0 a1 a2
/-- THE WALK. -/
theorem walk (a0 : Int) (a1 : Int) (a2 : Bool) (W : World) (hL : laidMetH Tryd.prog Rows.showChainsRow.laid W) : Calls Tryd.prog 4 #[.int .i64 a0, .int .i64 a1, .bool a2] W fun e w' => e = .returned (.bool true) ∧ Below W.heap.size W w' :=
  law_of tbl_ok (fuel := 100000) (kn := 5) (args := [.mp 4 (clsR 4 a0) (clsS a0), .mp 4 (clsR 4 a1) (clsS a1), .b a2]) Tryd.func4 (room hL) knows (fun _ => ⟨_, _, rfl, vr_cls _ _ _, ⟨_, _, rfl, vr_cls _ _ _, ⟨_, _, rfl, rfl, rfl⟩⟩⟩) (fun w hn hl => known_ok w hn hl) (by rw [H0_eq]; exact isY_some (yes a0 a1 a2))
theorem contract (H : Type) (enc : TypeId × Value → H) (W : World) (base : Nat) (args : Array Value) (ds gs : List (DataW H)) (before : List MemPlace)
    (hval : ∀ (j : Nat) t v, Tryd.f4.params[j]? = some t → args[j]? = some v → Value.okWide Tryd.prog W .any base t v)
    (hW : DataW.Whole enc Tryd.prog Tryd.f4.params.toList Rows.showChainsSpec.vars false W args.toList ds gs before) (hL : laidMetH Tryd.prog Rows.showChainsRow.laid W) :
    Calls Tryd.prog 4 args W fun e W' => ∃ v, e = .returned v ∧ Rows.showChainsSpec.post enc Tryd.prog Tryd.f4 false true false false W args v W' := by
  have hW' := hW
  obtain ⟨p, q, hA0, hV, rfl, hfz, hnd⟩ := hW
  have hA : DataW.TrodAll enc Tryd.prog W 0 (fun _ => true) true Tryd.f4.params.toList args.toList ds p := hA0
  rw [Tryd.params4] at hA hval
  obtain ⟨v0, vs0, d0, ds0, p0, q0, hargs, rfl, rfl, h0, r0⟩ := trodAll_cons hA
  obtain ⟨v1, vs1, d1, ds1, p1, q1, rfl, rfl, rfl, h1, r1⟩ := trodAll_cons r0
  obtain ⟨v2, vs2, d2, ds2, p2, q2, rfl, rfl, rfl, h2, r2⟩ := trodAll_cons r1
  obtain ⟨rfl, rfl, rfl⟩ := trodAll_nil r2
  obtain rfl : args = #[v0, v1, v2] := by cases args; simp_all
  obtain ⟨rfl, rfl⟩ := trodVars_none hV
  obtain ⟨a0, rfl, rfl, rfl, w0⟩ := open_int Tryd.underlying3 (hval 0 3 v0 rfl rfl) h0
  obtain ⟨a1, rfl, rfl, rfl, w1⟩ := open_int Tryd.underlying3 (hval 1 3 v1 rfl rfl) h1
  obtain ⟨a2, rfl, rfl, rfl⟩ := open_bool Tryd.underlying4 (hval 2 4 v2 rfl rfl) h2
  clear hA0
  simp only [List.append_nil] at hW'
  refine (walk a0 a1 a2 W hL).mono fun e W' ⟨he, hg⟩ => ?_
  subst he
  exact ⟨_, rfl, _, _, _, [], _, [], hW', trodAll_cons_mk (shut_bool Tryd.underlying4 _) trodAll_mk0, (trodAll_cons_mk (shut_int Tryd.underlying3 w0) (trodAll_cons_mk (shut_int Tryd.underlying3 w1) (trodAll_cons_mk (shut_bool Tryd.underlying4 _) trodAll_mk0))), rfl, hg.frame _, fun h => by cases h⟩

/-- A world for the witness: the listed variables laid. -/
theorem laid_met (os : Os) : laidMet Tryd.prog Rows.showChainsRow.laid ((World.laidAll Tryd.prog os Rows.showChainsRow.laid).forCall (fun _ _ => 0) ⟨#[], #[.int .i64 0, .int .i64 0, .bool false], []⟩).memory :=
  laidMet_laidAll _ (by kernel_rfl) (by kernel_rfl)
theorem reads (os : Os) {H : Type} (enc : TypeId × Value → H) : ∃ places, DataW.whole enc Tryd.prog ((World.laidAll Tryd.prog os Rows.showChainsRow.laid).forCall (fun _ _ => 0) ⟨#[], #[.int .i64 0, .int .i64 0, .bool false], []⟩).memory Tryd.f4.params.toList Rows.showChainsSpec.vars false (#[.int .i64 0, .int .i64 0, .bool false] : Array Value).toList 8 = some ([.lit (.int .i64 0), .lit (.int .i64 0), .lit (.bool false)], [], places) :=
  ⟨[], by kernel_rfl⟩

set_option maxRecDepth 100000 in
theorem lifted (os : Os) (started : os.Started) (H : Type) (enc : TypeId × Value → H) (F : Stop.Interp) :
    ReturnsInHanded {} Tryd.checked os 4 .any ((OpenSpec.ofChange Rows.showChainsSpec).preRow enc Tryd.prog Tryd.f4 Rows.showChainsRow.domain false Rows.showChainsRow.laid) (((OpenSpec.ofChange Rows.showChainsSpec).at F).post enc Tryd.prog Tryd.f4 false true false false) := by
  obtain ⟨places, hx⟩ := reads os enc
  refine returnsInHanded_of_row (C := Tryd.checked) (s := OpenSpec.ofChange Rows.showChainsSpec) own started (by kernel_rfl) Tryd.func4
    (witness_row_at (enc := enc) (C := Tryd.checked) false (World.laidAll Tryd.prog os Rows.showChainsRow.laid) #[.int .i64 0, .int .i64 0, .bool false] (World.laidAll_os _ _ _) (by kernel_rfl) (by kernel_rfl) (by kernel_rfl)
      (OpenSpec.preRow_of_cond 8 hx (by kernel_rfl) (fun k hk => by cases hk) (by kernel_rfl) (by
        show laidMetH _ _ _
        rw [MakeChecks.laidMetH_plain _ _ _ plainLaid]; exact laid_met os))) ?_
  intro W base args ds gs before hval hW _ _ _ hL _ _
  exact contract H enc W base args ds gs before hval hW hL

theorem said : Rows.ShowChainsSaid :=
  OpenClaim.holds_of_cond 4 Tryd.f4 rfl rfl rfl rfl rfl rfl rfl ⟨rfl, rfl, rfl, rfl, rfl⟩ rfl rfl rfl rfl rfl (by kernel_rfl) Tryd.func4 (by kernel_rfl)
    (of_decide_eq_true (by kernel_rfl)) (by unfold Func.isWrapper; first | (rw [if_pos (by decide +kernel)]; kernel_rfl) | (rw [if_neg (by decide +kernel)]; exact ⟨rfl, rfl⟩))
    (fun os started H enc _ F => by rw [OpenClaim.pre_eq_preRow]; exact lifted os started H enc F)

/-- No parameter wants a stand-in; the program's own looks are off. -/
theorem plain (f : FuncId) (fn : Func) (hf : Tryd.pinned.checked.prog.funcNamed "chancel/chancellaw6.ShowChains" = some f) (hfn : Tryd.pinned.checked.prog.funcs[f]? = some fn) :
    false = Tryd.pinned.checked.prog.looks [] ∧ ∀ (j : Nat) t, fn.params[j]? = some t → Tryd.pinned.checked.prog.wantsStandIn t = false := by
  obtain rfl : f = 4 := Option.some.inj ((show Tryd.prog.funcNamed "chancel/chancellaw6.ShowChains" = some 4 by kernel_rfl).symm.trans hf) |>.symm
  obtain rfl : fn = Tryd.f4 := (Option.some.inj (Tryd.func4.symm.trans hfn)).symm
  refine ⟨by kernel_rfl, fun j t ht => ?_⟩
  rw [Tryd.params4] at ht
  have hm := Array.mem_of_getElem? ht
  simp only [List.mem_toArray, List.mem_cons, List.not_mem_nil, or_false] at hm
  rcases hm with rfl | rfl | rfl
  · exact (show Tryd.prog.wantsStandIn 3 = false by kernel_rfl)
  · exact (show Tryd.prog.wantsStandIn 3 = false by kernel_rfl)
  · exact (show Tryd.prog.wantsStandIn 4 = false by kernel_rfl)

/-- ████ THE CARD ████ -/
theorem card : Rows.ShowChainsCardSaid :=
  Claim7.holds_tied_plain_at .later [] _ _ _ _ said (fun _ h => by cases h) (by kernel_rfl) (fun _ h => by cases h) showChains_row_tie rfl ⟨rfl, rfl⟩ (by kernel_rfl) rfl plain (by kernel_rfl)
end Go.Proofs.YtijkdfalbpmjbaaDoor.showChains
