/- A verified interpreter of the model's code, and what the functions that show trees tell by it: part 8 (S02, S03, S04, S05, S06, S07, S08, S09, S10). No condition but those that each statement bears. -/
import Derived.Test.YtmmmjhkgjmbfaaaDoorK07
set_option linter.unusedVariables false
set_option linter.unusedSimpArgs false
set_option linter.unusedSectionVars false
set_option linter.constructorNameAsVariable false
set_option linter.unnecessarySimpa false
/- What the small functions tell: within, level, sign. No condition but the bounds. -/
namespace Go.Proofs.YtmmmjhkgjmbfaaaDoor
open Go Go.Vai
set_option maxRecDepth 100000
set_option linter.unusedSimpArgs false
theorem wi {R : Type} {f : Nat} (L : Tr.get dfl tbl (toPa f) = .mk B18 [(.tmp (toPa 4))]) {a n : Int} (hn : 0 < n) (hb : n ≤ 9223372036854775807) {M : Nat} (hM : 20 ≤ M) (H : Heap) (k : HK R) :
    callK tbl (runK tbl M) R (toPa f) [.i .i64 a, .i .i64 n] H k = k (.i .i64 (a % n)) H := by
  obtain ⟨m, rfl⟩ : ∃ m, M = m + 20 := ⟨M - 20, by omega⟩
  rw [call_eq L]
  unfold B18
  have hz : n ≠ 0 := by omega
  have hb1 := tmod_lt (a := a) hn
  have he := tmod_emod (a := a) hn
  by_cases h : a.tmod n < 0
  · rw [if_pos h] at he
    have hw : IntKind.i64.wrap (a.tmod n + n) = a.tmod n + n := wrap_i64 (by omega) (by omega)
    simp only [EX, reduceIte, Nat.reduceEqDiff, Nat.reduceAdd, Int.reduceEq, Int.reduceLT, Int.reduceLE, reduceCtorEq, Nat.reduceLeDiff, Nat.reduceSub, Nat.reduceLT, i_rem hz, i_add, h]
    rw [hw, he]
  · rw [if_neg h] at he
    simp only [EX, reduceIte, Nat.reduceEqDiff, Nat.reduceAdd, Int.reduceEq, Int.reduceLT, Int.reduceLE, reduceCtorEq, Nat.reduceLeDiff, Nat.reduceSub, Nat.reduceLT, i_rem hz, i_add, h]
    rw [he]
theorem s18 {R : Type} {a n : Int} (hn : 0 < n) (hb : n ≤ 9223372036854775807) {M : Nat} (hM : 20 ≤ M) (H : Heap) (k : HK R) :
    callK tbl (runK tbl M) R (toPa 18) [.i .i64 a, .i .i64 n] H k = k (.i .i64 (a % n)) H := wi L18 hn hb hM H k
theorem s53 {R : Type} {a n : Int} (hn : 0 < n) (hb : n ≤ 9223372036854775807) {M : Nat} (hM : 20 ≤ M) (H : Heap) (k : HK R) :
    callK tbl (runK tbl M) R (toPa 53) [.i .i64 a, .i .i64 n] H k = k (.i .i64 (a % n)) H := wi L53 hn hb hM H k
theorem s62 {R : Type} {a n : Int} (hn : 0 < n) (hb : n ≤ 9223372036854775807) {M : Nat} (hM : 20 ≤ M) (H : Heap) (k : HK R) :
    callK tbl (runK tbl M) R (toPa 62) [.i .i64 a, .i .i64 n] H k = k (.i .i64 (a % n)) H := wi L62 hn hb hM H k
def lev : Nat → Nat
  | 7 => 7
  | 8 => 3
  | 9 => 7
  | 10 => 3
  | 11 => 6
  | 12 => 6
  | 13 => 5
  | 14 => 4
  | 15 => 4
  | 16 => 3
  | 17 => 3
  | 18 => 3
  | 19 => 3
  | 20 => 3
  | 21 => 3
  | 22 => 3
  | 23 => 2
  | 24 => 1
  | 25 => 0
  | _ => 8
def sgn : Nat → List UInt8
  | 13 => [42]
  | 14 => [43]
  | 15 => [45]
  | 16 => [60]
  | 17 => [60, 61]
  | 18 => [62]
  | 19 => [62, 61]
  | 20 => [61, 61]
  | 21 => [33, 61]
  | 22 => [105, 110]
  | 23 => [38, 38]
  | _ => [124, 124]
theorem q48_1 {R : Type} (m : Nat) (H : Heap) (k : HK R) : runK tbl (m + 60) R B48 (frame0 [.i .i64 1] 0 .leaf) H (leaveK [(.tmp (toPa 2))] k) = k (.i .i64 8) H := by kernel_rfl
theorem q48_2 {R : Type} (m : Nat) (H : Heap) (k : HK R) : runK tbl (m + 60) R B48 (frame0 [.i .i64 2] 0 .leaf) H (leaveK [(.tmp (toPa 2))] k) = k (.i .i64 8) H := by kernel_rfl
theorem q48_3 {R : Type} (m : Nat) (H : Heap) (k : HK R) : runK tbl (m + 60) R B48 (frame0 [.i .i64 3] 0 .leaf) H (leaveK [(.tmp (toPa 2))] k) = k (.i .i64 8) H := by kernel_rfl
theorem q48_4 {R : Type} (m : Nat) (H : Heap) (k : HK R) : runK tbl (m + 60) R B48 (frame0 [.i .i64 4] 0 .leaf) H (leaveK [(.tmp (toPa 2))] k) = k (.i .i64 8) H := by kernel_rfl
theorem q48_5 {R : Type} (m : Nat) (H : Heap) (k : HK R) : runK tbl (m + 60) R B48 (frame0 [.i .i64 5] 0 .leaf) H (leaveK [(.tmp (toPa 2))] k) = k (.i .i64 8) H := by kernel_rfl
theorem q48_6 {R : Type} (m : Nat) (H : Heap) (k : HK R) : runK tbl (m + 60) R B48 (frame0 [.i .i64 6] 0 .leaf) H (leaveK [(.tmp (toPa 2))] k) = k (.i .i64 8) H := by kernel_rfl
theorem q48_7 {R : Type} (m : Nat) (H : Heap) (k : HK R) : runK tbl (m + 60) R B48 (frame0 [.i .i64 7] 0 .leaf) H (leaveK [(.tmp (toPa 2))] k) = k (.i .i64 7) H := by kernel_rfl
theorem q48_8 {R : Type} (m : Nat) (H : Heap) (k : HK R) : runK tbl (m + 60) R B48 (frame0 [.i .i64 8] 0 .leaf) H (leaveK [(.tmp (toPa 2))] k) = k (.i .i64 3) H := by kernel_rfl
theorem q48_9 {R : Type} (m : Nat) (H : Heap) (k : HK R) : runK tbl (m + 60) R B48 (frame0 [.i .i64 9] 0 .leaf) H (leaveK [(.tmp (toPa 2))] k) = k (.i .i64 7) H := by kernel_rfl
theorem q48_10 {R : Type} (m : Nat) (H : Heap) (k : HK R) : runK tbl (m + 60) R B48 (frame0 [.i .i64 10] 0 .leaf) H (leaveK [(.tmp (toPa 2))] k) = k (.i .i64 3) H := by kernel_rfl
theorem q48_11 {R : Type} (m : Nat) (H : Heap) (k : HK R) : runK tbl (m + 60) R B48 (frame0 [.i .i64 11] 0 .leaf) H (leaveK [(.tmp (toPa 2))] k) = k (.i .i64 6) H := by kernel_rfl
theorem q48_12 {R : Type} (m : Nat) (H : Heap) (k : HK R) : runK tbl (m + 60) R B48 (frame0 [.i .i64 12] 0 .leaf) H (leaveK [(.tmp (toPa 2))] k) = k (.i .i64 6) H := by kernel_rfl
theorem q48_13 {R : Type} (m : Nat) (H : Heap) (k : HK R) : runK tbl (m + 60) R B48 (frame0 [.i .i64 13] 0 .leaf) H (leaveK [(.tmp (toPa 2))] k) = k (.i .i64 5) H := by kernel_rfl
theorem q48_14 {R : Type} (m : Nat) (H : Heap) (k : HK R) : runK tbl (m + 60) R B48 (frame0 [.i .i64 14] 0 .leaf) H (leaveK [(.tmp (toPa 2))] k) = k (.i .i64 4) H := by kernel_rfl
theorem q48_15 {R : Type} (m : Nat) (H : Heap) (k : HK R) : runK tbl (m + 60) R B48 (frame0 [.i .i64 15] 0 .leaf) H (leaveK [(.tmp (toPa 2))] k) = k (.i .i64 4) H := by kernel_rfl
theorem q48_16 {R : Type} (m : Nat) (H : Heap) (k : HK R) : runK tbl (m + 60) R B48 (frame0 [.i .i64 16] 0 .leaf) H (leaveK [(.tmp (toPa 2))] k) = k (.i .i64 3) H := by kernel_rfl
theorem q48_17 {R : Type} (m : Nat) (H : Heap) (k : HK R) : runK tbl (m + 60) R B48 (frame0 [.i .i64 17] 0 .leaf) H (leaveK [(.tmp (toPa 2))] k) = k (.i .i64 3) H := by kernel_rfl
theorem q48_18 {R : Type} (m : Nat) (H : Heap) (k : HK R) : runK tbl (m + 60) R B48 (frame0 [.i .i64 18] 0 .leaf) H (leaveK [(.tmp (toPa 2))] k) = k (.i .i64 3) H := by kernel_rfl
theorem q48_19 {R : Type} (m : Nat) (H : Heap) (k : HK R) : runK tbl (m + 60) R B48 (frame0 [.i .i64 19] 0 .leaf) H (leaveK [(.tmp (toPa 2))] k) = k (.i .i64 3) H := by kernel_rfl
theorem q48_20 {R : Type} (m : Nat) (H : Heap) (k : HK R) : runK tbl (m + 60) R B48 (frame0 [.i .i64 20] 0 .leaf) H (leaveK [(.tmp (toPa 2))] k) = k (.i .i64 3) H := by kernel_rfl
theorem q48_21 {R : Type} (m : Nat) (H : Heap) (k : HK R) : runK tbl (m + 60) R B48 (frame0 [.i .i64 21] 0 .leaf) H (leaveK [(.tmp (toPa 2))] k) = k (.i .i64 3) H := by kernel_rfl
theorem q48_22 {R : Type} (m : Nat) (H : Heap) (k : HK R) : runK tbl (m + 60) R B48 (frame0 [.i .i64 22] 0 .leaf) H (leaveK [(.tmp (toPa 2))] k) = k (.i .i64 3) H := by kernel_rfl
theorem q48_23 {R : Type} (m : Nat) (H : Heap) (k : HK R) : runK tbl (m + 60) R B48 (frame0 [.i .i64 23] 0 .leaf) H (leaveK [(.tmp (toPa 2))] k) = k (.i .i64 2) H := by kernel_rfl
theorem q48_24 {R : Type} (m : Nat) (H : Heap) (k : HK R) : runK tbl (m + 60) R B48 (frame0 [.i .i64 24] 0 .leaf) H (leaveK [(.tmp (toPa 2))] k) = k (.i .i64 1) H := by kernel_rfl
theorem q48_25 {R : Type} (m : Nat) (H : Heap) (k : HK R) : runK tbl (m + 60) R B48 (frame0 [.i .i64 25] 0 .leaf) H (leaveK [(.tmp (toPa 2))] k) = k (.i .i64 0) H := by kernel_rfl
theorem s48 {R : Type} {op : Nat} (h0 : 0 < op) (h1 : op ≤ 25) {M : Nat} (hM : 60 ≤ M) (H : Heap) (k : HK R) :
    callK tbl (runK tbl M) R (toPa 48) [.i .i64 op] H k = k (.i .i64 (lev op)) H := by
  obtain ⟨m, rfl⟩ : ∃ m, M = m + 60 := ⟨M - 60, by omega⟩
  rw [call_eq L48]
  match op, h0, h1 with
  | 1, _, _ => exact q48_1 m H k
  | 2, _, _ => exact q48_2 m H k
  | 3, _, _ => exact q48_3 m H k
  | 4, _, _ => exact q48_4 m H k
  | 5, _, _ => exact q48_5 m H k
  | 6, _, _ => exact q48_6 m H k
  | 7, _, _ => exact q48_7 m H k
  | 8, _, _ => exact q48_8 m H k
  | 9, _, _ => exact q48_9 m H k
  | 10, _, _ => exact q48_10 m H k
  | 11, _, _ => exact q48_11 m H k
  | 12, _, _ => exact q48_12 m H k
  | 13, _, _ => exact q48_13 m H k
  | 14, _, _ => exact q48_14 m H k
  | 15, _, _ => exact q48_15 m H k
  | 16, _, _ => exact q48_16 m H k
  | 17, _, _ => exact q48_17 m H k
  | 18, _, _ => exact q48_18 m H k
  | 19, _, _ => exact q48_19 m H k
  | 20, _, _ => exact q48_20 m H k
  | 21, _, _ => exact q48_21 m H k
  | 22, _, _ => exact q48_22 m H k
  | 23, _, _ => exact q48_23 m H k
  | 24, _, _ => exact q48_24 m H k
  | 25, _, _ => exact q48_25 m H k
  | n + 26, _, h => omega
theorem q28_1 {R : Type} (m : Nat) (H : Heap) (k : HK R) : runK tbl (m + 60) R B28 (frame0 [.i .i64 1] 0 .leaf) H (leaveK [(.tmp (toPa 2))] k) = k (.i .i64 8) H := by kernel_rfl
theorem q28_2 {R : Type} (m : Nat) (H : Heap) (k : HK R) : runK tbl (m + 60) R B28 (frame0 [.i .i64 2] 0 .leaf) H (leaveK [(.tmp (toPa 2))] k) = k (.i .i64 8) H := by kernel_rfl
theorem q28_3 {R : Type} (m : Nat) (H : Heap) (k : HK R) : runK tbl (m + 60) R B28 (frame0 [.i .i64 3] 0 .leaf) H (leaveK [(.tmp (toPa 2))] k) = k (.i .i64 8) H := by kernel_rfl
theorem q28_4 {R : Type} (m : Nat) (H : Heap) (k : HK R) : runK tbl (m + 60) R B28 (frame0 [.i .i64 4] 0 .leaf) H (leaveK [(.tmp (toPa 2))] k) = k (.i .i64 8) H := by kernel_rfl
theorem q28_5 {R : Type} (m : Nat) (H : Heap) (k : HK R) : runK tbl (m + 60) R B28 (frame0 [.i .i64 5] 0 .leaf) H (leaveK [(.tmp (toPa 2))] k) = k (.i .i64 8) H := by kernel_rfl
theorem q28_6 {R : Type} (m : Nat) (H : Heap) (k : HK R) : runK tbl (m + 60) R B28 (frame0 [.i .i64 6] 0 .leaf) H (leaveK [(.tmp (toPa 2))] k) = k (.i .i64 8) H := by kernel_rfl
theorem q28_7 {R : Type} (m : Nat) (H : Heap) (k : HK R) : runK tbl (m + 60) R B28 (frame0 [.i .i64 7] 0 .leaf) H (leaveK [(.tmp (toPa 2))] k) = k (.i .i64 7) H := by kernel_rfl
theorem q28_8 {R : Type} (m : Nat) (H : Heap) (k : HK R) : runK tbl (m + 60) R B28 (frame0 [.i .i64 8] 0 .leaf) H (leaveK [(.tmp (toPa 2))] k) = k (.i .i64 3) H := by kernel_rfl
theorem q28_9 {R : Type} (m : Nat) (H : Heap) (k : HK R) : runK tbl (m + 60) R B28 (frame0 [.i .i64 9] 0 .leaf) H (leaveK [(.tmp (toPa 2))] k) = k (.i .i64 7) H := by kernel_rfl
theorem q28_10 {R : Type} (m : Nat) (H : Heap) (k : HK R) : runK tbl (m + 60) R B28 (frame0 [.i .i64 10] 0 .leaf) H (leaveK [(.tmp (toPa 2))] k) = k (.i .i64 3) H := by kernel_rfl
theorem q28_11 {R : Type} (m : Nat) (H : Heap) (k : HK R) : runK tbl (m + 60) R B28 (frame0 [.i .i64 11] 0 .leaf) H (leaveK [(.tmp (toPa 2))] k) = k (.i .i64 6) H := by kernel_rfl
theorem q28_12 {R : Type} (m : Nat) (H : Heap) (k : HK R) : runK tbl (m + 60) R B28 (frame0 [.i .i64 12] 0 .leaf) H (leaveK [(.tmp (toPa 2))] k) = k (.i .i64 6) H := by kernel_rfl
theorem q28_13 {R : Type} (m : Nat) (H : Heap) (k : HK R) : runK tbl (m + 60) R B28 (frame0 [.i .i64 13] 0 .leaf) H (leaveK [(.tmp (toPa 2))] k) = k (.i .i64 5) H := by kernel_rfl
theorem q28_14 {R : Type} (m : Nat) (H : Heap) (k : HK R) : runK tbl (m + 60) R B28 (frame0 [.i .i64 14] 0 .leaf) H (leaveK [(.tmp (toPa 2))] k) = k (.i .i64 4) H := by kernel_rfl
theorem q28_15 {R : Type} (m : Nat) (H : Heap) (k : HK R) : runK tbl (m + 60) R B28 (frame0 [.i .i64 15] 0 .leaf) H (leaveK [(.tmp (toPa 2))] k) = k (.i .i64 4) H := by kernel_rfl
theorem q28_16 {R : Type} (m : Nat) (H : Heap) (k : HK R) : runK tbl (m + 60) R B28 (frame0 [.i .i64 16] 0 .leaf) H (leaveK [(.tmp (toPa 2))] k) = k (.i .i64 3) H := by kernel_rfl
theorem q28_17 {R : Type} (m : Nat) (H : Heap) (k : HK R) : runK tbl (m + 60) R B28 (frame0 [.i .i64 17] 0 .leaf) H (leaveK [(.tmp (toPa 2))] k) = k (.i .i64 3) H := by kernel_rfl
theorem q28_18 {R : Type} (m : Nat) (H : Heap) (k : HK R) : runK tbl (m + 60) R B28 (frame0 [.i .i64 18] 0 .leaf) H (leaveK [(.tmp (toPa 2))] k) = k (.i .i64 3) H := by kernel_rfl
theorem q28_19 {R : Type} (m : Nat) (H : Heap) (k : HK R) : runK tbl (m + 60) R B28 (frame0 [.i .i64 19] 0 .leaf) H (leaveK [(.tmp (toPa 2))] k) = k (.i .i64 3) H := by kernel_rfl
theorem q28_20 {R : Type} (m : Nat) (H : Heap) (k : HK R) : runK tbl (m + 60) R B28 (frame0 [.i .i64 20] 0 .leaf) H (leaveK [(.tmp (toPa 2))] k) = k (.i .i64 3) H := by kernel_rfl
theorem q28_21 {R : Type} (m : Nat) (H : Heap) (k : HK R) : runK tbl (m + 60) R B28 (frame0 [.i .i64 21] 0 .leaf) H (leaveK [(.tmp (toPa 2))] k) = k (.i .i64 3) H := by kernel_rfl
theorem q28_22 {R : Type} (m : Nat) (H : Heap) (k : HK R) : runK tbl (m + 60) R B28 (frame0 [.i .i64 22] 0 .leaf) H (leaveK [(.tmp (toPa 2))] k) = k (.i .i64 3) H := by kernel_rfl
theorem q28_23 {R : Type} (m : Nat) (H : Heap) (k : HK R) : runK tbl (m + 60) R B28 (frame0 [.i .i64 23] 0 .leaf) H (leaveK [(.tmp (toPa 2))] k) = k (.i .i64 2) H := by kernel_rfl
theorem q28_24 {R : Type} (m : Nat) (H : Heap) (k : HK R) : runK tbl (m + 60) R B28 (frame0 [.i .i64 24] 0 .leaf) H (leaveK [(.tmp (toPa 2))] k) = k (.i .i64 1) H := by kernel_rfl
theorem q28_25 {R : Type} (m : Nat) (H : Heap) (k : HK R) : runK tbl (m + 60) R B28 (frame0 [.i .i64 25] 0 .leaf) H (leaveK [(.tmp (toPa 2))] k) = k (.i .i64 0) H := by kernel_rfl
theorem s28 {R : Type} {op : Nat} (h0 : 0 < op) (h1 : op ≤ 25) {M : Nat} (hM : 60 ≤ M) (H : Heap) (k : HK R) :
    callK tbl (runK tbl M) R (toPa 28) [.i .i64 op] H k = k (.i .i64 (lev op)) H := by
  obtain ⟨m, rfl⟩ : ∃ m, M = m + 60 := ⟨M - 60, by omega⟩
  rw [call_eq L28]
  match op, h0, h1 with
  | 1, _, _ => exact q28_1 m H k
  | 2, _, _ => exact q28_2 m H k
  | 3, _, _ => exact q28_3 m H k
  | 4, _, _ => exact q28_4 m H k
  | 5, _, _ => exact q28_5 m H k
  | 6, _, _ => exact q28_6 m H k
  | 7, _, _ => exact q28_7 m H k
  | 8, _, _ => exact q28_8 m H k
  | 9, _, _ => exact q28_9 m H k
  | 10, _, _ => exact q28_10 m H k
  | 11, _, _ => exact q28_11 m H k
  | 12, _, _ => exact q28_12 m H k
  | 13, _, _ => exact q28_13 m H k
  | 14, _, _ => exact q28_14 m H k
  | 15, _, _ => exact q28_15 m H k
  | 16, _, _ => exact q28_16 m H k
  | 17, _, _ => exact q28_17 m H k
  | 18, _, _ => exact q28_18 m H k
  | 19, _, _ => exact q28_19 m H k
  | 20, _, _ => exact q28_20 m H k
  | 21, _, _ => exact q28_21 m H k
  | 22, _, _ => exact q28_22 m H k
  | 23, _, _ => exact q28_23 m H k
  | 24, _, _ => exact q28_24 m H k
  | 25, _, _ => exact q28_25 m H k
  | n + 26, _, h => omega
theorem q49_1 {R : Type} (m : Nat) (H : Heap) (k : HK R) : runK tbl (m + 60) R B49 (frame0 [.i .i64 1] 0 .leaf) H (leaveK [(.tmp (toPa 2))] k) = k (str [124, 124]) H := by kernel_rfl
theorem q49_2 {R : Type} (m : Nat) (H : Heap) (k : HK R) : runK tbl (m + 60) R B49 (frame0 [.i .i64 2] 0 .leaf) H (leaveK [(.tmp (toPa 2))] k) = k (str [124, 124]) H := by kernel_rfl
theorem q49_3 {R : Type} (m : Nat) (H : Heap) (k : HK R) : runK tbl (m + 60) R B49 (frame0 [.i .i64 3] 0 .leaf) H (leaveK [(.tmp (toPa 2))] k) = k (str [124, 124]) H := by kernel_rfl
theorem q49_4 {R : Type} (m : Nat) (H : Heap) (k : HK R) : runK tbl (m + 60) R B49 (frame0 [.i .i64 4] 0 .leaf) H (leaveK [(.tmp (toPa 2))] k) = k (str [124, 124]) H := by kernel_rfl
theorem q49_5 {R : Type} (m : Nat) (H : Heap) (k : HK R) : runK tbl (m + 60) R B49 (frame0 [.i .i64 5] 0 .leaf) H (leaveK [(.tmp (toPa 2))] k) = k (str [124, 124]) H := by kernel_rfl
theorem q49_6 {R : Type} (m : Nat) (H : Heap) (k : HK R) : runK tbl (m + 60) R B49 (frame0 [.i .i64 6] 0 .leaf) H (leaveK [(.tmp (toPa 2))] k) = k (str [124, 124]) H := by kernel_rfl
theorem q49_7 {R : Type} (m : Nat) (H : Heap) (k : HK R) : runK tbl (m + 60) R B49 (frame0 [.i .i64 7] 0 .leaf) H (leaveK [(.tmp (toPa 2))] k) = k (str [124, 124]) H := by kernel_rfl
theorem q49_8 {R : Type} (m : Nat) (H : Heap) (k : HK R) : runK tbl (m + 60) R B49 (frame0 [.i .i64 8] 0 .leaf) H (leaveK [(.tmp (toPa 2))] k) = k (str [124, 124]) H := by kernel_rfl
theorem q49_9 {R : Type} (m : Nat) (H : Heap) (k : HK R) : runK tbl (m + 60) R B49 (frame0 [.i .i64 9] 0 .leaf) H (leaveK [(.tmp (toPa 2))] k) = k (str [124, 124]) H := by kernel_rfl
theorem q49_10 {R : Type} (m : Nat) (H : Heap) (k : HK R) : runK tbl (m + 60) R B49 (frame0 [.i .i64 10] 0 .leaf) H (leaveK [(.tmp (toPa 2))] k) = k (str [124, 124]) H := by kernel_rfl
theorem q49_11 {R : Type} (m : Nat) (H : Heap) (k : HK R) : runK tbl (m + 60) R B49 (frame0 [.i .i64 11] 0 .leaf) H (leaveK [(.tmp (toPa 2))] k) = k (str [124, 124]) H := by kernel_rfl
theorem q49_12 {R : Type} (m : Nat) (H : Heap) (k : HK R) : runK tbl (m + 60) R B49 (frame0 [.i .i64 12] 0 .leaf) H (leaveK [(.tmp (toPa 2))] k) = k (str [124, 124]) H := by kernel_rfl
theorem q49_13 {R : Type} (m : Nat) (H : Heap) (k : HK R) : runK tbl (m + 60) R B49 (frame0 [.i .i64 13] 0 .leaf) H (leaveK [(.tmp (toPa 2))] k) = k (str [42]) H := by kernel_rfl
theorem q49_14 {R : Type} (m : Nat) (H : Heap) (k : HK R) : runK tbl (m + 60) R B49 (frame0 [.i .i64 14] 0 .leaf) H (leaveK [(.tmp (toPa 2))] k) = k (str [43]) H := by kernel_rfl
theorem q49_15 {R : Type} (m : Nat) (H : Heap) (k : HK R) : runK tbl (m + 60) R B49 (frame0 [.i .i64 15] 0 .leaf) H (leaveK [(.tmp (toPa 2))] k) = k (str [45]) H := by kernel_rfl
theorem q49_16 {R : Type} (m : Nat) (H : Heap) (k : HK R) : runK tbl (m + 60) R B49 (frame0 [.i .i64 16] 0 .leaf) H (leaveK [(.tmp (toPa 2))] k) = k (str [60]) H := by kernel_rfl
theorem q49_17 {R : Type} (m : Nat) (H : Heap) (k : HK R) : runK tbl (m + 60) R B49 (frame0 [.i .i64 17] 0 .leaf) H (leaveK [(.tmp (toPa 2))] k) = k (str [60, 61]) H := by kernel_rfl
theorem q49_18 {R : Type} (m : Nat) (H : Heap) (k : HK R) : runK tbl (m + 60) R B49 (frame0 [.i .i64 18] 0 .leaf) H (leaveK [(.tmp (toPa 2))] k) = k (str [62]) H := by kernel_rfl
theorem q49_19 {R : Type} (m : Nat) (H : Heap) (k : HK R) : runK tbl (m + 60) R B49 (frame0 [.i .i64 19] 0 .leaf) H (leaveK [(.tmp (toPa 2))] k) = k (str [62, 61]) H := by kernel_rfl
theorem q49_20 {R : Type} (m : Nat) (H : Heap) (k : HK R) : runK tbl (m + 60) R B49 (frame0 [.i .i64 20] 0 .leaf) H (leaveK [(.tmp (toPa 2))] k) = k (str [61, 61]) H := by kernel_rfl
theorem q49_21 {R : Type} (m : Nat) (H : Heap) (k : HK R) : runK tbl (m + 60) R B49 (frame0 [.i .i64 21] 0 .leaf) H (leaveK [(.tmp (toPa 2))] k) = k (str [33, 61]) H := by kernel_rfl
theorem q49_22 {R : Type} (m : Nat) (H : Heap) (k : HK R) : runK tbl (m + 60) R B49 (frame0 [.i .i64 22] 0 .leaf) H (leaveK [(.tmp (toPa 2))] k) = k (str [105, 110]) H := by kernel_rfl
theorem q49_23 {R : Type} (m : Nat) (H : Heap) (k : HK R) : runK tbl (m + 60) R B49 (frame0 [.i .i64 23] 0 .leaf) H (leaveK [(.tmp (toPa 2))] k) = k (str [38, 38]) H := by kernel_rfl
theorem q49_24 {R : Type} (m : Nat) (H : Heap) (k : HK R) : runK tbl (m + 60) R B49 (frame0 [.i .i64 24] 0 .leaf) H (leaveK [(.tmp (toPa 2))] k) = k (str [124, 124]) H := by kernel_rfl
theorem q49_25 {R : Type} (m : Nat) (H : Heap) (k : HK R) : runK tbl (m + 60) R B49 (frame0 [.i .i64 25] 0 .leaf) H (leaveK [(.tmp (toPa 2))] k) = k (str [124, 124]) H := by kernel_rfl
theorem s49 {R : Type} {op : Nat} (h0 : 0 < op) (h1 : op ≤ 25) {M : Nat} (hM : 60 ≤ M) (H : Heap) (k : HK R) :
    callK tbl (runK tbl M) R (toPa 49) [.i .i64 op] H k = k (str (sgn op)) H := by
  obtain ⟨m, rfl⟩ : ∃ m, M = m + 60 := ⟨M - 60, by omega⟩
  rw [call_eq L49]
  match op, h0, h1 with
  | 1, _, _ => exact q49_1 m H k
  | 2, _, _ => exact q49_2 m H k
  | 3, _, _ => exact q49_3 m H k
  | 4, _, _ => exact q49_4 m H k
  | 5, _, _ => exact q49_5 m H k
  | 6, _, _ => exact q49_6 m H k
  | 7, _, _ => exact q49_7 m H k
  | 8, _, _ => exact q49_8 m H k
  | 9, _, _ => exact q49_9 m H k
  | 10, _, _ => exact q49_10 m H k
  | 11, _, _ => exact q49_11 m H k
  | 12, _, _ => exact q49_12 m H k
  | 13, _, _ => exact q49_13 m H k
  | 14, _, _ => exact q49_14 m H k
  | 15, _, _ => exact q49_15 m H k
  | 16, _, _ => exact q49_16 m H k
  | 17, _, _ => exact q49_17 m H k
  | 18, _, _ => exact q49_18 m H k
  | 19, _, _ => exact q49_19 m H k
  | 20, _, _ => exact q49_20 m H k
  | 21, _, _ => exact q49_21 m H k
  | 22, _, _ => exact q49_22 m H k
  | 23, _, _ => exact q49_23 m H k
  | 24, _, _ => exact q49_24 m H k
  | 25, _, _ => exact q49_25 m H k
  | n + 26, _, h => omega
theorem q29_1 {R : Type} (m : Nat) (H : Heap) (k : HK R) : runK tbl (m + 60) R B29 (frame0 [.i .i64 1] 0 .leaf) H (leaveK [(.tmp (toPa 2))] k) = k (str [124, 124]) H := by kernel_rfl
theorem q29_2 {R : Type} (m : Nat) (H : Heap) (k : HK R) : runK tbl (m + 60) R B29 (frame0 [.i .i64 2] 0 .leaf) H (leaveK [(.tmp (toPa 2))] k) = k (str [124, 124]) H := by kernel_rfl
theorem q29_3 {R : Type} (m : Nat) (H : Heap) (k : HK R) : runK tbl (m + 60) R B29 (frame0 [.i .i64 3] 0 .leaf) H (leaveK [(.tmp (toPa 2))] k) = k (str [124, 124]) H := by kernel_rfl
theorem q29_4 {R : Type} (m : Nat) (H : Heap) (k : HK R) : runK tbl (m + 60) R B29 (frame0 [.i .i64 4] 0 .leaf) H (leaveK [(.tmp (toPa 2))] k) = k (str [124, 124]) H := by kernel_rfl
theorem q29_5 {R : Type} (m : Nat) (H : Heap) (k : HK R) : runK tbl (m + 60) R B29 (frame0 [.i .i64 5] 0 .leaf) H (leaveK [(.tmp (toPa 2))] k) = k (str [124, 124]) H := by kernel_rfl
theorem q29_6 {R : Type} (m : Nat) (H : Heap) (k : HK R) : runK tbl (m + 60) R B29 (frame0 [.i .i64 6] 0 .leaf) H (leaveK [(.tmp (toPa 2))] k) = k (str [124, 124]) H := by kernel_rfl
theorem q29_7 {R : Type} (m : Nat) (H : Heap) (k : HK R) : runK tbl (m + 60) R B29 (frame0 [.i .i64 7] 0 .leaf) H (leaveK [(.tmp (toPa 2))] k) = k (str [124, 124]) H := by kernel_rfl
theorem q29_8 {R : Type} (m : Nat) (H : Heap) (k : HK R) : runK tbl (m + 60) R B29 (frame0 [.i .i64 8] 0 .leaf) H (leaveK [(.tmp (toPa 2))] k) = k (str [124, 124]) H := by kernel_rfl
theorem q29_9 {R : Type} (m : Nat) (H : Heap) (k : HK R) : runK tbl (m + 60) R B29 (frame0 [.i .i64 9] 0 .leaf) H (leaveK [(.tmp (toPa 2))] k) = k (str [124, 124]) H := by kernel_rfl
theorem q29_10 {R : Type} (m : Nat) (H : Heap) (k : HK R) : runK tbl (m + 60) R B29 (frame0 [.i .i64 10] 0 .leaf) H (leaveK [(.tmp (toPa 2))] k) = k (str [124, 124]) H := by kernel_rfl
theorem q29_11 {R : Type} (m : Nat) (H : Heap) (k : HK R) : runK tbl (m + 60) R B29 (frame0 [.i .i64 11] 0 .leaf) H (leaveK [(.tmp (toPa 2))] k) = k (str [124, 124]) H := by kernel_rfl
theorem q29_12 {R : Type} (m : Nat) (H : Heap) (k : HK R) : runK tbl (m + 60) R B29 (frame0 [.i .i64 12] 0 .leaf) H (leaveK [(.tmp (toPa 2))] k) = k (str [124, 124]) H := by kernel_rfl
theorem q29_13 {R : Type} (m : Nat) (H : Heap) (k : HK R) : runK tbl (m + 60) R B29 (frame0 [.i .i64 13] 0 .leaf) H (leaveK [(.tmp (toPa 2))] k) = k (str [42]) H := by kernel_rfl
theorem q29_14 {R : Type} (m : Nat) (H : Heap) (k : HK R) : runK tbl (m + 60) R B29 (frame0 [.i .i64 14] 0 .leaf) H (leaveK [(.tmp (toPa 2))] k) = k (str [43]) H := by kernel_rfl
theorem q29_15 {R : Type} (m : Nat) (H : Heap) (k : HK R) : runK tbl (m + 60) R B29 (frame0 [.i .i64 15] 0 .leaf) H (leaveK [(.tmp (toPa 2))] k) = k (str [45]) H := by kernel_rfl
theorem q29_16 {R : Type} (m : Nat) (H : Heap) (k : HK R) : runK tbl (m + 60) R B29 (frame0 [.i .i64 16] 0 .leaf) H (leaveK [(.tmp (toPa 2))] k) = k (str [60]) H := by kernel_rfl
theorem q29_17 {R : Type} (m : Nat) (H : Heap) (k : HK R) : runK tbl (m + 60) R B29 (frame0 [.i .i64 17] 0 .leaf) H (leaveK [(.tmp (toPa 2))] k) = k (str [60, 61]) H := by kernel_rfl
theorem q29_18 {R : Type} (m : Nat) (H : Heap) (k : HK R) : runK tbl (m + 60) R B29 (frame0 [.i .i64 18] 0 .leaf) H (leaveK [(.tmp (toPa 2))] k) = k (str [62]) H := by kernel_rfl
theorem q29_19 {R : Type} (m : Nat) (H : Heap) (k : HK R) : runK tbl (m + 60) R B29 (frame0 [.i .i64 19] 0 .leaf) H (leaveK [(.tmp (toPa 2))] k) = k (str [62, 61]) H := by kernel_rfl
theorem q29_20 {R : Type} (m : Nat) (H : Heap) (k : HK R) : runK tbl (m + 60) R B29 (frame0 [.i .i64 20] 0 .leaf) H (leaveK [(.tmp (toPa 2))] k) = k (str [61, 61]) H := by kernel_rfl
theorem q29_21 {R : Type} (m : Nat) (H : Heap) (k : HK R) : runK tbl (m + 60) R B29 (frame0 [.i .i64 21] 0 .leaf) H (leaveK [(.tmp (toPa 2))] k) = k (str [33, 61]) H := by kernel_rfl
theorem q29_22 {R : Type} (m : Nat) (H : Heap) (k : HK R) : runK tbl (m + 60) R B29 (frame0 [.i .i64 22] 0 .leaf) H (leaveK [(.tmp (toPa 2))] k) = k (str [105, 110]) H := by kernel_rfl
theorem q29_23 {R : Type} (m : Nat) (H : Heap) (k : HK R) : runK tbl (m + 60) R B29 (frame0 [.i .i64 23] 0 .leaf) H (leaveK [(.tmp (toPa 2))] k) = k (str [38, 38]) H := by kernel_rfl
theorem q29_24 {R : Type} (m : Nat) (H : Heap) (k : HK R) : runK tbl (m + 60) R B29 (frame0 [.i .i64 24] 0 .leaf) H (leaveK [(.tmp (toPa 2))] k) = k (str [124, 124]) H := by kernel_rfl
theorem q29_25 {R : Type} (m : Nat) (H : Heap) (k : HK R) : runK tbl (m + 60) R B29 (frame0 [.i .i64 25] 0 .leaf) H (leaveK [(.tmp (toPa 2))] k) = k (str [124, 124]) H := by kernel_rfl
theorem s29 {R : Type} {op : Nat} (h0 : 0 < op) (h1 : op ≤ 25) {M : Nat} (hM : 60 ≤ M) (H : Heap) (k : HK R) :
    callK tbl (runK tbl M) R (toPa 29) [.i .i64 op] H k = k (str (sgn op)) H := by
  obtain ⟨m, rfl⟩ : ∃ m, M = m + 60 := ⟨M - 60, by omega⟩
  rw [call_eq L29]
  match op, h0, h1 with
  | 1, _, _ => exact q29_1 m H k
  | 2, _, _ => exact q29_2 m H k
  | 3, _, _ => exact q29_3 m H k
  | 4, _, _ => exact q29_4 m H k
  | 5, _, _ => exact q29_5 m H k
  | 6, _, _ => exact q29_6 m H k
  | 7, _, _ => exact q29_7 m H k
  | 8, _, _ => exact q29_8 m H k
  | 9, _, _ => exact q29_9 m H k
  | 10, _, _ => exact q29_10 m H k
  | 11, _, _ => exact q29_11 m H k
  | 12, _, _ => exact q29_12 m H k
  | 13, _, _ => exact q29_13 m H k
  | 14, _, _ => exact q29_14 m H k
  | 15, _, _ => exact q29_15 m H k
  | 16, _, _ => exact q29_16 m H k
  | 17, _, _ => exact q29_17 m H k
  | 18, _, _ => exact q29_18 m H k
  | 19, _, _ => exact q29_19 m H k
  | 20, _, _ => exact q29_20 m H k
  | 21, _, _ => exact q29_21 m H k
  | 22, _, _ => exact q29_22 m H k
  | 23, _, _ => exact q29_23 m H k
  | 24, _, _ => exact q29_24 m H k
  | 25, _, _ => exact q29_25 m H k
  | n + 26, _, h => omega
end Go.Proofs.YtmmmjhkgjmbfaaaDoor

/- Names. -/
namespace Go.Proofs.YtmmmjhkgjmbfaaaDoor
open Go Go.Vai
set_option maxRecDepth 100000
set_option linter.unusedSimpArgs false
/-- A call that tells v, after which memory has grown. -/
def Tells (f c : Nat) (args : List AV) (H : Heap) (v : AV) : Prop := ∃ H', Grow H H' ∧ ∀ M, c ≤ M → ∀ (R : Type) (k : HK R), callK tbl (runK tbl M) R (toPa f) args H k = k v H'
def nms : List (List UInt8) := [[97], [97, 103, 101], [105, 102], [99, 111, 110, 116, 97, 105, 110, 115], [112, 114, 105, 110, 99, 105, 112, 97, 108], [95, 120], [110, 97, 109, 101]]
def nm (a : Int) : List UInt8 := (nms[(a % 7).toNat]?).getD []
theorem nm_at (a : Int) : (nms.map str)[(a % 7).toNat]? = some (str (nm a)) := by
  have h1 := Int.emod_nonneg a (b := 7) (by decide)
  have h2 := Int.emod_lt_of_pos a (b := 7) (by decide)
  unfold nm
  rw [List.getElem?_map, List.getElem?_eq_getElem (by show _ < 7; omega)]; rfl
theorem s19 (a : Int) (H : Heap) : Tells 19 60 [.i .i64 a] H (str (nm a)) := by
  have h1 := Int.emod_nonneg a (b := 7) (by decide)
  have h2 := Int.emod_lt_of_pos a (b := 7) (by decide)
  refine ⟨?w, ?g, fun M hM R k => ?e⟩
  case e =>
    obtain ⟨m, rfl⟩ : ∃ m, M = m + 60 := ⟨M - 60, by omega⟩
    rw [call_eq L19]
    unfold B19
    simp only [EX, reduceIte, Nat.reduceEqDiff, Nat.reduceAdd, Int.reduceEq, Int.reduceLT, Int.reduceLE, reduceCtorEq, Nat.reduceLeDiff, Nat.reduceSub, Nat.reduceLT, s18]
    rw [ixa_sl h1 (by omega)]
    simp only [EX, reduceIte, Nat.reduceEqDiff, Nat.reduceAdd, Int.reduceEq, Int.reduceLT, Int.reduceLE, reduceCtorEq, Nat.reduceLeDiff, Nat.reduceSub, Nat.reduceLT]
    rw [Row.ld (e := 9) (l := nms.map str) (v := str (nm a)) ?r ?v]
    case r => exact Row.new H 9 (nms.map str)
    case v => rw [Nat.zero_add, Nat.mul_one]; exact nm_at a
    simp only [EX, reduceIte, Nat.reduceEqDiff, Nat.reduceAdd, Int.reduceEq, Int.reduceLT, Int.reduceLE, reduceCtorEq, Nat.reduceLeDiff, Nat.reduceSub, Nat.reduceLT]
    exact rfl
  case g => exact Grow.alloc H _
end Go.Proofs.YtmmmjhkgjmbfaaaDoor

/- Runes: which are there, their bytes, put behind bytes. -/
namespace Go.Proofs.YtmmmjhkgjmbfaaaDoor
open Go Go.Vai
set_option maxRecDepth 100000
set_option linter.unusedSimpArgs false
def rns : List Int := [97, 98, 42, 34, 92, 10, 9, 1, 31, 127, 128, 233, 2047, 2048, 8364, 55295, 57344, 65533, 65535, 65536, 128512, 1114111]
def ens : List (List UInt8) := [[97], [98], [42], [34], [92], [10], [9], [1], [31], [127], [194, 128], [195, 169], [223, 191], [224, 160, 128], [226, 130, 172], [237, 159, 191], [238, 128, 128], [239, 191, 189], [239, 191, 191], [240, 144, 128, 128], [240, 159, 152, 128], [244, 143, 191, 191]]
theorem q73_0 {R : Type} (m : Nat) (H : Heap) (k : HK R) : runK tbl (m + 60) R B73 (frame0 [.i .i32 97] 0 .leaf) H (leaveK [(.tmp (toPa 2))] k) = k (.b true) H := by kernel_rfl
theorem q74_0 {R : Type} (m : Nat) (b : AV) (H : Heap) (k : HK R) : runK tbl (m + 60) R B74 (frame0 [b, .i .i32 97] 0 .leaf) H (leaveK [(.tmp (toPa 4))] k) = H.allocK (.cells false 0 5 1 (setCells (bcs [97]) 0 .leaf)) fun id H => appendK 5 1 1 b (.sl id 0 1 (some 1) 1) H k := by kernel_rfl
theorem q73_1 {R : Type} (m : Nat) (H : Heap) (k : HK R) : runK tbl (m + 60) R B73 (frame0 [.i .i32 98] 0 .leaf) H (leaveK [(.tmp (toPa 2))] k) = k (.b true) H := by kernel_rfl
theorem q74_1 {R : Type} (m : Nat) (b : AV) (H : Heap) (k : HK R) : runK tbl (m + 60) R B74 (frame0 [b, .i .i32 98] 0 .leaf) H (leaveK [(.tmp (toPa 4))] k) = H.allocK (.cells false 0 5 1 (setCells (bcs [98]) 0 .leaf)) fun id H => appendK 5 1 1 b (.sl id 0 1 (some 1) 1) H k := by kernel_rfl
theorem q73_2 {R : Type} (m : Nat) (H : Heap) (k : HK R) : runK tbl (m + 60) R B73 (frame0 [.i .i32 42] 0 .leaf) H (leaveK [(.tmp (toPa 2))] k) = k (.b true) H := by kernel_rfl
theorem q74_2 {R : Type} (m : Nat) (b : AV) (H : Heap) (k : HK R) : runK tbl (m + 60) R B74 (frame0 [b, .i .i32 42] 0 .leaf) H (leaveK [(.tmp (toPa 4))] k) = H.allocK (.cells false 0 5 1 (setCells (bcs [42]) 0 .leaf)) fun id H => appendK 5 1 1 b (.sl id 0 1 (some 1) 1) H k := by kernel_rfl
theorem q73_3 {R : Type} (m : Nat) (H : Heap) (k : HK R) : runK tbl (m + 60) R B73 (frame0 [.i .i32 34] 0 .leaf) H (leaveK [(.tmp (toPa 2))] k) = k (.b true) H := by kernel_rfl
theorem q74_3 {R : Type} (m : Nat) (b : AV) (H : Heap) (k : HK R) : runK tbl (m + 60) R B74 (frame0 [b, .i .i32 34] 0 .leaf) H (leaveK [(.tmp (toPa 4))] k) = H.allocK (.cells false 0 5 1 (setCells (bcs [34]) 0 .leaf)) fun id H => appendK 5 1 1 b (.sl id 0 1 (some 1) 1) H k := by kernel_rfl
theorem q73_4 {R : Type} (m : Nat) (H : Heap) (k : HK R) : runK tbl (m + 60) R B73 (frame0 [.i .i32 92] 0 .leaf) H (leaveK [(.tmp (toPa 2))] k) = k (.b true) H := by kernel_rfl
theorem q74_4 {R : Type} (m : Nat) (b : AV) (H : Heap) (k : HK R) : runK tbl (m + 60) R B74 (frame0 [b, .i .i32 92] 0 .leaf) H (leaveK [(.tmp (toPa 4))] k) = H.allocK (.cells false 0 5 1 (setCells (bcs [92]) 0 .leaf)) fun id H => appendK 5 1 1 b (.sl id 0 1 (some 1) 1) H k := by kernel_rfl
theorem q73_5 {R : Type} (m : Nat) (H : Heap) (k : HK R) : runK tbl (m + 60) R B73 (frame0 [.i .i32 10] 0 .leaf) H (leaveK [(.tmp (toPa 2))] k) = k (.b true) H := by kernel_rfl
theorem q74_5 {R : Type} (m : Nat) (b : AV) (H : Heap) (k : HK R) : runK tbl (m + 60) R B74 (frame0 [b, .i .i32 10] 0 .leaf) H (leaveK [(.tmp (toPa 4))] k) = H.allocK (.cells false 0 5 1 (setCells (bcs [10]) 0 .leaf)) fun id H => appendK 5 1 1 b (.sl id 0 1 (some 1) 1) H k := by kernel_rfl
theorem q73_6 {R : Type} (m : Nat) (H : Heap) (k : HK R) : runK tbl (m + 60) R B73 (frame0 [.i .i32 9] 0 .leaf) H (leaveK [(.tmp (toPa 2))] k) = k (.b true) H := by kernel_rfl
theorem q74_6 {R : Type} (m : Nat) (b : AV) (H : Heap) (k : HK R) : runK tbl (m + 60) R B74 (frame0 [b, .i .i32 9] 0 .leaf) H (leaveK [(.tmp (toPa 4))] k) = H.allocK (.cells false 0 5 1 (setCells (bcs [9]) 0 .leaf)) fun id H => appendK 5 1 1 b (.sl id 0 1 (some 1) 1) H k := by kernel_rfl
theorem q73_7 {R : Type} (m : Nat) (H : Heap) (k : HK R) : runK tbl (m + 60) R B73 (frame0 [.i .i32 1] 0 .leaf) H (leaveK [(.tmp (toPa 2))] k) = k (.b true) H := by kernel_rfl
theorem q74_7 {R : Type} (m : Nat) (b : AV) (H : Heap) (k : HK R) : runK tbl (m + 60) R B74 (frame0 [b, .i .i32 1] 0 .leaf) H (leaveK [(.tmp (toPa 4))] k) = H.allocK (.cells false 0 5 1 (setCells (bcs [1]) 0 .leaf)) fun id H => appendK 5 1 1 b (.sl id 0 1 (some 1) 1) H k := by kernel_rfl
theorem q73_8 {R : Type} (m : Nat) (H : Heap) (k : HK R) : runK tbl (m + 60) R B73 (frame0 [.i .i32 31] 0 .leaf) H (leaveK [(.tmp (toPa 2))] k) = k (.b true) H := by kernel_rfl
theorem q74_8 {R : Type} (m : Nat) (b : AV) (H : Heap) (k : HK R) : runK tbl (m + 60) R B74 (frame0 [b, .i .i32 31] 0 .leaf) H (leaveK [(.tmp (toPa 4))] k) = H.allocK (.cells false 0 5 1 (setCells (bcs [31]) 0 .leaf)) fun id H => appendK 5 1 1 b (.sl id 0 1 (some 1) 1) H k := by kernel_rfl
theorem q73_9 {R : Type} (m : Nat) (H : Heap) (k : HK R) : runK tbl (m + 60) R B73 (frame0 [.i .i32 127] 0 .leaf) H (leaveK [(.tmp (toPa 2))] k) = k (.b true) H := by kernel_rfl
theorem q74_9 {R : Type} (m : Nat) (b : AV) (H : Heap) (k : HK R) : runK tbl (m + 60) R B74 (frame0 [b, .i .i32 127] 0 .leaf) H (leaveK [(.tmp (toPa 4))] k) = H.allocK (.cells false 0 5 1 (setCells (bcs [127]) 0 .leaf)) fun id H => appendK 5 1 1 b (.sl id 0 1 (some 1) 1) H k := by kernel_rfl
theorem q73_10 {R : Type} (m : Nat) (H : Heap) (k : HK R) : runK tbl (m + 60) R B73 (frame0 [.i .i32 128] 0 .leaf) H (leaveK [(.tmp (toPa 2))] k) = k (.b true) H := by kernel_rfl
theorem q74_10 {R : Type} (m : Nat) (b : AV) (H : Heap) (k : HK R) : runK tbl (m + 60) R B74 (frame0 [b, .i .i32 128] 0 .leaf) H (leaveK [(.tmp (toPa 4))] k) = H.allocK (.cells false 0 5 2 (setCells (bcs [194, 128]) 0 .leaf)) fun id H => appendK 5 1 1 b (.sl id 0 2 (some 2) 1) H k := by kernel_rfl
theorem q73_11 {R : Type} (m : Nat) (H : Heap) (k : HK R) : runK tbl (m + 60) R B73 (frame0 [.i .i32 233] 0 .leaf) H (leaveK [(.tmp (toPa 2))] k) = k (.b true) H := by kernel_rfl
theorem q74_11 {R : Type} (m : Nat) (b : AV) (H : Heap) (k : HK R) : runK tbl (m + 60) R B74 (frame0 [b, .i .i32 233] 0 .leaf) H (leaveK [(.tmp (toPa 4))] k) = H.allocK (.cells false 0 5 2 (setCells (bcs [195, 169]) 0 .leaf)) fun id H => appendK 5 1 1 b (.sl id 0 2 (some 2) 1) H k := by kernel_rfl
theorem q73_12 {R : Type} (m : Nat) (H : Heap) (k : HK R) : runK tbl (m + 60) R B73 (frame0 [.i .i32 2047] 0 .leaf) H (leaveK [(.tmp (toPa 2))] k) = k (.b true) H := by kernel_rfl
theorem q74_12 {R : Type} (m : Nat) (b : AV) (H : Heap) (k : HK R) : runK tbl (m + 60) R B74 (frame0 [b, .i .i32 2047] 0 .leaf) H (leaveK [(.tmp (toPa 4))] k) = H.allocK (.cells false 0 5 2 (setCells (bcs [223, 191]) 0 .leaf)) fun id H => appendK 5 1 1 b (.sl id 0 2 (some 2) 1) H k := by kernel_rfl
theorem q73_13 {R : Type} (m : Nat) (H : Heap) (k : HK R) : runK tbl (m + 60) R B73 (frame0 [.i .i32 2048] 0 .leaf) H (leaveK [(.tmp (toPa 2))] k) = k (.b true) H := by kernel_rfl
theorem q74_13 {R : Type} (m : Nat) (b : AV) (H : Heap) (k : HK R) : runK tbl (m + 60) R B74 (frame0 [b, .i .i32 2048] 0 .leaf) H (leaveK [(.tmp (toPa 4))] k) = H.allocK (.cells false 0 5 3 (setCells (bcs [224, 160, 128]) 0 .leaf)) fun id H => appendK 5 1 1 b (.sl id 0 3 (some 3) 1) H k := by kernel_rfl
theorem q73_14 {R : Type} (m : Nat) (H : Heap) (k : HK R) : runK tbl (m + 60) R B73 (frame0 [.i .i32 8364] 0 .leaf) H (leaveK [(.tmp (toPa 2))] k) = k (.b true) H := by kernel_rfl
theorem q74_14 {R : Type} (m : Nat) (b : AV) (H : Heap) (k : HK R) : runK tbl (m + 60) R B74 (frame0 [b, .i .i32 8364] 0 .leaf) H (leaveK [(.tmp (toPa 4))] k) = H.allocK (.cells false 0 5 3 (setCells (bcs [226, 130, 172]) 0 .leaf)) fun id H => appendK 5 1 1 b (.sl id 0 3 (some 3) 1) H k := by kernel_rfl
theorem q73_15 {R : Type} (m : Nat) (H : Heap) (k : HK R) : runK tbl (m + 60) R B73 (frame0 [.i .i32 55295] 0 .leaf) H (leaveK [(.tmp (toPa 2))] k) = k (.b true) H := by kernel_rfl
theorem q74_15 {R : Type} (m : Nat) (b : AV) (H : Heap) (k : HK R) : runK tbl (m + 60) R B74 (frame0 [b, .i .i32 55295] 0 .leaf) H (leaveK [(.tmp (toPa 4))] k) = H.allocK (.cells false 0 5 3 (setCells (bcs [237, 159, 191]) 0 .leaf)) fun id H => appendK 5 1 1 b (.sl id 0 3 (some 3) 1) H k := by kernel_rfl
theorem q73_16 {R : Type} (m : Nat) (H : Heap) (k : HK R) : runK tbl (m + 60) R B73 (frame0 [.i .i32 57344] 0 .leaf) H (leaveK [(.tmp (toPa 2))] k) = k (.b true) H := by kernel_rfl
theorem q74_16 {R : Type} (m : Nat) (b : AV) (H : Heap) (k : HK R) : runK tbl (m + 60) R B74 (frame0 [b, .i .i32 57344] 0 .leaf) H (leaveK [(.tmp (toPa 4))] k) = H.allocK (.cells false 0 5 3 (setCells (bcs [238, 128, 128]) 0 .leaf)) fun id H => appendK 5 1 1 b (.sl id 0 3 (some 3) 1) H k := by kernel_rfl
theorem q73_17 {R : Type} (m : Nat) (H : Heap) (k : HK R) : runK tbl (m + 60) R B73 (frame0 [.i .i32 65533] 0 .leaf) H (leaveK [(.tmp (toPa 2))] k) = k (.b true) H := by kernel_rfl
theorem q74_17 {R : Type} (m : Nat) (b : AV) (H : Heap) (k : HK R) : runK tbl (m + 60) R B74 (frame0 [b, .i .i32 65533] 0 .leaf) H (leaveK [(.tmp (toPa 4))] k) = H.allocK (.cells false 0 5 3 (setCells (bcs [239, 191, 189]) 0 .leaf)) fun id H => appendK 5 1 1 b (.sl id 0 3 (some 3) 1) H k := by kernel_rfl
theorem q73_18 {R : Type} (m : Nat) (H : Heap) (k : HK R) : runK tbl (m + 60) R B73 (frame0 [.i .i32 65535] 0 .leaf) H (leaveK [(.tmp (toPa 2))] k) = k (.b true) H := by kernel_rfl
theorem q74_18 {R : Type} (m : Nat) (b : AV) (H : Heap) (k : HK R) : runK tbl (m + 60) R B74 (frame0 [b, .i .i32 65535] 0 .leaf) H (leaveK [(.tmp (toPa 4))] k) = H.allocK (.cells false 0 5 3 (setCells (bcs [239, 191, 191]) 0 .leaf)) fun id H => appendK 5 1 1 b (.sl id 0 3 (some 3) 1) H k := by kernel_rfl
theorem q73_19 {R : Type} (m : Nat) (H : Heap) (k : HK R) : runK tbl (m + 60) R B73 (frame0 [.i .i32 65536] 0 .leaf) H (leaveK [(.tmp (toPa 2))] k) = k (.b true) H := by kernel_rfl
theorem q74_19 {R : Type} (m : Nat) (b : AV) (H : Heap) (k : HK R) : runK tbl (m + 60) R B74 (frame0 [b, .i .i32 65536] 0 .leaf) H (leaveK [(.tmp (toPa 4))] k) = H.allocK (.cells false 0 5 4 (setCells (bcs [240, 144, 128, 128]) 0 .leaf)) fun id H => appendK 5 1 1 b (.sl id 0 4 (some 4) 1) H k := by kernel_rfl
theorem q73_20 {R : Type} (m : Nat) (H : Heap) (k : HK R) : runK tbl (m + 60) R B73 (frame0 [.i .i32 128512] 0 .leaf) H (leaveK [(.tmp (toPa 2))] k) = k (.b true) H := by kernel_rfl
theorem q74_20 {R : Type} (m : Nat) (b : AV) (H : Heap) (k : HK R) : runK tbl (m + 60) R B74 (frame0 [b, .i .i32 128512] 0 .leaf) H (leaveK [(.tmp (toPa 4))] k) = H.allocK (.cells false 0 5 4 (setCells (bcs [240, 159, 152, 128]) 0 .leaf)) fun id H => appendK 5 1 1 b (.sl id 0 4 (some 4) 1) H k := by kernel_rfl
theorem q73_21 {R : Type} (m : Nat) (H : Heap) (k : HK R) : runK tbl (m + 60) R B73 (frame0 [.i .i32 1114111] 0 .leaf) H (leaveK [(.tmp (toPa 2))] k) = k (.b true) H := by kernel_rfl
theorem q74_21 {R : Type} (m : Nat) (b : AV) (H : Heap) (k : HK R) : runK tbl (m + 60) R B74 (frame0 [b, .i .i32 1114111] 0 .leaf) H (leaveK [(.tmp (toPa 4))] k) = H.allocK (.cells false 0 5 4 (setCells (bcs [244, 143, 191, 191]) 0 .leaf)) fun id H => appendK 5 1 1 b (.sl id 0 4 (some 4) 1) H k := by kernel_rfl
theorem s73 {R : Type} (i : Nat) (hi : i < 22) {r : Int} (hr : rns[i]? = some r) {M : Nat} (hM : 60 ≤ M) (H : Heap) (k : HK R) : callK tbl (runK tbl M) R (toPa 73) [.i .i32 r] H k = k (.b true) H := by
  obtain ⟨m, rfl⟩ : ∃ m, M = m + 60 := ⟨M - 60, by omega⟩
  rw [call_eq L73]
  match i, hi with
  | 0, _ => cases hr; exact q73_0 m H k
  | 1, _ => cases hr; exact q73_1 m H k
  | 2, _ => cases hr; exact q73_2 m H k
  | 3, _ => cases hr; exact q73_3 m H k
  | 4, _ => cases hr; exact q73_4 m H k
  | 5, _ => cases hr; exact q73_5 m H k
  | 6, _ => cases hr; exact q73_6 m H k
  | 7, _ => cases hr; exact q73_7 m H k
  | 8, _ => cases hr; exact q73_8 m H k
  | 9, _ => cases hr; exact q73_9 m H k
  | 10, _ => cases hr; exact q73_10 m H k
  | 11, _ => cases hr; exact q73_11 m H k
  | 12, _ => cases hr; exact q73_12 m H k
  | 13, _ => cases hr; exact q73_13 m H k
  | 14, _ => cases hr; exact q73_14 m H k
  | 15, _ => cases hr; exact q73_15 m H k
  | 16, _ => cases hr; exact q73_16 m H k
  | 17, _ => cases hr; exact q73_17 m H k
  | 18, _ => cases hr; exact q73_18 m H k
  | 19, _ => cases hr; exact q73_19 m H k
  | 20, _ => cases hr; exact q73_20 m H k
  | 21, _ => cases hr; exact q73_21 m H k
  | n + 22, h => omega
theorem s74 (i : Nat) (hi : i < 22) {r : Int} (hr : rns[i]? = some r) {t : List UInt8} (ht : ens[i]? = some t) {H0 H : Heap} {b : AV} {s : List UInt8} (h : Held H0 H 5 1 b s.length (bcs s)) (g : Grow H0 H) (hs : (s ++ t).length ≤ roomN) :
    ∃ H' b', Grow H0 H' ∧ H.next.toN ≤ H'.next.toN ∧ Held H0 H' 5 1 b' (s ++ t).length (bcs (s ++ t)) ∧ ∀ M, 60 ≤ M → ∀ (R : Type) (k : HK R), callK tbl (runK tbl M) R (toPa 74) [b, .i .i32 r] H k = k b' H' := by
  have htn : t ≠ [] := by
    match i, hi with
    | 0, _ => cases ht; exact List.cons_ne_nil _ _
    | 1, _ => cases ht; exact List.cons_ne_nil _ _
    | 2, _ => cases ht; exact List.cons_ne_nil _ _
    | 3, _ => cases ht; exact List.cons_ne_nil _ _
    | 4, _ => cases ht; exact List.cons_ne_nil _ _
    | 5, _ => cases ht; exact List.cons_ne_nil _ _
    | 6, _ => cases ht; exact List.cons_ne_nil _ _
    | 7, _ => cases ht; exact List.cons_ne_nil _ _
    | 8, _ => cases ht; exact List.cons_ne_nil _ _
    | 9, _ => cases ht; exact List.cons_ne_nil _ _
    | 10, _ => cases ht; exact List.cons_ne_nil _ _
    | 11, _ => cases ht; exact List.cons_ne_nil _ _
    | 12, _ => cases ht; exact List.cons_ne_nil _ _
    | 13, _ => cases ht; exact List.cons_ne_nil _ _
    | 14, _ => cases ht; exact List.cons_ne_nil _ _
    | 15, _ => cases ht; exact List.cons_ne_nil _ _
    | 16, _ => cases ht; exact List.cons_ne_nil _ _
    | 17, _ => cases ht; exact List.cons_ne_nil _ _
    | 18, _ => cases ht; exact List.cons_ne_nil _ _
    | 19, _ => cases ht; exact List.cons_ne_nil _ _
    | 20, _ => cases ht; exact List.cons_ne_nil _ _
    | 21, _ => cases ht; exact List.cons_ne_nil _ _
    | n + 22, h => omega
  have gA : Grow H (H.alloc (.cells false 0 5 (bcs t).length (setCells (bcs t) 0 .leaf))) := Grow.alloc H _
  obtain ⟨H', g', n', h', eq⟩ := (h.grow gA).bytes (g.trans gA) htn (Row.new H 5 (bcs t)) hs
  refine ⟨H', _, g', Nat.le_of_lt (Nat.lt_of_le_of_lt gA.next n'), h', fun M hM R k => ?_⟩
  obtain ⟨m, rfl⟩ : ∃ m, M = m + 60 := ⟨M - 60, by omega⟩
  rw [call_eq L74, ← eq R k (some t.length)]
  match i, hi with
  | 0, _ => cases hr; cases ht; exact (q74_0 m b H k).trans (Heap.allocK_eq _ _ _)
  | 1, _ => cases hr; cases ht; exact (q74_1 m b H k).trans (Heap.allocK_eq _ _ _)
  | 2, _ => cases hr; cases ht; exact (q74_2 m b H k).trans (Heap.allocK_eq _ _ _)
  | 3, _ => cases hr; cases ht; exact (q74_3 m b H k).trans (Heap.allocK_eq _ _ _)
  | 4, _ => cases hr; cases ht; exact (q74_4 m b H k).trans (Heap.allocK_eq _ _ _)
  | 5, _ => cases hr; cases ht; exact (q74_5 m b H k).trans (Heap.allocK_eq _ _ _)
  | 6, _ => cases hr; cases ht; exact (q74_6 m b H k).trans (Heap.allocK_eq _ _ _)
  | 7, _ => cases hr; cases ht; exact (q74_7 m b H k).trans (Heap.allocK_eq _ _ _)
  | 8, _ => cases hr; cases ht; exact (q74_8 m b H k).trans (Heap.allocK_eq _ _ _)
  | 9, _ => cases hr; cases ht; exact (q74_9 m b H k).trans (Heap.allocK_eq _ _ _)
  | 10, _ => cases hr; cases ht; exact (q74_10 m b H k).trans (Heap.allocK_eq _ _ _)
  | 11, _ => cases hr; cases ht; exact (q74_11 m b H k).trans (Heap.allocK_eq _ _ _)
  | 12, _ => cases hr; cases ht; exact (q74_12 m b H k).trans (Heap.allocK_eq _ _ _)
  | 13, _ => cases hr; cases ht; exact (q74_13 m b H k).trans (Heap.allocK_eq _ _ _)
  | 14, _ => cases hr; cases ht; exact (q74_14 m b H k).trans (Heap.allocK_eq _ _ _)
  | 15, _ => cases hr; cases ht; exact (q74_15 m b H k).trans (Heap.allocK_eq _ _ _)
  | 16, _ => cases hr; cases ht; exact (q74_16 m b H k).trans (Heap.allocK_eq _ _ _)
  | 17, _ => cases hr; cases ht; exact (q74_17 m b H k).trans (Heap.allocK_eq _ _ _)
  | 18, _ => cases hr; cases ht; exact (q74_18 m b H k).trans (Heap.allocK_eq _ _ _)
  | 19, _ => cases hr; cases ht; exact (q74_19 m b H k).trans (Heap.allocK_eq _ _ _)
  | 20, _ => cases hr; cases ht; exact (q74_20 m b H k).trans (Heap.allocK_eq _ _ _)
  | 21, _ => cases hr; cases ht; exact (q74_21 m b H k).trans (Heap.allocK_eq _ _ _)
  | n + 22, h => omega
end Go.Proofs.YtmmmjhkgjmbfaaaDoor

/- The text of runes (chancelref1.Of). -/
namespace Go.Proofs.YtmmmjhkgjmbfaaaDoor
open Go Go.Vai
set_option maxRecDepth 100000
set_option linter.unusedSimpArgs false
def rn (i : Nat) : Int := (rns[i]?).getD 0
def en (i : Nat) : List UInt8 := (ens[i]?).getD []
theorem rn_at {i : Nat} (h : i < 22) : rns[i]? = some (rn i) := by unfold rn; rw [List.getElem?_eq_getElem (by exact h)]; rfl
theorem en_at {i : Nat} (h : i < 22) : ens[i]? = some (en i) := by unfold en; rw [List.getElem?_eq_getElem (by exact h)]; rfl
def rcs (l : List Nat) : List AV := l.map fun i => .i .i32 (rn i)
def txt (l : List Nat) : List UInt8 := l.flatMap en
theorem rcs_len {l : List Nat} : (rcs l).length = l.length := List.length_map _
theorem en_le {i : Nat} (h : i < 22) : (en i).length ≤ 4 := by
  have : ∀ i, i < 22 → (en i).length ≤ 4 := by decide
  exact this i h
theorem txt_le : ∀ {l : List Nat}, (∀ i ∈ l, i < 22) → (txt l).length ≤ 4 * l.length
  | [], _ => Nat.le_refl _
  | i :: l, h => by
    have h1 := en_le (h i (List.mem_cons_self ..))
    have h2 := txt_le fun j hj => h j (List.mem_cons_of_mem _ hj)
    show (en i ++ txt l).length ≤ _
    rw [List.length_append, List.length_cons]; omega
theorem txt_app {l l' : List Nat} : txt (l ++ l') = txt l ++ txt l' := List.flatMap_append
theorem _root_.Go.Vai.Held.len {R : Type} {H0 H H' : Heap} {e sz len : Nat} {x : AV} {l : List AV} {k : HK R} (h : Held H0 H e sz x len l) : lenC false x k H' = k (.i .i64 len) H' := by
  obtain ⟨rfl, rfl, _⟩ | ⟨a, rfl, _⟩ := h <;> rfl
noncomputable abbrev Lp63 : AC := (.loop (.seq (.seq (.ops [O 6 (.mv (T 5)), O 7 (.mv (T 0)), O 8 (.len false (T 7)), O 9 (.bin .lss .no (T 6) (T 8))]) (.cond (T 9) .skip (.exit 0))) (.seq (.block 1 (.seq (.seq (.ops [O 12 (.mv (T 0)), O 13 (.mv (T 5)), O 14 (.ixa 1 (T 12) (T 13)), O 15 (.ld false 1 (T 14)), O 16 (.call (toPa 73) [(T 15)]), O 17 (.not (T 16))]) (.cond (T 17) (.seq (.ops [O 2 (.mv (K (str []))), O 3 (.mv (K (.i .i64 11)))]) .ret) .skip)) (.ops [O 18 (.mv (T 4)), O 19 (.mv (T 0)), O 20 (.mv (T 5)), O 21 (.ixa 1 (T 19) (T 20)), O 22 (.ld false 1 (T 21)), O 23 (.call (toPa 74) [(T 18), (T 22)]), O 4 (.mv (T 23))]))) (.ops [O 10 (.mv (T 5)), O 11 (.bin .add .no (T 10) (K (.i .i64 1))), O 5 (.mv (T 11))]))))
structure Inv63 (Hb H0 : Heap) (e : Nat) (x : AV) (done rest : List Nat) (fr : Tr AV) (H : Heap) : Prop where
  x : V fr 0 = x
  i : V fr 5 = .i .i64 done.length
  g : Grow H0 H
  b : Held H0 H 5 1 (V fr 4) (txt done).length (bcs (txt done))
theorem step63 {Hb H0 : Heap} {e : Nat} {x : AV} {done rest : List Nat} {i : Nat} (hi : ∀ j ∈ done ++ i :: rest, j < 22) (hx : Held Hb H0 e 1 x (done ++ i :: rest).length (rcs (done ++ i :: rest))) (hn : (done ++ i :: rest).length ≤ 1000)
    {fr : Tr AV} {H : Heap} (inv : Inv63 Hb H0 e x done (i :: rest) fr H) :
    ∃ fr' H', Inv63 Hb H0 e x (done ++ [i]) rest fr' H' ∧ ∀ M, 100 ≤ M → ∀ (R : Type) (k : XK R), runK tbl (M + 1) R Lp63 fr H k = runK tbl M R Lp63 fr' H' k := by
  have hi22 : i < 22 := hi i (by simp)
  have hlen : (done ++ i :: rest).length = done.length + rest.length + 1 := by simp; omega
  have ht : (txt done ++ en i).length ≤ roomN := by
    have h1 := txt_le fun j hj => hi j (List.mem_append_left _ hj)
    have h2 := en_le hi22
    rw [List.length_append]
    have : (4004 : Nat) ≤ roomN := by decide
    omega
  obtain ⟨H', b', g', n', hb', eq⟩ := s74 i hi22 (rn_at hi22) (en_at hi22) inv.b inv.g ht
  obtain ⟨hxn, hz, _⟩ | ⟨a, hxa, _, hrow, _, ha⟩ := hx
  · omega
  have hrow' := hrow.grow inv.g ha
  have hcell : (rcs (done ++ i :: rest))[done.length]? = some (.i .i32 (rn i)) := by
    unfold rcs; rw [List.getElem?_map, List.getElem?_append_right (Nat.le_refl _), Nat.sub_self]; rfl
  have hlt : ((done.length : Int) < ((done ++ i :: rest).length : Int)) := by omega
  have hw : IntKind.i64.wrap ((done.length : Int) + 1) = ((done ++ [i]).length : Int) := by rw [wrap_i64 (by omega) (by omega)]; simp
  have e1 : txt (done ++ [i]) = txt done ++ en i := by rw [txt_app]; simp [txt]
  have h0 := inv.x
  have h5 := inv.i
  refine ⟨?fr1, H', ⟨?p0, ?p5, g', ?p4⟩, fun M hM R k => ?e⟩
  case e =>
    obtain ⟨m, rfl⟩ : ∃ m, M = m + 100 := ⟨M - 100, by omega⟩
    unfold Lp63
    rw [run_loop]
    simp only [EX, reduceIte, Nat.reduceEqDiff, Nat.reduceAdd, Int.reduceEq, Int.reduceLT, Int.reduceLE, reduceCtorEq, Nat.reduceLeDiff, Nat.reduceSub, Nat.reduceLT, h0, h5, hxa, hlt]
    rw [ixa_sl (by omega) hlt]
    simp only [EX, reduceIte, Nat.reduceEqDiff, Nat.reduceAdd, Int.reduceEq, Int.reduceLT, Int.reduceLE, reduceCtorEq, Nat.reduceLeDiff, Nat.reduceSub, Nat.reduceLT]
    rw [hrow'.ld (by rw [Nat.zero_add, Nat.mul_one]; exact hcell)]
    simp only [EX, reduceIte, Nat.reduceEqDiff, Nat.reduceAdd, Int.reduceEq, Int.reduceLT, Int.reduceLE, reduceCtorEq, Nat.reduceLeDiff, Nat.reduceSub, Nat.reduceLT]
    rw [s73 i hi22 (rn_at hi22) (by omega)]
    simp only [EX, reduceIte, Nat.reduceEqDiff, Nat.reduceAdd, Int.reduceEq, Int.reduceLT, Int.reduceLE, reduceCtorEq, Nat.reduceLeDiff, Nat.reduceSub, Nat.reduceLT, h0, h5, hxa]
    rw [ixa_sl (by omega) hlt]
    simp only [EX, reduceIte, Nat.reduceEqDiff, Nat.reduceAdd, Int.reduceEq, Int.reduceLT, Int.reduceLE, reduceCtorEq, Nat.reduceLeDiff, Nat.reduceSub, Nat.reduceLT]
    rw [hrow'.ld (by rw [Nat.zero_add, Nat.mul_one]; exact hcell)]
    simp only [EX, reduceIte, Nat.reduceEqDiff, Nat.reduceAdd, Int.reduceEq, Int.reduceLT, Int.reduceLE, reduceCtorEq, Nat.reduceLeDiff, Nat.reduceSub, Nat.reduceLT]
    rw [eq _ (by omega)]
    simp only [EX, reduceIte, Nat.reduceEqDiff, Nat.reduceAdd, Int.reduceEq, Int.reduceLT, Int.reduceLE, reduceCtorEq, Nat.reduceLeDiff, Nat.reduceSub, Nat.reduceLT, h5, i_add]
    rw [hw]
  case p0 => simp only [V_S, Nat.reduceEqDiff, reduceIte]; exact h0
  case p5 => simp only [V_S, Nat.reduceEqDiff, reduceIte]
  case p4 => simp only [V_S, Nat.reduceEqDiff, reduceIte]; rw [e1]; exact hb'
theorem loop63 {Hb H0 : Heap} {e : Nat} {x : AV} : ∀ (rest done : List Nat) (fr : Tr AV) (H : Heap), (∀ j ∈ done ++ rest, j < 22) → Held Hb H0 e 1 x (done ++ rest).length (rcs (done ++ rest)) → (done ++ rest).length ≤ 1000 → Inv63 Hb H0 e x done rest fr H →
    ∃ fr' H', Grow H0 H' ∧ Held H0 H' 5 1 (V fr' 4) (txt (done ++ rest)).length (bcs (txt (done ++ rest))) ∧ ∀ M, 100 + rest.length ≤ M → ∀ (R : Type) (k : XK R), runK tbl M R Lp63 fr H k = k (.exit 0) fr' H'
  | [], done, fr, H, hi, hx, hn, inv => by
    rw [List.append_nil] at hx ⊢
    have h0 := inv.x
    have h5 := inv.i
    refine ⟨?fr1, H, inv.g, ?p4, fun M hM R k => ?e⟩
    case e =>
      obtain ⟨m, rfl⟩ : ∃ m, M = m + 100 := ⟨M - 100, by omega⟩
      unfold Lp63
      rw [run_loop]
      simp only [EX, reduceIte, Nat.reduceEqDiff, Nat.reduceAdd, Int.reduceEq, Int.reduceLT, Int.reduceLE, reduceCtorEq, Nat.reduceLeDiff, Nat.reduceSub, Nat.reduceLT, h0, h5, hx.len, Int.lt_irrefl]
      exact rfl
    case p4 => simp only [V_S, Nat.reduceEqDiff, reduceIte]; exact inv.b
  | i :: rest, done, fr, H, hi, hx, hn, inv => by
    obtain ⟨fr1, H1, inv1, eq1⟩ := step63 hi hx hn inv
    have ea : done ++ i :: rest = done ++ [i] ++ rest := by simp
    obtain ⟨fr2, H2, g2, b2, eq2⟩ := loop63 rest (done ++ [i]) fr1 H1 (by rw [← ea]; exact hi) (by rw [← ea]; exact hx) (by rw [← ea]; exact hn) inv1
    rw [← ea] at b2
    refine ⟨fr2, H2, g2, b2, fun M hM R k => ?_⟩
    rw [List.length_cons] at hM
    obtain ⟨m, rfl⟩ : ∃ m, M = m + 1 := ⟨M - 1, by omega⟩
    rw [eq1 m (by omega), eq2 m (by omega)]
theorem s63 {Hb H : Heap} {e : Nat} {x : AV} {l : List Nat} (hi : ∀ j ∈ l, j < 22) (hx : Held Hb H e 1 x l.length (rcs l)) (hn : l.length ≤ 1000) : Tells 63 1200 [x] H (.tu [str (txt l), .i .i64 0]) := by
  obtain ⟨fr', H', g, b, eq⟩ := loop63 (Hb := Hb) (H0 := H) (e := e) (x := x) l [] (S (S (S (S (S .leaf 0 x) 2 (str [])) 3 (.i .i64 0)) 4 .ns) 5 (.i .i64 0)) H hi hx hn
    ⟨by simp only [V_S, Nat.reduceEqDiff, reduceIte], by simp only [V_S, Nat.reduceEqDiff, reduceIte]; rfl, Grow.refl H, by simp only [V_S, Nat.reduceEqDiff, reduceIte]; exact Held.init H H 5 1⟩
  refine ⟨H', g, fun M hM R k => ?_⟩
  obtain ⟨m, rfl⟩ : ∃ m, M = m + 1200 := ⟨M - 1200, by omega⟩
  rw [call_eq L63]
  unfold B63
  simp only [EX, reduceIte, Nat.reduceEqDiff, Nat.reduceAdd, Int.reduceEq, Int.reduceLT, Int.reduceLE, reduceCtorEq, Nat.reduceLeDiff, Nat.reduceSub, Nat.reduceLT]
  rw [eq _ (by omega)]
  simp only [EX, reduceIte, Nat.reduceEqDiff, Nat.reduceAdd, Int.reduceEq, Int.reduceLT, Int.reduceLE, reduceCtorEq, Nat.reduceLeDiff, Nat.reduceSub, Nat.reduceLT]
  rw [b.b2s]
  simp only [EX, reduceIte, Nat.reduceEqDiff, Nat.reduceAdd, Int.reduceEq, Int.reduceLT, Int.reduceLE, reduceCtorEq, Nat.reduceLeDiff, Nat.reduceSub, Nat.reduceLT]
  exact rfl
end Go.Proofs.YtmmmjhkgjmbfaaaDoor

/- The text of numbers that pick runes (chancellaw1.Of), of some of them (id). -/
namespace Go.Proofs.YtmmmjhkgjmbfaaaDoor
open Go Go.Vai
set_option maxRecDepth 100000
set_option linter.unusedSimpArgs false
/-- A row of numbers as it is given: in a block that may be another's, too. -/
def Ints (H : Heap) (x : AV) (l : List Int) : Prop :=
  (x = .ns ∧ l = []) ∨ ∃ a off ro fz e size c, x = .sl a off l.length none 1 ∧ a.toN < H.next.toN ∧ H.get a = .cells ro fz e size c ∧ off + l.length ≤ size ∧ ∀ j, j < l.length → Tr.get .u c (toPa (off + j)) = .i .i64 ((l[j]?).getD 0)
theorem Ints.grow {H H' : Heap} {x : AV} {l : List Int} (h : Ints H x l) (g : Grow H H') : Ints H' x l := by
  obtain h | ⟨a, off, ro, fz, e, size, c, hx, ha, h1, h2, h3⟩ := h
  · exact Or.inl h
  · exact Or.inr ⟨a, off, ro, fz, e, size, c, hx, Nat.lt_of_lt_of_le ha g.next, by rw [g.get a ha, h1], h2, h3⟩
theorem Ints.len {R : Type} {H H' : Heap} {x : AV} {l : List Int} {k : HK R} (h : Ints H x l) : lenC false x k H' = k (.i .i64 l.length) H' := by
  obtain ⟨rfl, rfl⟩ | ⟨a, off, ro, fz, e, size, c, rfl, _⟩ := h <;> rfl
/-- A number of it, read. -/
theorem Ints.at {H : Heap} {x : AV} {l : List Int} (h : Ints H x l) {j : Nat} (hj : j < l.length) :
    ∃ p, (∀ (R : Type) (k : HK R) (H' : Heap), ixaC 1 x (.i .i64 j) k H' = k p H') ∧ ∀ (R : Type) (k : HK R), ldC false 1 p k H = k (.i .i64 ((l[j]?).getD 0)) H := by
  obtain ⟨rfl, rfl⟩ | ⟨a, off, ro, fz, e, size, c, rfl, ha, h1, h2, h3⟩ := h
  · exact absurd hj (Nat.not_lt_zero _)
  · refine ⟨.p a (off + j), fun R k H' => ?_, fun R k => ?_⟩
    · rw [ixa_sl (by omega) (by omega), Int.toNat_natCast, Nat.mul_one]
    · rw [ld_one h1 (by omega), h3 j hj]
def ix (n : Int) : Nat := (n % 22).toNat
theorem int22 : ((22 : Nat) : Int) = 22 := id rfl
theorem ix_lt (n : Int) : ix n < 22 := by
  have h1 := Int.emod_nonneg n (b := 22) (by decide)
  have h2 := Int.emod_lt_of_pos n (b := 22) (by decide)
  unfold ix; omega
noncomputable abbrev Lp43 : AC := (.loop (.seq (.seq (.ops [O 9 (.mv (T 5)), O 10 (.mv (T 0)), O 11 (.len false (T 10)), O 12 (.bin .lss .no (T 9) (T 11)), O 13 (.mv (T 12)), G 14 13 true (.mv (T 5)), G 15 13 true (.bin .lss .no (T 14) (K (.i .i64 40))), O 16 (.pick (T 13) (T 15) (K (.b false)))]) (.cond (T 16) .skip (.exit 0))) (.seq (.block 1 (.ops [O 19 (.mv (T 4)), O 20 (.mv (T 3)), O 21 (.mv (T 0)), O 22 (.mv (T 5)), O 23 (.ixa 1 (T 21) (T 22)), O 24 (.ld false 1 (T 23)), O 25 (.mv (T 3)), O 26 (.len false (T 25)), O 27 (.call (toPa 62) [(T 24), (T 26)]), O 28 (.ixa 1 (T 20) (T 27)), O 29 (.ld false 1 (T 28)), O 30 (.bsl 21 1 1 [(.i .i32 0)] [(0, 1, (T 29))]), O 31 (.app 21 1 4 (T 19) (T 30)), O 4 (.mv (T 31))])) (.ops [O 17 (.mv (T 5)), O 18 (.bin .add .no (T 17) (K (.i .i64 1))), O 5 (.mv (T 18))]))))
structure Inv43 (t : Pa) (H0 : Heap) (x : AV) (done : List Int) (fr : Tr AV) (H : Heap) : Prop where
  x : V fr 0 = x
  t : V fr 3 = .sl t 0 22 (some 22) 1
  i : V fr 5 = .i .i64 done.length
  g : Grow H0 H
  b : Held H0 H 21 1 (V fr 4) done.length (rcs (done.map ix))
def rtab : List AV := rns.map (.i .i32)
theorem rtab_at (n : Int) : rtab[(n % 22).toNat]? = some (.i .i32 (rn (ix n))) := by
  unfold rtab; rw [List.getElem?_map]; show Option.map _ rns[ix n]? = _; rw [rn_at (ix_lt n)]; rfl
theorem step43 {t : Pa} {H0 : Heap} {x : AV} {done rest : List Int} {v : Int} (hx : Ints H0 x (done ++ v :: rest)) (ht : Row H0 t 21 rtab) (htn : t.toN < H0.next.toN) (hn : (done ++ v :: rest).length ≤ 40)
    {fr : Tr AV} {H : Heap} (inv : Inv43 t H0 x done fr H) :
    ∃ fr' H', Inv43 t H0 x (done ++ [v]) fr' H' ∧ ∀ M, 100 ≤ M → ∀ (R : Type) (k : XK R), runK tbl (M + 1) R Lp43 fr H k = runK tbl M R Lp43 fr' H' k := by
  have hlen : (done ++ v :: rest).length = done.length + rest.length + 1 := by simp; omega
  have hx' := hx.grow inv.g
  obtain ⟨p, hp, hv⟩ := hx'.at (j := done.length) (by omega)
  have hcell : ((done ++ v :: rest)[done.length]?).getD 0 = v := by rw [List.getElem?_append_right (Nat.le_refl _), Nat.sub_self]; rfl
  rw [hcell] at hv
  have ht' := ht.grow inv.g htn
  have gA : Grow H (H.alloc (.cells false 0 21 1 (setCells [.i .i32 (rn (ix v))] 0 .leaf))) := Grow.alloc H _
  obtain ⟨H', g', n', hb', eq⟩ := (inv.b.grow gA).app (bytes := 4) (n := 0) (ys := [.i .i32 (rn (ix v))]) (inv.g.trans gA) (by decide) rfl (by intro y hy; rw [List.mem_singleton.mp hy]; rfl)
    (by have : (164 : Nat) ≤ roomN := by decide
        omega)
  have hlt : ((done.length : Int) < ((done ++ v :: rest).length : Int)) := by omega
  have hlt40 : ((done.length : Int) < 40) := by omega
  have hw : IntKind.i64.wrap ((done.length : Int) + 1) = ((done ++ [v]).length : Int) := by rw [wrap_i64 (by omega) (by omega)]; simp
  have e1 : rcs ((done ++ [v]).map ix) = rcs (done.map ix) ++ [.i .i32 (rn (ix v))] := by simp [rcs]
  have e2 : (done ++ [v]).length = done.length + (0 + 1) := by simp
  have h0 := inv.x
  have h5 := inv.i
  have h3 := inv.t
  have m1 := Int.emod_nonneg v (b := 22) (by decide)
  have m2 := Int.emod_lt_of_pos v (b := 22) (by decide)
  refine ⟨?fr1, H', ⟨?p0, ?p3, ?p5, g', ?p4⟩, fun M hM R k => ?e⟩
  case e =>
    obtain ⟨m, rfl⟩ : ∃ m, M = m + 100 := ⟨M - 100, by omega⟩
    unfold Lp43
    rw [run_loop]
    simp only [EX, reduceIte, Nat.reduceEqDiff, Nat.reduceAdd, Int.reduceEq, Int.reduceLT, Int.reduceLE, reduceCtorEq, Nat.reduceLeDiff, Nat.reduceSub, Nat.reduceLT, h0, h5, hx.len, hlt, hlt40]
    rw [hp]
    simp only [EX, reduceIte, Nat.reduceEqDiff, Nat.reduceAdd, Int.reduceEq, Int.reduceLT, Int.reduceLE, reduceCtorEq, Nat.reduceLeDiff, Nat.reduceSub, Nat.reduceLT]
    rw [hv]
    simp only [EX, reduceIte, Nat.reduceEqDiff, Nat.reduceAdd, Int.reduceEq, Int.reduceLT, Int.reduceLE, reduceCtorEq, Nat.reduceLeDiff, Nat.reduceSub, Nat.reduceLT, h3, int22]
    rw [s62 (by decide) (by decide) (by omega)]
    simp only [EX, reduceIte, Nat.reduceEqDiff, Nat.reduceAdd, Int.reduceEq, Int.reduceLT, Int.reduceLE, reduceCtorEq, Nat.reduceLeDiff, Nat.reduceSub, Nat.reduceLT]
    rw [ixa_sl m1 (by omega)]
    simp only [EX, reduceIte, Nat.reduceEqDiff, Nat.reduceAdd, Int.reduceEq, Int.reduceLT, Int.reduceLE, reduceCtorEq, Nat.reduceLeDiff, Nat.reduceSub, Nat.reduceLT]
    rw [ht'.ld (by rw [Nat.zero_add, Nat.mul_one]; exact rtab_at v)]
    simp only [EX, reduceIte, Nat.reduceEqDiff, Nat.reduceAdd, Int.reduceEq, Int.reduceLT, Int.reduceLE, reduceCtorEq, Nat.reduceLeDiff, Nat.reduceSub, Nat.reduceLT]
    rw [eq R _ _ fun f => src_sl (Row.new H 21 [.i .i32 (rn (ix v))]) (Nat.le_refl _) f]
    simp only [EX, reduceIte, Nat.reduceEqDiff, Nat.reduceAdd, Int.reduceEq, Int.reduceLT, Int.reduceLE, reduceCtorEq, Nat.reduceLeDiff, Nat.reduceSub, Nat.reduceLT, h5, i_add]
    rw [hw]
  case p0 => simp only [V_S, Nat.reduceEqDiff, reduceIte]; exact h0
  case p3 => simp only [V_S, Nat.reduceEqDiff, reduceIte]; exact h3
  case p5 => simp only [V_S, Nat.reduceEqDiff, reduceIte]
  case p4 => simp only [V_S, Nat.reduceEqDiff, reduceIte]; rw [e1, e2]; exact hb'
theorem loop43 {t : Pa} {H0 : Heap} {x : AV} (ht : Row H0 t 21 rtab) (htn : t.toN < H0.next.toN) : ∀ (rest done : List Int) (fr : Tr AV) (H : Heap), Ints H0 x (done ++ rest) → (done ++ rest).length ≤ 40 → Inv43 t H0 x done fr H →
    ∃ fr' H', Inv43 t H0 x (done ++ rest) fr' H' ∧ ∀ M, 100 + rest.length ≤ M → ∀ (R : Type) (k : XK R), runK tbl M R Lp43 fr H k = k (.exit 0) fr' H'
  | [], done, fr, H, hx, hn, inv => by
    rw [List.append_nil] at hx hn ⊢
    have h0 := inv.x
    have h5 := inv.i
    refine ⟨?fr1, H, ⟨?p0, ?p3, ?p5, inv.g, ?p4⟩, fun M hM R k => ?e⟩
    case e =>
      obtain ⟨m, rfl⟩ : ∃ m, M = m + 100 := ⟨M - 100, by omega⟩
      unfold Lp43
      rw [run_loop]
      simp only [EX, reduceIte, Nat.reduceEqDiff, Nat.reduceAdd, Int.reduceEq, Int.reduceLT, Int.reduceLE, reduceCtorEq, Nat.reduceLeDiff, Nat.reduceSub, Nat.reduceLT, h0, h5, hx.len, Int.lt_irrefl]
      exact rfl
    case p0 => simp only [V_S, Nat.reduceEqDiff, reduceIte]; exact h0
    case p3 => simp only [V_S, Nat.reduceEqDiff, reduceIte]; exact inv.t
    case p5 => simp only [V_S, Nat.reduceEqDiff, reduceIte]; exact h5
    case p4 => simp only [V_S, Nat.reduceEqDiff, reduceIte]; exact inv.b
  | v :: rest, done, fr, H, hx, hn, inv => by
    obtain ⟨fr1, H1, inv1, eq1⟩ := step43 hx ht htn hn inv
    have ea : done ++ v :: rest = done ++ [v] ++ rest := by simp
    obtain ⟨fr2, H2, inv2, eq2⟩ := loop43 ht htn rest (done ++ [v]) fr1 H1 (by rw [← ea]; exact hx) (by rw [← ea]; exact hn) inv1
    rw [← ea] at inv2
    refine ⟨fr2, H2, inv2, fun M hM R k => ?_⟩
    rw [List.length_cons] at hM
    obtain ⟨m, rfl⟩ : ∃ m, M = m + 1 := ⟨M - 1, by omega⟩
    rw [eq1 m (by omega), eq2 m (by omega)]
/-- The text that numbers make. -/
def tx (l : List Int) : List UInt8 := txt (l.map ix)
theorem s43 {H : Heap} {x : AV} {l : List Int} (hx : Ints H x l) (hn : l.length ≤ 40) : Tells 43 1500 [x] H (str (tx l)) := by
  have gA := Grow.alloc H (.cells false 0 21 22 (setCells rtab 0 .leaf))
  obtain ⟨fr', H1, inv, eq⟩ := loop43 (t := H.next) (x := x) (Row.new H 21 rtab) (by rw [next_alloc]; omega) l []
    (S (S (S (S (S (S .leaf 0 x) 2 (str [])) 8 (.sl H.next 0 22 (some 22) 1)) 3 (.sl H.next 0 22 (some 22) 1)) 4 .ns) 5 (.i .i64 0)) (H.alloc (.cells false 0 21 22 (setCells rtab 0 .leaf))) (hx.grow gA) hn
    ⟨by simp only [V_S, Nat.reduceEqDiff, reduceIte], by simp only [V_S, Nat.reduceEqDiff, reduceIte], by simp only [V_S, Nat.reduceEqDiff, reduceIte]; rfl, Grow.refl _, by simp only [V_S, Nat.reduceEqDiff, reduceIte]; exact Held.init _ _ 21 1⟩
  rw [List.nil_append] at inv
  obtain ⟨H2, g2, eq2⟩ := s63 (l := l.map ix) (fun j hj => by obtain ⟨n, _, rfl⟩ := List.mem_map.mp hj; exact ix_lt n) (by rw [List.length_map]; exact inv.b) (by rw [List.length_map]; omega)
  refine ⟨H2, (gA.trans inv.g).trans g2, fun M hM R k => ?_⟩
  obtain ⟨m, rfl⟩ : ∃ m, M = m + 1500 := ⟨M - 1500, by omega⟩
  rw [call_eq L43]
  unfold B43
  simp only [EX, reduceIte, Nat.reduceEqDiff, Nat.reduceAdd, Int.reduceEq, Int.reduceLT, Int.reduceLE, reduceCtorEq, Nat.reduceLeDiff, Nat.reduceSub, Nat.reduceLT]
  refine Eq.trans (eq (m + 1494) (by omega) R _) ?_
  simp only [EX, reduceIte, Nat.reduceEqDiff, Nat.reduceAdd, Int.reduceEq, Int.reduceLT, Int.reduceLE, reduceCtorEq, Nat.reduceLeDiff, Nat.reduceSub, Nat.reduceLT]
  rw [eq2 _ (by omega)]
  simp only [EX, reduceIte, Nat.reduceEqDiff, Nat.reduceAdd, Int.reduceEq, Int.reduceLT, Int.reduceLE, reduceCtorEq, Nat.reduceLeDiff, Nat.reduceSub, Nat.reduceLT]
  exact rfl
theorem s20 {H : Heap} {x : AV} {l : List Int} (hx : Ints H x l) : Tells 20 1600 [x] H (str (tx (l.take 8))) := by
  by_cases h : l.length ≤ 8
  · have hl : l.take 8 = l := List.take_of_length_le h
    rw [hl]
    obtain ⟨H', g, eq⟩ := s43 hx (by omega)
    refine ⟨H', g, fun M hM R k => ?_⟩
    obtain ⟨m, rfl⟩ : ∃ m, M = m + 1600 := ⟨M - 1600, by omega⟩
    rw [call_eq L20]
    unfold B20
    have hn : ¬ (8 : Int) < (l.length : Int) := by omega
    simp only [EX, reduceIte, Nat.reduceEqDiff, Nat.reduceAdd, Int.reduceEq, Int.reduceLT, Int.reduceLE, reduceCtorEq, Nat.reduceLeDiff, Nat.reduceSub, Nat.reduceLT, hx.len, hn]
    rw [eq _ (by omega)]
    simp only [EX, reduceIte, Nat.reduceEqDiff, Nat.reduceAdd, Int.reduceEq, Int.reduceLT, Int.reduceLE, reduceCtorEq, Nat.reduceLeDiff, Nat.reduceSub, Nat.reduceLT]
  · obtain ⟨rfl, rfl⟩ | ⟨a, off, ro, fz, e, size, c, rfl, ha, h1, h2, h3⟩ := hx
    · exact absurd (Nat.zero_le 8) h
    have hl : (l.take 8).length = 8 := by rw [List.length_take]; omega
    have hx8 : Ints H (.sl a off 8 none 1) (l.take 8) := Or.inr ⟨a, off, ro, fz, e, size, c, by rw [hl], ha, h1, by omega, fun j hj => by rw [h3 j (by omega), List.getElem?_take_of_lt (by omega)]⟩
    obtain ⟨H', g, eq⟩ := s43 hx8 (by omega)
    refine ⟨H', g, fun M hM R k => ?_⟩
    obtain ⟨m, rfl⟩ : ∃ m, M = m + 1600 := ⟨M - 1600, by omega⟩
    rw [call_eq L20]
    unfold B20
    have hn : (8 : Int) < (l.length : Int) := by omega
    simp only [EX, reduceIte, Nat.reduceEqDiff, Nat.reduceAdd, Int.reduceEq, Int.reduceLT, Int.reduceLE, reduceCtorEq, Nat.reduceLeDiff, Nat.reduceSub, Nat.reduceLT, hn]
    rw [sll_to (by decide) (by omega), show Int.toNat 8 = 8 from rfl]
    simp only [EX, reduceIte, Nat.reduceEqDiff, Nat.reduceAdd, Int.reduceEq, Int.reduceLT, Int.reduceLE, reduceCtorEq, Nat.reduceLeDiff, Nat.reduceSub, Nat.reduceLT]
    rw [eq _ (by omega)]
    simp only [EX, reduceIte, Nat.reduceEqDiff, Nat.reduceAdd, Int.reduceEq, Int.reduceLT, Int.reduceLE, reduceCtorEq, Nat.reduceLeDiff, Nat.reduceSub, Nat.reduceLT]
end Go.Proofs.YtmmmjhkgjmbfaaaDoor

/- A uid of a number and a text's numbers (chancellaw5.Uid). -/
namespace Go.Proofs.YtmmmjhkgjmbfaaaDoor
open Go Go.Vai
set_option maxRecDepth 100000
set_option linter.unusedSimpArgs false
def uts : List (List UInt8) := [[85, 115, 101, 114], [71, 114, 111, 117, 112], [68, 111, 99], [65, 99, 116, 105, 111, 110], [105, 102]]
def ut (a : Int) : List UInt8 := (uts[(a % 5).toNat]?).getD []
theorem ut_at (a : Int) : (uts.map str)[(a % 5).toNat]? = some (str (ut a)) := by
  have h1 := Int.emod_nonneg a (b := 5) (by decide)
  have h2 := Int.emod_lt_of_pos a (b := 5) (by decide)
  rw [List.getElem?_map]; unfold ut
  rw [List.getElem?_eq_getElem (by show _ < 5; omega)]; rfl
theorem int5 : ((5 : Nat) : Int) = 5 := id rfl
theorem s42 {H : Heap} (hf : Fresh H) {n : Int} {x : AV} {l : List Int} (hx : Ints H x l) : Tells 42 1800 [.i .i64 n, x] H (.ag [str (ut n), str (tx (l.take 8))]) := by
  have h1 := Int.emod_nonneg n (b := 5) (by decide)
  have h2 := Int.emod_lt_of_pos n (b := 5) (by decide)
  obtain ⟨H1, e1⟩ : ∃ H1, H1 = H.alloc (.cells false 0 29 2 (setCells [str [], str []] 0 .leaf)) := ⟨_, rfl⟩
  have g1 : Grow H H1 := by rw [e1]; exact Grow.alloc H _
  have g2 : Grow H1 (H1.bump 1) := Grow.bump 1 H1
  have r1 : Row H1 H.next 29 [str [], str []] := by rw [e1]; exact Row.new H 29 [str [], str []]
  have n1 : H1.next.toN = H.next.toN + 1 := by rw [e1]; exact next_alloc H _
  have en : H.next.succ = H1.next := by rw [e1]
  have n2 : (H1.bump 1).next.toN = H1.next.toN + 1 := next_bump
  obtain ⟨H3, g3, eq⟩ := s20 (hx.grow (g1.trans g2))
  have g13 := (g1.trans g2).trans g3
  have n3 := g3.next
  have hd : H3.get H1.next = .dead := by
    rw [g3.get _ (by omega), get_bump]
    exact g1.dead hf _ (Nat.le_refl _)
  obtain ⟨H4, e4⟩ : ∃ H4, H4 = H3.put H1.next (.cells false 0 9 5 (setCells (uts.map str) 0 .leaf)) := ⟨_, rfl⟩
  have g4 : Grow H1 H4 := by rw [e4]; exact (g2.trans g3).put (Nat.le_refl _) (by omega) _
  have n4 : H4.next = H3.next := e4 ▸ next_put
  have r4 : Row H4 H1.next 9 (uts.map str) := by rw [e4]; exact ⟨_, get_put, fun j _ => cell_at _ j⟩
  have r14 := r1.grow g4 (by omega)
  obtain ⟨H5, r5, b5, n5, est⟩ := r14.st_all (n := 2) (ys := [str (ut n), str (tx (l.take 8))]) (by rw [n4]; omega) rfl rfl (by intro v hv; simp at hv; rcases hv with rfl | rfl <;> exact one_str)
  refine ⟨H5, b5.of (g1.trans g4) (Nat.le_refl _), fun M hM R k => ?e⟩
  case e =>
    obtain ⟨m, rfl⟩ : ∃ m, M = m + 1800 := ⟨M - 1800, by omega⟩
    rw [call_eq L42]
    unfold B42
    simp only [EX, reduceIte, Nat.reduceEqDiff, Nat.reduceAdd, Int.reduceEq, Int.reduceLT, Int.reduceLE, reduceCtorEq, Nat.reduceLeDiff, Nat.reduceSub, Nat.reduceLT, s18, int5]
    rw [← e1, en, eq _ (by omega)]
    simp only [EX, reduceIte, Nat.reduceEqDiff, Nat.reduceAdd, Int.reduceEq, Int.reduceLT, Int.reduceLE, reduceCtorEq, Nat.reduceLeDiff, Nat.reduceSub, Nat.reduceLT]
    have e4' : H3.put H1.next (.cells false 0 9 5 (setCells [str [85, 115, 101, 114], str [71, 114, 111, 117, 112], str [68, 111, 99], str [65, 99, 116, 105, 111, 110], str [105, 102]] 0 .leaf)) = H4 := e4.symm
    rw [e4', ixa_sl h1 (by omega)]
    simp only [EX, reduceIte, Nat.reduceEqDiff, Nat.reduceAdd, Int.reduceEq, Int.reduceLT, Int.reduceLE, reduceCtorEq, Nat.reduceLeDiff, Nat.reduceSub, Nat.reduceLT]
    rw [r4.ld (by rw [Nat.zero_add, Nat.mul_one]; exact ut_at n)]
    simp only [EX, reduceIte, Nat.reduceEqDiff, Nat.reduceAdd, Int.reduceEq, Int.reduceLT, Int.reduceLE, reduceCtorEq, Nat.reduceLeDiff, Nat.reduceSub, Nat.reduceLT]
    rw [read_hm (by decide) (home_ld (a := H1.next) (off := 0 + (n % 5).toNat * 1) (by simp only [ev_T, V_S, Nat.reduceEqDiff, reduceIte]) hd)]
    simp only [EX, reduceIte, Nat.reduceEqDiff, Nat.reduceAdd, Int.reduceEq, Int.reduceLT, Int.reduceLE, reduceCtorEq, Nat.reduceLeDiff, Nat.reduceSub, Nat.reduceLT]
    rw [est]
    simp only [EX, reduceIte, Nat.reduceEqDiff, Nat.reduceAdd, Int.reduceEq, Int.reduceLT, Int.reduceLE, reduceCtorEq, Nat.reduceLeDiff, Nat.reduceSub, Nat.reduceLT]
    rw [r5.lda (n := 2) rfl]
end Go.Proofs.YtmmmjhkgjmbfaaaDoor

/- Trees as they are made; a leaf (chancellaw5.leaf). -/
namespace Go.Proofs.YtmmmjhkgjmbfaaaDoor
open Go Go.Vai
set_option maxRecDepth 100000
set_option linter.unusedSimpArgs false
/-- A tree. -/
inductive Ex where
  | mk (op : Nat) (b : Bool) (n : Int) (s t d : List UInt8) (kids : List Ex)
/-- What a tree is made of. -/
inductive Rw where
  | mk (op n : Int) (s : List Int) (kids : List Rw)
def ec (op : Nat) (b : Bool) (n : Int) (s t d : List UInt8) (xk : AV) : List AV := [.i .i64 op, .b b, .i .i64 n, str s, str t, str d, xk]
def zs7 : List AV := [.i .i64 0, .b false, .i .i64 0, str [], str [], str [], .ns]
def vrs : List (List UInt8) := [[112, 114, 105, 110, 99, 105, 112, 97, 108], [97, 99, 116, 105, 111, 110], [114, 101, 115, 111, 117, 114, 99, 101]]
def vr (a : Int) : List UInt8 := (vrs[(a % 3).toNat]?).getD []
theorem vr_at (a : Int) : (vrs.map str)[(a % 3).toNat]? = some (str (vr a)) := by
  have h1 := Int.emod_nonneg a (b := 3) (by decide)
  have h2 := Int.emod_lt_of_pos a (b := 3) (by decide)
  rw [List.getElem?_map]; unfold vr
  rw [List.getElem?_eq_getElem (by show _ < 3; omega)]; rfl
def lfc : Nat → Int → List Int → List AV
  | 0, n, _ => ec 1 (decide (n.tmod 2 = 0)) 0 [] [] [] .ns
  | 1, n, _ => ec 2 false (n % 4611686018427387904) [] [] [] .ns
  | 2, _, s => ec 3 false 0 (tx (s.take 8)) [] [] .ns
  | 3, n, s => ec 4 false 0 [] (ut n) (tx (s.take 8)) .ns
  | 4, n, _ => ec 5 false 0 (vr n) [] [] .ns
  | _, _, _ => ec 6 false 0 [] [] [] .ns
theorem ec_one {op : Nat} {b : Bool} {n : Int} {s t d : List UInt8} {xk : AV} (hk : oneC xk = true) : ∀ v ∈ ec op b n s t d xk, oneC v = true := by
  intro v hv
  simp only [ec, List.mem_cons, List.not_mem_nil, or_false] at hv
  rcases hv with rfl | rfl | rfl | rfl | rfl | rfl | rfl
  · exact one_i
  · exact one_b
  · exact one_i
  · exact one_str
  · exact one_str
  · exact one_str
  · exact hk
/-- What stands when a leaf is made: the raw one, the room for it. -/
structure Lf (H H2 : Heap) (p q : Pa) (r : List AV) : Prop where
  g : Grow H H2
  rp : Row H2 p 25 r
  rq : Row H2 q 32 zs7
  pn : H.next.toN ≤ p.toN
  qn : p.toN < q.toN
  nx : q.toN < H2.next.toN
theorem Lf.make (H : Heap) (r : List AV) : Lf H ((H.alloc (.cells false 0 25 r.length (setCells r 0 .leaf))).alloc (.cells false 0 32 zs7.length (setCells zs7 0 .leaf))) H.next H.next.succ r := by
  have g1 := Grow.alloc H (.cells false 0 25 r.length (setCells r 0 .leaf))
  have g2 := Grow.alloc (H.alloc (.cells false 0 25 r.length (setCells r 0 .leaf))) (.cells false 0 32 zs7.length (setCells zs7 0 .leaf))
  have n1 := next_alloc H (.cells false 0 25 r.length (setCells r 0 .leaf))
  have n2 := next_alloc (H.alloc (.cells false 0 25 r.length (setCells r 0 .leaf))) (.cells false 0 32 zs7.length (setCells zs7 0 .leaf))
  have hs : H.next.succ.toN = H.next.toN + 1 := Pa.toN_succ _
  exact ⟨g1.trans g2, (Row.new H 25 r).grow g2 (by omega), Row.new (H.alloc (.cells false 0 25 r.length (setCells r 0 .leaf))) 32 zs7, Nat.le_refl _, by omega, by omega⟩
theorem Lf.grow {H H2 H3 : Heap} {p q : Pa} {r : List AV} (h : Lf H H2 p q r) (g : Grow H2 H3) : Lf H H3 p q r :=
  ⟨h.g.trans g, h.rp.grow g (by have := h.qn; have := h.nx; omega), h.rq.grow g h.nx, h.pn, h.qn, Nat.lt_of_lt_of_le h.nx g.next⟩
/-- The room filled. -/
theorem Lf.fill {H H2 : Heap} {p q : Pa} {r : List AV} (h : Lf H H2 p q r) {ys : List AV} (hl : ys.length = 7) (hy : ∀ v ∈ ys, oneC v = true) :
    ∃ H3, Grow H H3 ∧ Row H3 q 32 ys ∧ ∀ (R : Type) (k : HK R), stC 7 (.p q 0) (.ag ys) k H2 = k un H3 := by
  obtain ⟨H3, r3, b3, n3, e3⟩ := h.rq.st_all (n := 7) (ys := ys) h.nx hl rfl hy
  exact ⟨H3, b3.of h.g (by have := h.pn; have := h.qn; omega), r3, e3⟩
theorem s17_0 {H : Heap} {op n : Int} {xs xk : AV} (h : op % 6 = 0) : Tells 17 2000 [.ag [.i .i64 op, .i .i64 n, xs, xk]] H (.ag (lfc 0 n [])) := by
  have L := Lf.make H [.i .i64 op, .i .i64 n, xs, xk]
  obtain ⟨H2, e2⟩ : ∃ H2, H2 = (H.alloc (.cells false 0 25 4 (setCells [.i .i64 op, .i .i64 n, xs, xk] 0 .leaf))).alloc (.cells false 0 32 7 (setCells zs7 0 .leaf)) := ⟨_, rfl⟩
  have L : Lf H H2 H.next H.next.succ [.i .i64 op, .i .i64 n, xs, xk] := by rw [e2]; exact L
  obtain ⟨H3, g3, r3, e3⟩ := L.fill (ys := lfc 0 n []) rfl (ec_one rfl)
  refine ⟨H3, g3, fun M hM R k => ?e⟩
  case e =>
    obtain ⟨m, rfl⟩ : ∃ m, M = m + 2000 := ⟨M - 2000, by omega⟩
    rw [call_eq L17]
    unfold B17
    simp only [EX, reduceIte, Nat.reduceEqDiff, Nat.reduceAdd, Int.reduceEq, Int.reduceLT, Int.reduceLE, reduceCtorEq, Nat.reduceLeDiff, Nat.reduceSub, Nat.reduceLT]
    rw [show (H.alloc (.cells false 0 25 4 (setCells [.i .i64 op, .i .i64 n, xs, xk] 0 .leaf))).alloc (.cells false 0 32 7 (setCells [.i .i64 0, .b false, .i .i64 0, str [], str [], str [], .ns] 0 .leaf)) = H2 from e2.symm]
    rw [L.rp.ld (off := 0) (v := .i .i64 op) rfl]
    simp only [EX, reduceIte, Nat.reduceEqDiff, Nat.reduceAdd, Int.reduceEq, Int.reduceLT, Int.reduceLE, reduceCtorEq, Nat.reduceLeDiff, Nat.reduceSub, Nat.reduceLT, s18, h]
    rw [L.rp.ld (off := 1) (v := .i .i64 n) rfl]
    simp only [EX, reduceIte, Nat.reduceEqDiff, Nat.reduceAdd, Int.reduceEq, Int.reduceLT, Int.reduceLE, reduceCtorEq, Nat.reduceLeDiff, Nat.reduceSub, Nat.reduceLT, i_rem (show (2 : Int) ≠ 0 by decide)]
    refine (e3 _ _).trans ?_
    simp only [EX, reduceIte, Nat.reduceEqDiff, Nat.reduceAdd, Int.reduceEq, Int.reduceLT, Int.reduceLE, reduceCtorEq, Nat.reduceLeDiff, Nat.reduceSub, Nat.reduceLT]
    rw [r3.lda (n := 7) rfl]
theorem s17_1 {H : Heap} {op n : Int} {xs xk : AV} (h : op % 6 = 1) : Tells 17 2000 [.ag [.i .i64 op, .i .i64 n, xs, xk]] H (.ag (lfc 1 n [])) := by
  have L := Lf.make H [.i .i64 op, .i .i64 n, xs, xk]
  obtain ⟨H2, e2⟩ : ∃ H2, H2 = (H.alloc (.cells false 0 25 4 (setCells [.i .i64 op, .i .i64 n, xs, xk] 0 .leaf))).alloc (.cells false 0 32 7 (setCells zs7 0 .leaf)) := ⟨_, rfl⟩
  have L : Lf H H2 H.next H.next.succ [.i .i64 op, .i .i64 n, xs, xk] := by rw [e2]; exact L
  obtain ⟨H3, g3, r3, e3⟩ := L.fill (ys := lfc 1 n []) rfl (ec_one rfl)
  refine ⟨H3, g3, fun M hM R k => ?e⟩
  case e =>
    obtain ⟨m, rfl⟩ : ∃ m, M = m + 2000 := ⟨M - 2000, by omega⟩
    rw [call_eq L17]
    unfold B17
    simp only [EX, reduceIte, Nat.reduceEqDiff, Nat.reduceAdd, Int.reduceEq, Int.reduceLT, Int.reduceLE, reduceCtorEq, Nat.reduceLeDiff, Nat.reduceSub, Nat.reduceLT]
    rw [show (H.alloc (.cells false 0 25 4 (setCells [.i .i64 op, .i .i64 n, xs, xk] 0 .leaf))).alloc (.cells false 0 32 7 (setCells [.i .i64 0, .b false, .i .i64 0, str [], str [], str [], .ns] 0 .leaf)) = H2 from e2.symm]
    rw [L.rp.ld (off := 0) (v := .i .i64 op) rfl]
    simp only [EX, reduceIte, Nat.reduceEqDiff, Nat.reduceAdd, Int.reduceEq, Int.reduceLT, Int.reduceLE, reduceCtorEq, Nat.reduceLeDiff, Nat.reduceSub, Nat.reduceLT, s18, h]
    rw [L.rp.ld (off := 1) (v := .i .i64 n) rfl]
    simp only [EX, reduceIte, Nat.reduceEqDiff, Nat.reduceAdd, Int.reduceEq, Int.reduceLT, Int.reduceLE, reduceCtorEq, Nat.reduceLeDiff, Nat.reduceSub, Nat.reduceLT, s18]
    refine (e3 _ _).trans ?_
    simp only [EX, reduceIte, Nat.reduceEqDiff, Nat.reduceAdd, Int.reduceEq, Int.reduceLT, Int.reduceLE, reduceCtorEq, Nat.reduceLeDiff, Nat.reduceSub, Nat.reduceLT]
    rw [r3.lda (n := 7) rfl]
theorem s17_2 {H : Heap} {op n : Int} {xs xk : AV} (h : op % 6 = 2) {s : List Int} (hx : Ints H xs s) : Tells 17 2000 [.ag [.i .i64 op, .i .i64 n, xs, xk]] H (.ag (lfc 2 n s)) := by
  have L := Lf.make H [.i .i64 op, .i .i64 n, xs, xk]
  obtain ⟨H2, e2⟩ : ∃ H2, H2 = (H.alloc (.cells false 0 25 4 (setCells [.i .i64 op, .i .i64 n, xs, xk] 0 .leaf))).alloc (.cells false 0 32 7 (setCells zs7 0 .leaf)) := ⟨_, rfl⟩
  have L : Lf H H2 H.next H.next.succ [.i .i64 op, .i .i64 n, xs, xk] := by rw [e2]; exact L
  obtain ⟨H5, g5, eq⟩ := s20 (hx.grow L.g)
  obtain ⟨H3, g3, r3, e3⟩ := (L.grow g5).fill (ys := lfc 2 n s) rfl (ec_one rfl)
  refine ⟨H3, g3, fun M hM R k => ?e⟩
  case e =>
    obtain ⟨m, rfl⟩ : ∃ m, M = m + 2000 := ⟨M - 2000, by omega⟩
    rw [call_eq L17]
    unfold B17
    simp only [EX, reduceIte, Nat.reduceEqDiff, Nat.reduceAdd, Int.reduceEq, Int.reduceLT, Int.reduceLE, reduceCtorEq, Nat.reduceLeDiff, Nat.reduceSub, Nat.reduceLT]
    rw [show (H.alloc (.cells false 0 25 4 (setCells [.i .i64 op, .i .i64 n, xs, xk] 0 .leaf))).alloc (.cells false 0 32 7 (setCells [.i .i64 0, .b false, .i .i64 0, str [], str [], str [], .ns] 0 .leaf)) = H2 from e2.symm]
    rw [L.rp.ld (off := 0) (v := .i .i64 op) rfl]
    simp only [EX, reduceIte, Nat.reduceEqDiff, Nat.reduceAdd, Int.reduceEq, Int.reduceLT, Int.reduceLE, reduceCtorEq, Nat.reduceLeDiff, Nat.reduceSub, Nat.reduceLT, s18, h]
    rw [L.rp.ld (off := 2) (v := xs) rfl]
    simp only [EX, reduceIte, Nat.reduceEqDiff, Nat.reduceAdd, Int.reduceEq, Int.reduceLT, Int.reduceLE, reduceCtorEq, Nat.reduceLeDiff, Nat.reduceSub, Nat.reduceLT]
    rw [eq _ (by omega)]
    simp only [EX, reduceIte, Nat.reduceEqDiff, Nat.reduceAdd, Int.reduceEq, Int.reduceLT, Int.reduceLE, reduceCtorEq, Nat.reduceLeDiff, Nat.reduceSub, Nat.reduceLT]
    refine (e3 _ _).trans ?_
    simp only [EX, reduceIte, Nat.reduceEqDiff, Nat.reduceAdd, Int.reduceEq, Int.reduceLT, Int.reduceLE, reduceCtorEq, Nat.reduceLeDiff, Nat.reduceSub, Nat.reduceLT]
    rw [r3.lda (n := 7) rfl]
theorem s17_3 {H : Heap} (hf : Fresh H) {op n : Int} {xs xk : AV} (h : op % 6 = 3) {s : List Int} (hx : Ints H xs s) : Tells 17 2000 [.ag [.i .i64 op, .i .i64 n, xs, xk]] H (.ag (lfc 3 n s)) := by
  have L := Lf.make H [.i .i64 op, .i .i64 n, xs, xk]
  obtain ⟨H2, e2⟩ : ∃ H2, H2 = (H.alloc (.cells false 0 25 4 (setCells [.i .i64 op, .i .i64 n, xs, xk] 0 .leaf))).alloc (.cells false 0 32 7 (setCells zs7 0 .leaf)) := ⟨_, rfl⟩
  have L : Lf H H2 H.next H.next.succ [.i .i64 op, .i .i64 n, xs, xk] := by rw [e2]; exact L
  obtain ⟨H5, g5, eq⟩ := s42 (n := n) (L.g.dead hf) (hx.grow L.g)
  obtain ⟨H3, g3, r3, e3⟩ := (L.grow g5).fill (ys := lfc 3 n s) rfl (ec_one rfl)
  refine ⟨H3, g3, fun M hM R k => ?e⟩
  case e =>
    obtain ⟨m, rfl⟩ : ∃ m, M = m + 2000 := ⟨M - 2000, by omega⟩
    rw [call_eq L17]
    unfold B17
    simp only [EX, reduceIte, Nat.reduceEqDiff, Nat.reduceAdd, Int.reduceEq, Int.reduceLT, Int.reduceLE, reduceCtorEq, Nat.reduceLeDiff, Nat.reduceSub, Nat.reduceLT]
    rw [show (H.alloc (.cells false 0 25 4 (setCells [.i .i64 op, .i .i64 n, xs, xk] 0 .leaf))).alloc (.cells false 0 32 7 (setCells [.i .i64 0, .b false, .i .i64 0, str [], str [], str [], .ns] 0 .leaf)) = H2 from e2.symm]
    rw [L.rp.ld (off := 0) (v := .i .i64 op) rfl]
    simp only [EX, reduceIte, Nat.reduceEqDiff, Nat.reduceAdd, Int.reduceEq, Int.reduceLT, Int.reduceLE, reduceCtorEq, Nat.reduceLeDiff, Nat.reduceSub, Nat.reduceLT, s18, h]
    rw [L.rp.ld (off := 1) (v := .i .i64 n) rfl]
    simp only [EX, reduceIte, Nat.reduceEqDiff, Nat.reduceAdd, Int.reduceEq, Int.reduceLT, Int.reduceLE, reduceCtorEq, Nat.reduceLeDiff, Nat.reduceSub, Nat.reduceLT]
    rw [L.rp.ld (off := 2) (v := xs) rfl]
    simp only [EX, reduceIte, Nat.reduceEqDiff, Nat.reduceAdd, Int.reduceEq, Int.reduceLT, Int.reduceLE, reduceCtorEq, Nat.reduceLeDiff, Nat.reduceSub, Nat.reduceLT]
    rw [eq _ (by omega)]
    simp only [EX, reduceIte, Nat.reduceEqDiff, Nat.reduceAdd, Int.reduceEq, Int.reduceLT, Int.reduceLE, reduceCtorEq, Nat.reduceLeDiff, Nat.reduceSub, Nat.reduceLT]
    rw [fill_agn ?fa ?fb]
    case fa => rfl
    case fb => show 6 ≤ 7; omega
    simp only [EX, reduceIte, Nat.reduceEqDiff, Nat.reduceAdd, Int.reduceEq, Int.reduceLT, Int.reduceLE, reduceCtorEq, Nat.reduceLeDiff, Nat.reduceSub, Nat.reduceLT]
    refine (e3 _ _).trans ?_
    simp only [EX, reduceIte, Nat.reduceEqDiff, Nat.reduceAdd, Int.reduceEq, Int.reduceLT, Int.reduceLE, reduceCtorEq, Nat.reduceLeDiff, Nat.reduceSub, Nat.reduceLT]
    rw [r3.lda (n := 7) rfl]
theorem s17_4 {H : Heap} {op n : Int} {xs xk : AV} (h : op % 6 = 4) : Tells 17 2000 [.ag [.i .i64 op, .i .i64 n, xs, xk]] H (.ag (lfc 4 n [])) := by
  have L := Lf.make H [.i .i64 op, .i .i64 n, xs, xk]
  obtain ⟨H2, e2⟩ : ∃ H2, H2 = (H.alloc (.cells false 0 25 4 (setCells [.i .i64 op, .i .i64 n, xs, xk] 0 .leaf))).alloc (.cells false 0 32 7 (setCells zs7 0 .leaf)) := ⟨_, rfl⟩
  have L : Lf H H2 H.next H.next.succ [.i .i64 op, .i .i64 n, xs, xk] := by rw [e2]; exact L
  have h1 := Int.emod_nonneg n (b := 3) (by decide)
  have h2 := Int.emod_lt_of_pos n (b := 3) (by decide)
  obtain ⟨H5, e5⟩ : ∃ H5, H5 = H2.alloc (.cells false 0 9 3 (setCells (vrs.map str) 0 .leaf)) := ⟨_, rfl⟩
  have gA : Grow H2 H5 := by rw [e5]; exact Grow.alloc H2 _
  have rA : Row H5 H2.next 9 (vrs.map str) := by rw [e5]; exact Row.new H2 9 (vrs.map str)
  obtain ⟨H3, g3, r3, e3⟩ := (L.grow gA).fill (ys := lfc 4 n []) rfl (ec_one rfl)
  refine ⟨H3, g3, fun M hM R k => ?e⟩
  case e =>
    obtain ⟨m, rfl⟩ : ∃ m, M = m + 2000 := ⟨M - 2000, by omega⟩
    rw [call_eq L17]
    unfold B17
    simp only [EX, reduceIte, Nat.reduceEqDiff, Nat.reduceAdd, Int.reduceEq, Int.reduceLT, Int.reduceLE, reduceCtorEq, Nat.reduceLeDiff, Nat.reduceSub, Nat.reduceLT]
    rw [show (H.alloc (.cells false 0 25 4 (setCells [.i .i64 op, .i .i64 n, xs, xk] 0 .leaf))).alloc (.cells false 0 32 7 (setCells [.i .i64 0, .b false, .i .i64 0, str [], str [], str [], .ns] 0 .leaf)) = H2 from e2.symm]
    rw [L.rp.ld (off := 0) (v := .i .i64 op) rfl]
    simp only [EX, reduceIte, Nat.reduceEqDiff, Nat.reduceAdd, Int.reduceEq, Int.reduceLT, Int.reduceLE, reduceCtorEq, Nat.reduceLeDiff, Nat.reduceSub, Nat.reduceLT, s18, h]
    rw [show H2.alloc (.cells false 0 9 3 (setCells [str [112, 114, 105, 110, 99, 105, 112, 97, 108], str [97, 99, 116, 105, 111, 110], str [114, 101, 115, 111, 117, 114, 99, 101]] 0 .leaf)) = H5 from e5.symm]
    rw [(L.rp.grow gA (Nat.lt_trans L.qn L.nx)).ld (off := 1) (v := .i .i64 n) rfl]
    simp only [EX, reduceIte, Nat.reduceEqDiff, Nat.reduceAdd, Int.reduceEq, Int.reduceLT, Int.reduceLE, reduceCtorEq, Nat.reduceLeDiff, Nat.reduceSub, Nat.reduceLT, s18]
    rw [ixa_sl h1 (by omega)]
    simp only [EX, reduceIte, Nat.reduceEqDiff, Nat.reduceAdd, Int.reduceEq, Int.reduceLT, Int.reduceLE, reduceCtorEq, Nat.reduceLeDiff, Nat.reduceSub, Nat.reduceLT]
    rw [rA.ld (v := str (vr n)) (by rw [Nat.zero_add, Nat.mul_one]; exact vr_at n)]
    simp only [EX, reduceIte, Nat.reduceEqDiff, Nat.reduceAdd, Int.reduceEq, Int.reduceLT, Int.reduceLE, reduceCtorEq, Nat.reduceLeDiff, Nat.reduceSub, Nat.reduceLT]
    refine (e3 _ _).trans ?_
    simp only [EX, reduceIte, Nat.reduceEqDiff, Nat.reduceAdd, Int.reduceEq, Int.reduceLT, Int.reduceLE, reduceCtorEq, Nat.reduceLeDiff, Nat.reduceSub, Nat.reduceLT]
    rw [r3.lda (n := 7) rfl]
theorem s17_5 {H : Heap} {op n : Int} {xs xk : AV} (h : op % 6 = 5) : Tells 17 2000 [.ag [.i .i64 op, .i .i64 n, xs, xk]] H (.ag (lfc 5 n [])) := by
  have L := Lf.make H [.i .i64 op, .i .i64 n, xs, xk]
  obtain ⟨H2, e2⟩ : ∃ H2, H2 = (H.alloc (.cells false 0 25 4 (setCells [.i .i64 op, .i .i64 n, xs, xk] 0 .leaf))).alloc (.cells false 0 32 7 (setCells zs7 0 .leaf)) := ⟨_, rfl⟩
  have L : Lf H H2 H.next H.next.succ [.i .i64 op, .i .i64 n, xs, xk] := by rw [e2]; exact L
  obtain ⟨H3, g3, r3, e3⟩ := L.fill (ys := lfc 5 n []) rfl (ec_one rfl)
  refine ⟨H3, g3, fun M hM R k => ?e⟩
  case e =>
    obtain ⟨m, rfl⟩ : ∃ m, M = m + 2000 := ⟨M - 2000, by omega⟩
    rw [call_eq L17]
    unfold B17
    simp only [EX, reduceIte, Nat.reduceEqDiff, Nat.reduceAdd, Int.reduceEq, Int.reduceLT, Int.reduceLE, reduceCtorEq, Nat.reduceLeDiff, Nat.reduceSub, Nat.reduceLT]
    rw [show (H.alloc (.cells false 0 25 4 (setCells [.i .i64 op, .i .i64 n, xs, xk] 0 .leaf))).alloc (.cells false 0 32 7 (setCells [.i .i64 0, .b false, .i .i64 0, str [], str [], str [], .ns] 0 .leaf)) = H2 from e2.symm]
    rw [L.rp.ld (off := 0) (v := .i .i64 op) rfl]
    simp only [EX, reduceIte, Nat.reduceEqDiff, Nat.reduceAdd, Int.reduceEq, Int.reduceLT, Int.reduceLE, reduceCtorEq, Nat.reduceLeDiff, Nat.reduceSub, Nat.reduceLT, s18, h]
    refine (e3 _ _).trans ?_
    simp only [EX, reduceIte, Nat.reduceEqDiff, Nat.reduceAdd, Int.reduceEq, Int.reduceLT, Int.reduceLE, reduceCtorEq, Nat.reduceLeDiff, Nat.reduceSub, Nat.reduceLT]
    rw [r3.lda (n := 7) rfl]
/-- What a leaf's cells are. -/
def lfv (op n : Int) (s : List Int) : List AV := lfc (op % 6).toNat n s
theorem s17 {H : Heap} (hf : Fresh H) {op n : Int} {xs xk : AV} {s : List Int} (hx : Ints H xs s) : Tells 17 2000 [.ag [.i .i64 op, .i .i64 n, xs, xk]] H (.ag (lfv op n s)) := by
  have h0 := Int.emod_nonneg op (b := 6) (by decide)
  have h1 := Int.emod_lt_of_pos op (b := 6) (by decide)
  have h : op % 6 = 0 ∨ op % 6 = 1 ∨ op % 6 = 2 ∨ op % 6 = 3 ∨ op % 6 = 4 ∨ op % 6 = 5 := by omega
  unfold lfv
  rcases h with h | h | h | h | h | h
  · have := s17_0 (n := n) (xs := xs) (xk := xk) (H := H) h; rw [h]; exact this
  · have := s17_1 (n := n) (xs := xs) (xk := xk) (H := H) h; rw [h]; exact this
  · have := s17_2 (n := n) (xk := xk) h hx; rw [h]; exact this
  · have := s17_3 hf (n := n) (xk := xk) h hx; rw [h]; exact this
  · have := s17_4 (n := n) (xs := xs) (xk := xk) (H := H) h; rw [h]; exact this
  · have := s17_5 (n := n) (xs := xs) (xk := xk) (H := H) h; rw [h]; exact this
end Go.Proofs.YtmmmjhkgjmbfaaaDoor

/- What a tree is made of, as it lies in memory; how many nodes it has (chancellaw5.Few). -/
namespace Go.Proofs.YtmmmjhkgjmbfaaaDoor
open Go Go.Vai
set_option maxRecDepth 100000
set_option linter.unusedSimpArgs false
def KidsIn (P : List AV → Rw → Prop) (H : Heap) (x : AV) (kids : List Rw) : Prop :=
  (x = .ns ∧ kids = []) ∨ ∃ a off ro fz e size c, x = .sl a off kids.length none 4 ∧ a.toN < H.next.toN ∧ H.get a = .cells ro fz e size c ∧ off + kids.length * 4 ≤ size ∧ ∀ j r, kids[j]? = some r → P (getCells 4 (off + j * 4) c) r
def RawIn (H : Heap) : Nat → List AV → Rw → Prop
  | 0, _, _ => False
  | d + 1, cs, .mk op n s kids => ∃ xs xk, cs = [.i .i64 op, .i .i64 n, xs, xk] ∧ Ints H xs s ∧ KidsIn (RawIn H d) H xk kids
theorem RawIn.grow {H H' : Heap} (g : Grow H H') : ∀ (d : Nat) (cs : List AV) (r : Rw), RawIn H d cs r → RawIn H' d cs r
  | 0, _, _, h => h
  | d + 1, cs, .mk op n s kids, h => by
    obtain ⟨xs, xk, e, h1, h2⟩ := h
    refine ⟨xs, xk, e, h1.grow g, ?_⟩
    obtain h2 | ⟨a, off, ro, fz, e, size, c, hx, ha, k1, k2, k3⟩ := h2
    · exact Or.inl h2
    · exact Or.inr ⟨a, off, ro, fz, e, size, c, hx, Nat.lt_of_lt_of_le ha g.next, by rw [g.get a ha, k1], k2, fun j r hj => RawIn.grow g d _ _ (k3 j r hj)⟩
theorem KidsIn.grow {H H' : Heap} {d : Nat} {x : AV} {kids : List Rw} (h : KidsIn (RawIn H d) H x kids) (g : Grow H H') : KidsIn (RawIn H' d) H' x kids := by
  obtain h | ⟨a, off, ro, fz, e, size, c, hx, ha, k1, k2, k3⟩ := h
  · exact Or.inl h
  · exact Or.inr ⟨a, off, ro, fz, e, size, c, hx, Nat.lt_of_lt_of_le ha g.next, by rw [g.get a ha, k1], k2, fun j r hj => RawIn.grow g d _ _ (k3 j r hj)⟩
theorem KidsIn.len {R : Type} {P : List AV → Rw → Prop} {H H' : Heap} {x : AV} {l : List Rw} {k : HK R} (h : KidsIn P H x l) : lenC false x k H' = k (.i .i64 l.length) H' := by
  obtain ⟨rfl, rfl⟩ | ⟨a, off, ro, fz, e, size, c, rfl, _⟩ := h <;> rfl
/-- A kid, read. -/
theorem KidsIn.at {P : List AV → Rw → Prop} {H : Heap} {x : AV} {l : List Rw} (h : KidsIn P H x l) {j : Nat} {r : Rw} (hj : l[j]? = some r) :
    ∃ p cs, P cs r ∧ (∀ (R : Type) (k : HK R) (H' : Heap), ixaC 4 x (.i .i64 j) k H' = k p H') ∧ ∀ (R : Type) (k : HK R), ldC true 4 p k H = k (.ag cs) H := by
  have hl : j < l.length := (List.getElem?_eq_some_iff.mp hj).1
  obtain ⟨rfl, rfl⟩ | ⟨a, off, ro, fz, e, size, c, rfl, ha, h1, h2, h3⟩ := h
  · cases hj
  · refine ⟨.p a (off + j * 4), _, h3 j r hj, fun R k H' => ?_, fun R k => ld_ag h1 (by omega)⟩
    rw [ixa_sl (by omega) (by omega), Int.toNat_natCast]
noncomputable abbrev Lp7 : AC := (.loop (.seq (.seq (.ops [O 22 (.mv (T 5)), O 23 (.fa 3 (T 2)), O 24 (.ld false 1 (T 23)), O 25 (.len false (T 24)), O 26 (.bin .lss .no (T 22) (T 25)), O 27 (.mv (T 26)), G 28 27 true (.mv (T 1)), G 29 27 true (.bin .gtr .no (T 28) (K (.i .i64 0))), O 30 (.pick (T 27) (T 29) (K (.b false)))]) (.cond (T 30) .skip (.exit 0))) (.seq (.block 1 (.ops [O 33 (.fa 3 (T 2)), O 34 (.ld false 1 (T 33)), O 35 (.mv (T 5)), O 36 (.ixa 4 (T 34) (T 35)), O 37 (.ld true 4 (T 36)), O 38 (.mv (T 1)), O 39 (.call (toPa 7) [(T 37), (T 38)]), O 1 (.mv (T 39))])) (.ops [O 31 (.mv (T 5)), O 32 (.bin .add .no (T 31) (K (.i .i64 1))), O 5 (.mv (T 32))]))))
/-- How Few is told: some number that is less than what it was asked for. -/
def FewOk (m : Nat) : Prop := ∀ (H : Heap) (d : Nat) (cs : List AV) (r : Rw), RawIn H d cs r → ∃ v : Nat, v ≤ m - 1 ∧ Tells 7 (200 * (m + 1)) [.ag cs, .i .i64 m] H (.i .i64 v)
theorem loop7 {m : Nat} (hm : m ≤ 1000) (ih : ∀ m', m' < m → FewOk m') {H0 : Heap} {p : Pa} {op n : Int} {xs xk : AV} {kids : List Rw} {d : Nat} (hp : p.toN < H0.next.toN) (hrow : Row H0 p 25 [.i .i64 op, .i .i64 n, xs, xk]) (hk : KidsIn (RawIn H0 d) H0 xk kids) (hk12 : kids.length ≤ 12) :
    ∀ (rest i cur : Nat) (fr : Tr AV) (H : Heap), i + rest = kids.length → cur < m → Grow H0 H → V fr 2 = .p p 0 → V fr 1 = .i .i64 cur → V fr 5 = .i .i64 i →
    ∃ (v : Nat) (fr' : Tr AV) (H' : Heap), v ≤ cur ∧ Grow H0 H' ∧ V fr' 1 = .i .i64 v ∧ ∀ M, 100 + rest + 200 * m ≤ M → ∀ (R : Type) (k : XK R), runK tbl M R Lp7 fr H k = k (.exit 0) fr' H'
  | rest, i, cur, fr, H, hi, hc, g, h2, h1, h5 => by
    have hrow' := hrow.grow g hp
    have hk' := hk.grow g
    by_cases hlt : i < kids.length
    · have hlt' : (i : Int) < (kids.length : Int) := by omega
      by_cases hz : cur = 0
      · subst hz
        have hz' : ¬ (0 : Int) < ((0 : Nat) : Int) := by omega
        refine ⟨0, ?fr1, H, Nat.le_refl _, g, ?p1, fun M hM R k => ?e⟩
        case e =>
          obtain ⟨q, rfl⟩ : ∃ q, M = q + 100 := ⟨M - 100, by omega⟩
          unfold Lp7
          rw [run_loop]
          simp only [EX, reduceIte, Nat.reduceEqDiff, Nat.reduceAdd, Int.reduceEq, Int.reduceLT, Int.reduceLE, reduceCtorEq, Nat.reduceLeDiff, Nat.reduceSub, Nat.reduceLT, h2, h5]
          rw [hrow'.ld (off := 3) (v := xk) rfl]
          simp only [EX, reduceIte, Nat.reduceEqDiff, Nat.reduceAdd, Int.reduceEq, Int.reduceLT, Int.reduceLE, reduceCtorEq, Nat.reduceLeDiff, Nat.reduceSub, Nat.reduceLT, hk'.len, hlt', h1, hz']
          exact rfl
        case p1 => simp only [V_S, Nat.reduceEqDiff, reduceIte]; exact h1
      · have hz' : (0 : Int) < (cur : Int) := by omega
        obtain ⟨pk, cs, hP, eix, eld⟩ := hk'.at (j := i) (r := kids[i]) (List.getElem?_eq_getElem hlt)
        obtain ⟨v, hv, H', g', eq⟩ := ih cur hc H d cs _ hP
        have hw : IntKind.i64.wrap ((i : Int) + 1) = ((i + 1 : Nat) : Int) := by rw [wrap_i64 (by omega) (by omega)]; omega
        obtain ⟨rest, rfl⟩ : ∃ q, rest = q + 1 := ⟨rest - 1, by omega⟩
        obtain ⟨v', fr', H'', hv', g'', hf1, eq'⟩ := loop7 hm ih hp hrow hk hk12 rest (i + 1) v
          (S (S (S (S (S (S (S (S (S (S (S (S (S (S (S (S (S (S (S (S fr 22 (.i .i64 i)) 23 (.p p 3)) 24 xk) 25 (.i .i64 kids.length)) 26 (.b true)) 27 (.b true)) 28 (.i .i64 cur)) 29 (.b true)) 30 (.b true)) 33 (.p p 3)) 34 xk) 35 (.i .i64 i)) 36 pk) 37 (.ag cs)) 38 (.i .i64 cur)) 39 (.i .i64 v)) 1 (.i .i64 v)) 31 (.i .i64 i)) 32 (.i .i64 ((i + 1 : Nat) : Int))) 5 (.i .i64 ((i + 1 : Nat) : Int)))
          H' (by omega) (by omega) (g.trans g') (by simp only [V_S, Nat.reduceEqDiff, reduceIte]; exact h2) (by simp only [V_S, Nat.reduceEqDiff, reduceIte]) (by simp only [V_S, Nat.reduceEqDiff, reduceIte])
        refine ⟨v', fr', H'', by omega, g'', hf1, fun M hM R k => ?_⟩
        obtain ⟨q, rfl⟩ : ∃ q, M = q + 100 := ⟨M - 100, by omega⟩
        have hq : 200 * (cur + 1) ≤ q + 90 := by
          have : 200 * (cur + 1) ≤ 200 * m := Nat.mul_le_mul_left _ (by omega)
          omega
        unfold Lp7
        rw [run_loop]
        simp only [EX, reduceIte, Nat.reduceEqDiff, Nat.reduceAdd, Int.reduceEq, Int.reduceLT, Int.reduceLE, reduceCtorEq, Nat.reduceLeDiff, Nat.reduceSub, Nat.reduceLT, h2, h5]
        rw [hrow'.ld (off := 3) (v := xk) rfl]
        simp only [EX, reduceIte, Nat.reduceEqDiff, Nat.reduceAdd, Int.reduceEq, Int.reduceLT, Int.reduceLE, reduceCtorEq, Nat.reduceLeDiff, Nat.reduceSub, Nat.reduceLT, hk'.len, hlt', h1, hz', h2, h5]
        rw [hrow'.ld (off := 3) (v := xk) rfl]
        simp only [EX, reduceIte, Nat.reduceEqDiff, Nat.reduceAdd, Int.reduceEq, Int.reduceLT, Int.reduceLE, reduceCtorEq, Nat.reduceLeDiff, Nat.reduceSub, Nat.reduceLT, h1, h2, h5]
        rw [eix]
        simp only [EX, reduceIte, Nat.reduceEqDiff, Nat.reduceAdd, Int.reduceEq, Int.reduceLT, Int.reduceLE, reduceCtorEq, Nat.reduceLeDiff, Nat.reduceSub, Nat.reduceLT, h1, h2, h5]
        rw [eld]
        simp only [EX, reduceIte, Nat.reduceEqDiff, Nat.reduceAdd, Int.reduceEq, Int.reduceLT, Int.reduceLE, reduceCtorEq, Nat.reduceLeDiff, Nat.reduceSub, Nat.reduceLT, h1, h2, h5]
        rw [eq _ (by omega)]
        simp only [EX, reduceIte, Nat.reduceEqDiff, Nat.reduceAdd, Int.reduceEq, Int.reduceLT, Int.reduceLE, reduceCtorEq, Nat.reduceLeDiff, Nat.reduceSub, Nat.reduceLT, h1, h2, h5, i_add]
        rw [hw]
        exact eq' _ (by omega) R k
    · have hlt' : ¬ (i : Int) < (kids.length : Int) := by omega
      refine ⟨cur, ?fr2, H, Nat.le_refl _, g, ?p2, fun M hM R k => ?e2⟩
      case e2 =>
        obtain ⟨q, rfl⟩ : ∃ q, M = q + 100 := ⟨M - 100, by omega⟩
        unfold Lp7
        rw [run_loop]
        simp only [EX, reduceIte, Nat.reduceEqDiff, Nat.reduceAdd, Int.reduceEq, Int.reduceLT, Int.reduceLE, reduceCtorEq, Nat.reduceLeDiff, Nat.reduceSub, Nat.reduceLT, h2, h5]
        rw [hrow'.ld (off := 3) (v := xk) rfl]
        simp only [EX, reduceIte, Nat.reduceEqDiff, Nat.reduceAdd, Int.reduceEq, Int.reduceLT, Int.reduceLE, reduceCtorEq, Nat.reduceLeDiff, Nat.reduceSub, Nat.reduceLT, hk'.len, hlt']
        exact rfl
      case p2 => simp only [V_S, Nat.reduceEqDiff, reduceIte]; exact h1
theorem s7 : ∀ m, m ≤ 1000 → FewOk m := by
  intro m
  induction m using Nat.strongRecOn with
  | ind m ih =>
  intro hm H d cs r hr
  match d, r, hr with
  | d + 1, .mk op n s kids, hr =>
  obtain ⟨xs, xk, rfl, hs, hk⟩ := hr
  obtain ⟨H1, e1⟩ : ∃ H1, H1 = H.alloc (.cells false 0 25 4 (setCells [.i .i64 op, .i .i64 n, xs, xk] 0 .leaf)) := ⟨_, rfl⟩
  have g1 : Grow H H1 := by rw [e1]; exact Grow.alloc H _
  have n1 : H1.next.toN = H.next.toN + 1 := by rw [e1]; exact next_alloc H _
  have r1 : Row H1 H.next 25 [.i .i64 op, .i .i64 n, xs, xk] := by rw [e1]; exact Row.new H 25 [.i .i64 op, .i .i64 n, xs, xk]
  have hk1 := hk.grow g1
  have hs1 := hs.grow g1
  have nope : ∀ (c1 : Bool) (c2 : Bool), True := fun _ _ => trivial
  by_cases hz : m = 0
  · subst hz
    have hz' : ((0 : Nat) : Int) ≤ 0 := by omega
    refine ⟨0, Nat.le_refl _, H1, g1, fun M hM R k => ?_⟩
    obtain ⟨q, rfl⟩ : ∃ q, M = q + 200 := ⟨M - 200, by omega⟩
    rw [call_eq L7]
    unfold B7
    simp only [EX, reduceIte, Nat.reduceEqDiff, Nat.reduceAdd, Int.reduceEq, Int.reduceLT, Int.reduceLE, reduceCtorEq, Nat.reduceLeDiff, Nat.reduceSub, Nat.reduceLT, hz']
    rw [← e1]
    exact rfl
  have hz' : ¬ ((m : Int) ≤ 0) := by omega
  by_cases h12 : kids.length ≤ 12
  · have h12' : ¬ ((12 : Int) < (kids.length : Int)) := by omega
    by_cases h60 : s.length ≤ 60
    · have h60' : ¬ ((60 : Int) < (s.length : Int)) := by omega
      have hw : IntKind.i64.wrap ((m : Int) - 1) = ((m - 1 : Nat) : Int) := by rw [wrap_i64 (by omega) (by omega)]; omega
      obtain ⟨v, fr', H', hv, g', hf1, eq⟩ := loop7 (m := m) hm (fun m' h => ih m' h (by omega)) (by omega) r1 hk1 h12 kids.length 0 (m - 1) (S (S (S (S (S (S (S (S (S (S (S (S (S (S (S (S (S (S (S (S (S (S .leaf 0 (.ag [.i .i64 op, .i .i64 n, xs, xk])) 1 (.i .i64 m)) 2 (.p H.next 0)) 4 (.i .i64 0)) 6 (.i .i64 m)) 7 (.b false)) 8 (.b false)) 9 (.p H.next 3)) 10 xk) 11 (.i .i64 kids.length)) 12 (.b false)) 13 (.b false)) 14 (.b false)) 15 (.p H.next 2)) 16 xs) 17 (.i .i64 s.length)) 18 (.b false)) 19 (.b false)) 20 (.i .i64 m)) 21 (.i .i64 ((m - 1 : Nat) : Int))) 1 (.i .i64 ((m - 1 : Nat) : Int))) 5 (.i .i64 0)) H1 (by omega) (by omega) (Grow.refl _) (by simp only [V_S, Nat.reduceEqDiff, reduceIte]) (by simp only [V_S, Nat.reduceEqDiff, reduceIte]) (by simp only [V_S, Nat.reduceEqDiff, reduceIte]; rfl)
      refine ⟨v, hv, H', g1.trans g', fun M hM R k => ?_⟩
      obtain ⟨q, rfl⟩ : ∃ q, M = q + 200 := ⟨M - 200, by omega⟩
      rw [call_eq L7]
      unfold B7
      simp only [EX, reduceIte, Nat.reduceEqDiff, Nat.reduceAdd, Int.reduceEq, Int.reduceLT, Int.reduceLE, reduceCtorEq, Nat.reduceLeDiff, Nat.reduceSub, Nat.reduceLT, hz']
      rw [← e1, r1.ld (off := 3) (v := xk) rfl]
      simp only [EX, reduceIte, Nat.reduceEqDiff, Nat.reduceAdd, Int.reduceEq, Int.reduceLT, Int.reduceLE, reduceCtorEq, Nat.reduceLeDiff, Nat.reduceSub, Nat.reduceLT, hk1.len, h12']
      rw [r1.ld (off := 2) (v := xs) rfl]
      simp only [EX, reduceIte, Nat.reduceEqDiff, Nat.reduceAdd, Int.reduceEq, Int.reduceLT, Int.reduceLE, reduceCtorEq, Nat.reduceLeDiff, Nat.reduceSub, Nat.reduceLT, hs1.len, h60', i_sub]
      rw [hw]
      refine Eq.trans (eq (q + 194) (by omega) R _) ?_
      simp only [EX, reduceIte, Nat.reduceEqDiff, Nat.reduceAdd, Int.reduceEq, Int.reduceLT, Int.reduceLE, reduceCtorEq, Nat.reduceLeDiff, Nat.reduceSub, Nat.reduceLT, hf1]
    · have h60' : (60 : Int) < (s.length : Int) := by omega
      refine ⟨0, Nat.zero_le _, H1, g1, fun M hM R k => ?_⟩
      obtain ⟨q, rfl⟩ : ∃ q, M = q + 200 := ⟨M - 200, by omega⟩
      rw [call_eq L7]
      unfold B7
      simp only [EX, reduceIte, Nat.reduceEqDiff, Nat.reduceAdd, Int.reduceEq, Int.reduceLT, Int.reduceLE, reduceCtorEq, Nat.reduceLeDiff, Nat.reduceSub, Nat.reduceLT, hz']
      rw [← e1, r1.ld (off := 3) (v := xk) rfl]
      simp only [EX, reduceIte, Nat.reduceEqDiff, Nat.reduceAdd, Int.reduceEq, Int.reduceLT, Int.reduceLE, reduceCtorEq, Nat.reduceLeDiff, Nat.reduceSub, Nat.reduceLT, hk1.len, h12']
      rw [r1.ld (off := 2) (v := xs) rfl]
      simp only [EX, reduceIte, Nat.reduceEqDiff, Nat.reduceAdd, Int.reduceEq, Int.reduceLT, Int.reduceLE, reduceCtorEq, Nat.reduceLeDiff, Nat.reduceSub, Nat.reduceLT, hs1.len, h60']
      exact rfl
  · have h12' : (12 : Int) < (kids.length : Int) := by omega
    refine ⟨0, Nat.zero_le _, H1, g1, fun M hM R k => ?_⟩
    obtain ⟨q, rfl⟩ : ∃ q, M = q + 200 := ⟨M - 200, by omega⟩
    rw [call_eq L7]
    unfold B7
    simp only [EX, reduceIte, Nat.reduceEqDiff, Nat.reduceAdd, Int.reduceEq, Int.reduceLT, Int.reduceLE, reduceCtorEq, Nat.reduceLeDiff, Nat.reduceSub, Nat.reduceLT, hz']
    rw [← e1, r1.ld (off := 3) (v := xk) rfl]
    simp only [EX, reduceIte, Nat.reduceEqDiff, Nat.reduceAdd, Int.reduceEq, Int.reduceLT, Int.reduceLE, reduceCtorEq, Nat.reduceLeDiff, Nat.reduceSub, Nat.reduceLT, hk1.len, h12']
    exact rfl
end Go.Proofs.YtmmmjhkgjmbfaaaDoor

/- A tree that is made (chancellaw5.Tree), as it lies in memory. -/
namespace Go.Proofs.YtmmmjhkgjmbfaaaDoor
open Go Go.Vai
set_option maxRecDepth 100000
set_option linter.unusedSimpArgs false
def KidsE (S : Pa → Prop) (P : List AV → Ex → Prop) (H : Heap) (x : AV) (kids : List Ex) : Prop :=
  (x = .ns ∧ kids = []) ∨ ∃ a L, x = .sl a 0 kids.length none 7 ∧ S a ∧ a.toN < H.next.toN ∧ Row H a 32 L ∧ L.length = kids.length * 7 ∧ ∀ j e, kids[j]? = some e → P ((L.drop (j * 7)).take 7) e
/-- A tree as it lies in memory, at most so deep, its blocks all of some kind. -/
def ExIn (S : Pa → Prop) (H : Heap) : Nat → List AV → Ex → Prop
  | 0, _, _ => False
  | d + 1, cs, .mk op b n s t i kids => ∃ xk, cs = ec op b n s t i xk ∧ KidsE S (ExIn S H d) H xk kids
theorem ExIn.move {S S' : Pa → Prop} {H H' : Heap} (hs : ∀ a, S a → a.toN < H.next.toN → S' a) (hn : H.next.toN ≤ H'.next.toN) (hg : ∀ a, S a → a.toN < H.next.toN → H'.get a = H.get a) :
    ∀ (d : Nat) (cs : List AV) (e : Ex), ExIn S H d cs e → ExIn S' H' d cs e
  | 0, _, _, h => h
  | d + 1, cs, .mk op b n s t i kids, h => by
    obtain ⟨xk, e, h⟩ := h
    refine ⟨xk, e, ?_⟩
    obtain h | ⟨a, L, hx, ha, hb, ⟨c, k1, k2⟩, k3, k4⟩ := h
    · exact Or.inl h
    · exact Or.inr ⟨a, L, hx, hs a ha hb, Nat.lt_of_lt_of_le hb hn, ⟨c, by rw [hg a ha hb, k1], k2⟩, k3, fun j e hj => ExIn.move hs hn hg d _ _ (k4 j e hj)⟩
theorem ExIn.grow {S : Pa → Prop} {H H' : Heap} {d : Nat} {cs : List AV} {e : Ex} (h : ExIn S H d cs e) (g : Grow H H') : ExIn S H' d cs e := ExIn.move (fun _ h _ => h) g.next (fun a _ h => g.get a h) d cs e h
theorem ExIn.one {S : Pa → Prop} {H : Heap} : ∀ {d : Nat} {cs : List AV} {e : Ex}, ExIn S H d cs e → cs.length = 7 ∧ ∀ v ∈ cs, oneC v = true
  | 0, _, _, h => h.elim
  | d + 1, cs, .mk op b n s t i kids, h => by
    obtain ⟨xk, rfl, h⟩ := h
    refine ⟨rfl, ec_one ?_⟩
    obtain ⟨rfl, _⟩ | ⟨a, L, rfl, _⟩ := h <;> rfl
/-- One that is put a level deeper. -/
theorem ExIn.up {S : Pa → Prop} {H : Heap} : ∀ {d : Nat} {cs : List AV} {e : Ex}, ExIn S H d cs e → ExIn S H (d + 1) cs e
  | 0, _, _, h => h.elim
  | d + 1, cs, .mk op b n s t i kids, h => by
    obtain ⟨xk, e, h⟩ := h
    refine ⟨xk, e, ?_⟩
    obtain h | ⟨a, L, hx, ha, hb, hr, k3, k4⟩ := h
    · exact Or.inl h
    · exact Or.inr ⟨a, L, hx, ha, hb, hr, k3, fun j e hj => (k4 j e hj).up⟩
def lfe : Nat → Int → List Int → Ex
  | 0, n, _ => .mk 1 (decide (n.tmod 2 = 0)) 0 [] [] [] []
  | 1, n, _ => .mk 2 false (n % 4611686018427387904) [] [] [] []
  | 2, _, s => .mk 3 false 0 (tx (s.take 8)) [] [] []
  | 3, n, s => .mk 4 false 0 [] (ut n) (tx (s.take 8)) []
  | 4, n, _ => .mk 5 false 0 (vr n) [] [] []
  | _, _, _ => .mk 6 false 0 [] [] [] []
theorem lf_in {S : Pa → Prop} {H : Heap} {d k : Nat} {n : Int} {s : List Int} : ExIn S H (d + 1) (lfc k n s) (lfe k n s) := by
  match k with
  | 0 => exact ⟨.ns, rfl, Or.inl ⟨rfl, rfl⟩⟩
  | 1 => exact ⟨.ns, rfl, Or.inl ⟨rfl, rfl⟩⟩
  | 2 => exact ⟨.ns, rfl, Or.inl ⟨rfl, rfl⟩⟩
  | 3 => exact ⟨.ns, rfl, Or.inl ⟨rfl, rfl⟩⟩
  | 4 => exact ⟨.ns, rfl, Or.inl ⟨rfl, rfl⟩⟩
  | k + 5 => exact ⟨.ns, rfl, Or.inl ⟨rfl, rfl⟩⟩
def topo (op : Int) : Nat := 6 + (op % 20).toNat
def tstr (o : Nat) (n : Int) (s : List Int) : List UInt8 := if o = 7 ∨ o = 8 then nm n else if o = 10 then tx (s.take 8) else []
def cnt (o l : Nat) : Nat := if o = 6 then min l 8 else if o = 7 ∨ o = 8 ∨ o = 10 ∨ o = 11 ∨ o = 12 then 1 else if o = 25 then 3 else 2
def tree : Nat → Rw → Ex
  | 0, .mk op n s _ => lfe (op % 6).toNat n s
  | d + 1, .mk op n s kids => if d = 0 ∨ kids = [] then lfe (op % 6).toNat n s else
      .mk (topo op) false 0 (tstr (topo op) n s) [] [] ((List.range (cnt (topo op) kids.length)).map fun i => tree d ((kids[i % kids.length]?).getD (.mk 0 0 [] [])))
noncomputable abbrev Lp8 : AC := (.loop (.seq (.seq (.ops [O 49 (.mv (T 7)), O 50 (.mv (T 6)), O 51 (.bin .lss .no (T 49) (T 50))]) (.cond (T 51) .skip (.exit 1))) (.seq (.block 2 (.draw 1 [(O 56 (.fa 3 (T 2)), ⟨0, 0⟩), (O 57 (.ld false 1 (T 56)), ⟨1, 0⟩), (O 58 (.mv (T 7)), ⟨0, 0⟩), (O 59 (.fa 3 (T 2)), ⟨0, 0⟩), (O 60 (.ld false 1 (T 59)), ⟨1, 0⟩), (O 61 (.len false (T 60)), ⟨0, 0⟩), (O 62 (.bin .rem .no (T 58) (T 61)), ⟨0, 0⟩), (O 63 (.ixa 4 (T 57) (T 62)), ⟨0, 0⟩), (O 64 (.ld true 4 (T 63)), ⟨1, 0⟩), (O 65 (.mv (T 1)), ⟨0, 0⟩), (O 66 (.bin .sub .no (T 65) (K (.i .i64 1))), ⟨0, 0⟩), (O 67 (.call (toPa 8) [(T 64), (T 66)]), ⟨3, 0⟩), (O 54 (.fa 6 (T 5)), ⟨0, 0⟩), (O 55 (.ld false 1 (T 54)), ⟨1, 0⟩), (O 68 (.bsl 32 7 1 [(.i .i64 0), (.b false), (.i .i64 0), (str []), (str []), (str []), .ns] [(0, 7, (T 67))]), ⟨2, 1⟩), (O 69 (.app 32 7 96 (T 55) (T 68)), ⟨3, 1⟩), (O 70 (.fa 6 (T 5)), ⟨0, 2⟩), (O_ (.st 1 (T 70) (T 69)), ⟨3, 2⟩)])) (.ops [O 52 (.mv (T 7)), O 53 (.bin .add .no (T 52) (K (.i .i64 1))), O 7 (.mv (T 53))]))))
/-- How Tree is told. -/
def TreeOk (d : Nat) : Prop := ∀ (H : Heap), Fresh H → ∀ (d' : Nat) (cs : List AV) (r : Rw), RawIn H d' cs r → ∃ cs' H', Grow H H' ∧ ExIn (fun b => H.next.toN ≤ b.toN) H' (d + 1) cs' (tree d r) ∧
  ∀ M, 3000 * (d + 1) ≤ M → ∀ (R : Type) (k : HK R), callK tbl (runK tbl M) R (toPa 8) [.ag cs, .i .i64 d] H k = k (.ag cs') H'
def Mine (Hm : Heap) (x : AV) : Pa → Prop := fun b => Hm.next.toN ≤ b.toN ∧ Off x b
structure FI8 (p q e : Pa) (d ct i : Nat) (fr : Tr AV) : Prop where
  f1 : V fr 1 = .i .i64 ((d + 1 : Nat) : Int)
  f2 : V fr 2 = .p p 0
  f4 : V fr 4 = .p q 0
  f5 : V fr 5 = .p e 0
  f6 : V fr 6 = .i .i64 ct
  f7 : V fr 7 = .i .i64 i
structure HI8 (H0 Hm : Heap) (p q e : Pa) (raw : List AV) (d o : Nat) (st : List UInt8) (i : Nat) (f : Nat → Ex) (x : AV) (L : List AV) (H : Heap) : Prop where
  g : Grow H0 H
  n : Hm.next.toN ≤ H.next.toN
  rp : Row H p 25 raw
  rq : Row H q 32 zs7
  re : Row H e 32 (ec o false 0 st [] [] x)
  h : Held Hm H 32 7 x i L
  kids : ∀ j, j < i → ExIn (Mine Hm x) H (d + 1) ((L.drop (j * 7)).take 7) (f j)
def tk (d : Nat) (kids : List Rw) (j : Nat) : Ex := tree d ((kids[j % kids.length]?).getD (.mk 0 0 [] []))
theorem step8 {d : Nat} (ih : TreeOk d) {H0 Hm : Heap} (hf0 : Fresh H0) {p q e : Pa} {op n : Int} {xs xk : AV} {kids : List Rw} {d' o ct i : Nat} {st : List UInt8} {x : AV} {L : List AV} {H : Heap}
    (h0p : H0.next.toN ≤ p.toN) (hpq : p.toN < q.toN) (hqe : q.toN < e.toN) (hem : e.toN < Hm.next.toN) (hk : KidsIn (RawIn H0 d') H0 xk kids) (hk0 : kids ≠ []) (hct : ct ≤ 8) (hi : i < ct) (hd : d ≤ 1000)
    (inv : HI8 H0 Hm p q e [.i .i64 op, .i .i64 n, xs, xk] d o st i (tk d kids) x L H) :
    ∃ x' L' H', HI8 H0 Hm p q e [.i .i64 op, .i .i64 n, xs, xk] d o st (i + 1) (tk d kids) x' L' H' ∧
      ∀ fr, FI8 p q e d ct i fr → ∃ fr', FI8 p q e d ct (i + 1) fr' ∧ ∀ M, 100 + 3000 * (d + 1) ≤ M → ∀ (R : Type) (k : XK R), runK tbl (M + 1) R Lp8 fr H k = runK tbl M R Lp8 fr' H' k := by
  have hl0 : 0 < kids.length := List.length_pos_iff.mpr hk0
  have hj : i % kids.length < kids.length := Nat.mod_lt _ hl0
  have hkg : kids[i % kids.length]? = some kids[i % kids.length] := List.getElem?_eq_getElem hj
  have gb : Grow H (H.bump 1) := Grow.bump 1 H
  have nb : (H.bump 1).next.toN = H.next.toN + 1 := next_bump
  have g0b := inv.g.trans gb
  have hkb := hk.grow g0b
  obtain ⟨pk, cr, hP, eix, eld⟩ := hkb.at (j := i % kids.length) hkg
  obtain ⟨cs', H2, g2, hin, eq⟩ := ih (H.bump 1) (g0b.dead hf0) d' cr _ hP
  have n2 := g2.next
  obtain ⟨hc7, hc1⟩ := hin.one
  obtain ⟨H3, e3⟩ : ∃ H3, H3 = H2.put H.next (.cells false 0 32 7 (setCells cs' 0 .leaf)) := ⟨_, rfl⟩
  have n3 : H3.next = H2.next := e3 ▸ next_put
  have g3 : Grow H H3 := by rw [e3]; exact (gb.trans g2).put (Nat.le_refl _) (by omega) _
  have r3 : Row H3 H.next 32 cs' := by rw [e3]; exact ⟨_, by rw [get_put, hc7], fun j _ => cell_at cs' j⟩
  have hmn := inv.n
  obtain ⟨H4, k4, m4, n4, h4, eapp⟩ := (inv.h.grow g3).app3 (bytes := 96) (n := 0) (ys := cs') (by rw [n3]; omega) (by decide) hc7 hc1 (by
    have : (9 * 96 : Nat) ≤ roomN := by decide
    omega)
  have rp4 := (inv.rp.grow g3 (by omega)).keep m4 (by omega) (by rw [n3]; omega)
  have rq4 := (inv.rq.grow g3 (by omega)).keep m4 (by omega) (by rw [n3]; omega)
  have re4 := (inv.re.grow g3 (by omega)).keep m4 (by omega) (by rw [n3]; omega)
  rw [n3] at n4
  obtain ⟨H5, re5, b5, n5, est⟩ := re4.st_one (off := 6) (v := .sl H3.next 0 (i + (0 + 1)) none 7) (by omega) (by show 6 < 7; omega) rfl
  have re5 : Row H5 e 32 (ec o false 0 st [] [] (.sl H3.next 0 (i + (0 + 1)) none 7)) := re5
  have g04 : Grow H0 H4 := m4.of (inv.g.trans g3) (by omega)
  have reb := inv.re.grow gb (by omega)
  have re2 := reb.grow g2 (by omega)
  have ax : avEq x x = true := by
    obtain ⟨rfl, _⟩ | ⟨a, rfl, _⟩ := inv.h
    · exact avEq_ns
    · exact avEq_sl
  have axk : avEq xk xk = true := by
    obtain ⟨rfl, _⟩ | ⟨a, off, ro, fz, ee, size, c, rfl, _⟩ := hk
    · exact avEq_ns
    · exact avEq_sl
  have acr : avEq (.ag cr) (.ag cr) = true := by
    match d', hP with
    | 0, hP => exact hP.elim
    | d'' + 1, hP =>
      cases hr : kids[i % kids.length] with
      | mk op2 n2 s2 k2 =>
        rw [hr] at hP
        obtain ⟨xs2, xk2, rfl, hi2, hk2⟩ := hP
        refine avEq_ag ?_
        intro v hv
        simp only [List.mem_cons, List.not_mem_nil, or_false] at hv
        rcases hv with rfl | rfl | rfl | rfl
        · exact av1_i
        · exact av1_i
        · obtain ⟨rfl, _⟩ | ⟨a, off, ro, fz, ee, size, c, rfl, _⟩ := hi2
          · exact av1_ns
          · exact av1_sl
        · obtain ⟨rfl, _⟩ | ⟨a, off, ro, fz, ee, size, c, rfl, _⟩ := hk2
          · exact av1_ns
          · exact av1_sl
  have l3 := (inv.rp.grow gb (by omega)).l 3 (v := xk) rfl
  have lb6 := reb.l 6 (v := x) rfl
  have l26 := re2.l 6 (v := x) rfl
  have hlt : (i : Int) < (ct : Int) := by omega
  have hlen : ((kids.length : Int)) ≠ 0 := by omega
  have hmod : (i : Int).tmod (kids.length : Int) = ((i % kids.length : Nat) : Int) := (Int.ofNat_tmod i kids.length).symm
  have hw : IntKind.i64.wrap ((i : Int) + 1) = ((i + 1 : Nat) : Int) := by rw [wrap_i64 (by omega) (by omega)]; omega
  have hwd : IntKind.i64.wrap (((d + 1 : Nat) : Int) - 1) = (d : Int) := by rw [wrap_i64 (by omega) (by omega)]; omega
  have hlay : lay [.i .i64 0, .b false, .i .i64 0, str [], str [], str [], .ns] 0 cs' = cs' := lay_all hc7.symm
  refine ⟨.sl H3.next 0 (i + (0 + 1)) none 7, L ++ cs', H5, ⟨?pg, ?pn, ?prp, ?prq, re5, ?ph, ?pk⟩, fun fr f => ?fp⟩
  case fp =>
   have h1 := f.f1
   have h2 := f.f2
   have h5 := f.f5
   have h6 := f.f6
   have h7 := f.f7
   refine ⟨?fr1, ⟨?p1, ?p2, ?p4, ?p5, ?p6, ?p7⟩, fun M hM R k => ?e⟩
   case e =>
     obtain ⟨m, rfl⟩ : ∃ m, M = m + 100 := ⟨M - 100, by omega⟩
     unfold Lp8
     rw [run_loop]
     simp only [EX, reduceIte, Nat.reduceEqDiff, Nat.reduceAdd, Int.reduceEq, Int.reduceLT, Int.reduceLE, reduceCtorEq, Nat.reduceLeDiff, Nat.reduceSub, Nat.reduceLT, h1, h2, h5, h6, h7, hlt, l3, hkb.len, i_rem hlen, hmod, eix, eld, i_sub, hwd, axk, acr]
     rw [eq _ (by omega)]
     simp only [EX, reduceIte, Nat.reduceEqDiff, Nat.reduceAdd, Int.reduceEq, Int.reduceLT, Int.reduceLE, reduceCtorEq, Nat.reduceLeDiff, Nat.reduceSub, Nat.reduceLT, h5, l26, lb6, ax]
     rw [fill_agn ?fa ?fb]
     case fa => exact hc7
     case fb => show 7 ≤ 7; omega
     simp only [EX, reduceIte, Nat.reduceEqDiff, Nat.reduceAdd, Int.reduceEq, Int.reduceLT, Int.reduceLE, reduceCtorEq, Nat.reduceLeDiff, Nat.reduceSub, Nat.reduceLT]
     rw [hlay, hc7, ← e3, eapp _ _ _ fun f => src_all r3 hc7 f]
     simp only [EX, reduceIte, Nat.reduceEqDiff, Nat.reduceAdd, Int.reduceEq, Int.reduceLT, Int.reduceLE, reduceCtorEq, Nat.reduceLeDiff, Nat.reduceSub, Nat.reduceLT, h5]
     rw [est]
     simp only [EX, reduceIte, Nat.reduceEqDiff, Nat.reduceAdd, Int.reduceEq, Int.reduceLT, Int.reduceLE, reduceCtorEq, Nat.reduceLeDiff, Nat.reduceSub, Nat.reduceLT, h7, i_add]
     rw [hw]
   case p1 => simp only [V_S, Nat.reduceEqDiff, reduceIte]; exact h1
   case p2 => simp only [V_S, Nat.reduceEqDiff, reduceIte]; exact h2
   case p4 => simp only [V_S, Nat.reduceEqDiff, reduceIte]; exact f.f4
   case p5 => simp only [V_S, Nat.reduceEqDiff, reduceIte]; exact h5
   case p6 => simp only [V_S, Nat.reduceEqDiff, reduceIte]; exact h6
   case p7 => simp only [V_S, Nat.reduceEqDiff, reduceIte]
  case pg => exact b5.of g04 (by omega)
  case pn => rw [n5]; omega
  case prp => exact rp4.but b5 (by omega) (by intro q; subst q; omega)
  case prq => exact rq4.but b5 (by omega) (by intro q; subst q; omega)
  case ph => exact h4.but b5 (h4.off (Or.inl hem))
  case pk =>
    have hL := inv.h.ll
    have off4 : ∀ a : Pa, a.toN < H2.next.toN → Off (.sl H3.next 0 (i + (0 + 1)) none 7) a := by
      intro a ha o l c z q
      have n3' : H3.next.toN = H2.next.toN := by rw [n3]
      cases q; omega
    intro j hj
    by_cases hji : j < i
    · rw [drop_l hL hji]
      refine ExIn.move (fun a ha hb => ⟨ha.1, off4 a (by omega)⟩) (by rw [n5]; omega) (fun a ha hb => ?_) _ _ _ (inv.kids j hji)
      rw [b5.get a (by omega) (by intro q; subst q; exact absurd ha.1 (by omega)), k4 a (by rw [n3]; omega) ha.2, g3.get a hb]
    · have hji : j = i := by omega
      subst hji
      rw [drop_r hL hc7]
      unfold tk
      rw [hkg]
      refine ExIn.move (fun a ha hb => ⟨by omega, off4 a hb⟩) (by rw [n5]; omega) (fun a ha hb => ?_) _ _ _ hin
      have hne : H.next ≠ a := by intro q; subst q; omega
      rw [b5.get a (by omega) (by intro q; subst q; omega), k4 a (by rw [n3]; exact hb) (inv.h.off (Or.inr (by omega))), e3, Heap.get_put, if_neg hne]
theorem loop8 {d : Nat} (ih : TreeOk d) {H0 Hm : Heap} (hf0 : Fresh H0) {p q e : Pa} {op n : Int} {xs xk : AV} {kids : List Rw} {d' o ct : Nat} {st : List UInt8}
    (h0p : H0.next.toN ≤ p.toN) (hpq : p.toN < q.toN) (hqe : q.toN < e.toN) (hem : e.toN < Hm.next.toN) (hk : KidsIn (RawIn H0 d') H0 xk kids) (hk0 : kids ≠ []) (hct : ct ≤ 8) (hd : d ≤ 1000) :
    ∀ (rest i : Nat) (x : AV) (L : List AV) (H : Heap), i + rest = ct → HI8 H0 Hm p q e [.i .i64 op, .i .i64 n, xs, xk] d o st i (tk d kids) x L H →
    ∃ x' L' H', HI8 H0 Hm p q e [.i .i64 op, .i .i64 n, xs, xk] d o st ct (tk d kids) x' L' H' ∧
      ∀ fr, FI8 p q e d ct i fr → ∃ fr', FI8 p q e d ct ct fr' ∧ ∀ M, 200 + 3000 * (d + 1) + rest ≤ M → ∀ (R : Type) (k : XK R), runK tbl M R Lp8 fr H k = k (.exit 1) fr' H'
  | 0, i, x, L, H, hi, inv => by
    obtain rfl : i = ct := by omega
    refine ⟨x, L, H, inv, fun fr f => ?_⟩
    have h1 := f.f1
    have h2 := f.f2
    have h4 := f.f4
    have h5 := f.f5
    have h6 := f.f6
    have h7 := f.f7
    refine ⟨?fr1, ⟨?p1, ?p2, ?p4, ?p5, ?p6, ?p7⟩, fun M hM R k => ?e⟩
    case e =>
      obtain ⟨m, rfl⟩ : ∃ m, M = m + 100 := ⟨M - 100, by omega⟩
      unfold Lp8
      rw [run_loop]
      simp only [EX, reduceIte, Nat.reduceEqDiff, Nat.reduceAdd, Int.reduceEq, Int.reduceLT, Int.reduceLE, reduceCtorEq, Nat.reduceLeDiff, Nat.reduceSub, Nat.reduceLT, h6, h7, Int.lt_irrefl]
      exact rfl
    case p1 => simp only [V_S, Nat.reduceEqDiff, reduceIte]; exact h1
    case p2 => simp only [V_S, Nat.reduceEqDiff, reduceIte]; exact h2
    case p4 => simp only [V_S, Nat.reduceEqDiff, reduceIte]; exact h4
    case p5 => simp only [V_S, Nat.reduceEqDiff, reduceIte]; exact h5
    case p6 => simp only [V_S, Nat.reduceEqDiff, reduceIte]; exact h6
    case p7 => simp only [V_S, Nat.reduceEqDiff, reduceIte]; exact h7
  | rest + 1, i, x, L, H, hi, inv => by
    obtain ⟨x1, L1, H1, inv1, eq1⟩ := step8 ih hf0 h0p hpq hqe hem hk hk0 hct (by omega : i < ct) hd inv
    obtain ⟨x2, L2, H2, inv2, eq2⟩ := loop8 ih hf0 h0p hpq hqe hem hk hk0 hct hd rest (i + 1) x1 L1 H1 (by omega) inv1
    refine ⟨x2, L2, H2, inv2, fun fr f => ?_⟩
    obtain ⟨fr1, f1, e1⟩ := eq1 fr f
    obtain ⟨fr2, f2, e2⟩ := eq2 fr1 f1
    refine ⟨fr2, f2, fun M hM R k => ?_⟩
    obtain ⟨m, rfl⟩ : ∃ m, M = m + 1 := ⟨M - 1, by omega⟩
    rw [e1 m (by omega), e2 m (by omega)]
end Go.Proofs.YtmmmjhkgjmbfaaaDoor
