/- A verified interpreter of the model's code, and what the functions that show trees tell by it: part 11 (S19, S20, S21, S22, S23, S24, S25). No condition but those that each statement bears. -/
import Derived.Test.YtmmmjhkgjmbfaaaDoorK10
set_option linter.unusedVariables false
set_option linter.unusedSimpArgs false
set_option linter.unusedSectionVars false
set_option linter.constructorNameAsVariable false
set_option linter.unnecessarySimpa false
/- A text as the document quotes it (chancelref1.Quote): the same. -/
namespace Go.Proofs.YtmmmjhkgjmbfaaaDoor
open Go Go.Vai
set_option maxRecDepth 100000
set_option maxHeartbeats 1600000
set_option linter.unusedSimpArgs false
def hds : List UInt8 := [48, 49, 50, 51, 52, 53, 54, 55, 56, 57, 97, 98, 99, 100, 101, 102]
def hd1 (n : Nat) : UInt8 := (hds[n]?).getD 0
def hx (n : Nat) : List UInt8 := if n < 16 then [hd1 n] else [hd1 (n / 16), hd1 (n % 16)]
theorem hds_1 {n : Nat} (h : n < 16) : (hds.drop n).take 1 = [hd1 n] := by
  have : ∀ n, n < 16 → (hds.drop n).take 1 = [hd1 n] := by decide
  exact this n h
theorem s51_1 {R : Type} {n : Nat} (hn : n < 16) {M : Nat} (hM : 60 ≤ M) (H : Heap) (k : HK R) : callK tbl (runK tbl M) R (toPa 51) [.i .i64 (n : Int)] H k = k (str [hd1 n]) H := by
  obtain ⟨m, rfl⟩ : ∃ m, M = m + 60 := ⟨M - 60, by omega⟩
  have h' : ¬ (16 : Int) ≤ (n : Int) := by omega
  rw [call_eq L51]
  unfold B51
  simp only [EX, reduceIte, Nat.reduceEqDiff, Nat.reduceAdd, Int.reduceEq, Int.reduceLT, Int.reduceLE, reduceCtorEq, Nat.reduceLeDiff, Nat.reduceSub, Nat.reduceLT, h', i_add]
  rw [show (n : Int) + 1 = ((n + 1 : Nat) : Int) by omega, wrap_n64 (by omega)]
  refine (sls_str (s := hds) (by omega) (by omega) (by show _ ≤ (16 : Int); omega)).trans ?_
  simp only [EX, reduceIte, Nat.reduceEqDiff, Nat.reduceAdd, Int.reduceEq, Int.reduceLT, Int.reduceLE, reduceCtorEq, Nat.reduceLeDiff, Nat.reduceSub, Nat.reduceLT]
  rw [Int.toNat_natCast, Int.toNat_natCast, show n + 1 - n = 1 by omega, hds_1 hn]
theorem s51 {R : Type} {n : Nat} (hn : n < 256) {M : Nat} (hM : 120 ≤ M) (H : Heap) (k : HK R) : callK tbl (runK tbl M) R (toPa 51) [.i .i64 (n : Int)] H k = k (str (hx n)) H := by
  by_cases h : n < 16
  · rw [s51_1 h (by omega)]; unfold hx; rw [if_pos h]
  · obtain ⟨m, rfl⟩ : ∃ m, M = m + 120 := ⟨M - 120, by omega⟩
    have h' : (16 : Int) ≤ (n : Int) := by omega
    rw [call_eq L51]
    unfold B51
    simp only [EX, reduceIte, Nat.reduceEqDiff, Nat.reduceAdd, Int.reduceEq, Int.reduceLT, Int.reduceLE, reduceCtorEq, Nat.reduceLeDiff, Nat.reduceSub, Nat.reduceLT, h', i_quo (show (16 : Int) ≠ 0 by decide), i_rem (show (16 : Int) ≠ 0 by decide)]
    rw [q16, wrap_n64 (by omega), s51_1 (by omega) (by omega)]
    simp only [EX, reduceIte, Nat.reduceEqDiff, Nat.reduceAdd, Int.reduceEq, Int.reduceLT, Int.reduceLE, reduceCtorEq, Nat.reduceLeDiff, Nat.reduceSub, Nat.reduceLT, i_rem (show (16 : Int) ≠ 0 by decide)]
    rw [r16, s51_1 (by omega) (by omega)]
    simp only [EX, reduceIte, Nat.reduceEqDiff, Nat.reduceAdd, Int.reduceEq, Int.reduceLT, Int.reduceLE, reduceCtorEq, Nat.reduceLeDiff, Nat.reduceSub, Nat.reduceLT]
    rw [s_add (s := [hd1 (n / 16)]) (t := [hd1 (n % 16)]) (show 1 + 1 ≤ sMax by decide)]
    simp only [EX, reduceIte, Nat.reduceEqDiff, Nat.reduceAdd, Int.reduceEq, Int.reduceLT, Int.reduceLE, reduceCtorEq, Nat.reduceLeDiff, Nat.reduceSub, Nat.reduceLT]
    unfold hx
    rw [if_neg h]; rfl
/-- A byte as it is quoted. -/
def qb (b : UInt8) : List UInt8 := if b = 92 ∨ b = 34 then [92, b] else if b = 10 then [92, 110] else if b = 9 then [92, 116] else if b < 32 ∨ b = 127 then [92, 117, 123] ++ hx b.toNat ++ [125] else [b]
theorem hx_le (n : Nat) : (hx n).length ≤ 2 := by
  unfold hx
  split
  · show 1 ≤ 2; omega
  · exact Nat.le_refl 2
theorem qb_le (b : UInt8) : (qb b).length ≤ 6 := by
  have := hx_le b.toNat
  unfold qb
  repeat' split
  · show 2 ≤ 6; omega
  · show 2 ≤ 6; omega
  · show 2 ≤ 6; omega
  · rw [List.length_append, List.length_append]; show 3 + _ + 1 ≤ 6; omega
  · show 1 ≤ 6; omega
theorem qbs_le : ∀ s : List UInt8, (s.flatMap qb).length ≤ 6 * s.length
  | [] => Nat.le_refl _
  | b :: s => by
    have h1 := qb_le b
    have h2 := qbs_le s
    rw [List.flatMap_cons, List.length_append, List.length_cons]; omega
noncomputable abbrev Lp25 : AC := (.loop (.seq (.seq (.ops [O 6 (.mv (T 4)), O 7 (.mv (T 0)), O 8 (.len true (T 7)), O 9 (.bin .lss .no (T 6) (T 8))]) (.cond (T 9) .skip (.exit 0))) (.seq (.block 1 (.seq (.ops [O 12 (.mv (T 0)), O 13 (.mv (T 4)), O 14 (.ixs (T 12) (T 13)), O 5 (.mv (T 14))]) (.block 2 (.seq (.ops [O 23 (.mv (T 5)), O 24 (.bin .eql .no (T 23) (K (.i .u8 92))), O 25 (.mv (T 24)), G 26 25 false (.mv (T 5)), G 27 25 false (.bin .eql .no (T 26) (K (.i .u8 34))), O 28 (.pick (T 25) (K (.b true)) (T 27)), O 22 (.mv (T 28))]) (.cond (T 22) (.ops [O 29 (.mv (T 3)), O 30 (.bin .add .no (T 29) (K (str [92]))), O 31 (.mv (T 0)), O 32 (.mv (T 4)), O 33 (.mv (T 4)), O 34 (.bin .add .no (T 33) (K (.i .i64 1))), O 35 (.sls (T 31) (some (T 32)) (some (T 34))), O 36 (.bin .add .no (T 30) (T 35)), O 3 (.mv (T 36))]) (.seq (.ops [O 38 (.mv (T 5)), O 39 (.bin .eql .no (T 38) (K (.i .u8 10))), O 37 (.mv (T 39))]) (.cond (T 37) (.ops [O 40 (.mv (T 3)), O 41 (.bin .add .no (T 40) (K (str [92, 110]))), O 3 (.mv (T 41))]) (.seq (.ops [O 43 (.mv (T 5)), O 44 (.bin .eql .no (T 43) (K (.i .u8 9))), O 42 (.mv (T 44))]) (.cond (T 42) (.ops [O 45 (.mv (T 3)), O 46 (.bin .add .no (T 45) (K (str [92, 116]))), O 3 (.mv (T 46))]) (.seq (.ops [O 48 (.mv (T 5)), O 49 (.bin .lss .no (T 48) (K (.i .u8 32))), O 50 (.mv (T 49)), G 51 50 false (.mv (T 5)), G 52 50 false (.bin .eql .no (T 51) (K (.i .u8 127))), O 53 (.pick (T 50) (K (.b true)) (T 52)), O 47 (.mv (T 53))]) (.cond (T 47) (.ops [O 54 (.mv (T 3)), O 55 (.bin .add .no (T 54) (K (str [92, 117, 123]))), O 56 (.mv (T 5)), O 57 (.cvi .i64 (T 56)), O 58 (.call (toPa 51) [(T 57)]), O 59 (.bin .add .no (T 55) (T 58)), O 60 (.bin .add .no (T 59) (K (str [125]))), O 3 (.mv (T 60))]) (.ops [O 15 (.mv (T 3)), O 16 (.mv (T 0)), O 17 (.mv (T 4)), O 18 (.mv (T 4)), O 19 (.bin .add .no (T 18) (K (.i .i64 1))), O 20 (.sls (T 16) (some (T 17)) (some (T 19))), O 21 (.bin .add .no (T 15) (T 20)), O 3 (.mv (T 21))])))))))))))) (.ops [O 10 (.mv (T 4)), O 11 (.bin .add .no (T 10) (K (.i .i64 1))), O 4 (.mv (T 11))]))))
structure F25 (s : List UInt8) (i : Nat) (fr : Tr AV) : Prop where
  f0 : V fr 0 = str s
  f3 : V fr 3 = str (34 :: (s.take i).flatMap qb)
  f4 : V fr 4 = .i .i64 (i : Int)
theorem loop25 {s : List UInt8} (hn : s.length ≤ 100000) (H : Heap) : ∀ (rest : List UInt8) (i : Nat), s.drop i = rest → i ≤ s.length → ∀ fr, F25 s i fr → ∃ fr', F25 s s.length fr' ∧ ∀ M, 300 + rest.length ≤ M → ∀ (R : Type) (k : XK R), runK tbl M R Lp25 fr H k = k (.exit 0) fr' H
  | [], i, hd, hi, fr, f => by
    have hi : i = s.length := by have := List.drop_eq_nil_iff.mp hd; omega
    subst hi
    have f0 := f.f0
    have f3 := f.f3
    have f4 := f.f4
    refine ⟨?fr1, ⟨?p0, ?p3, ?p4⟩, fun M hM R k => ?e⟩
    case e =>
      obtain ⟨m, rfl⟩ : ∃ m, M = m + 100 := ⟨M - 100, by omega⟩
      unfold Lp25
      rw [run_loop]
      simp only [EX, reduceIte, Nat.reduceEqDiff, Nat.reduceAdd, Int.reduceEq, Int.reduceLT, Int.reduceLE, reduceCtorEq, Nat.reduceLeDiff, Nat.reduceSub, Nat.reduceLT, f0, f4, Int.lt_irrefl]
      with_reducible rfl
    case p0 => simp only [V_S, Nat.reduceEqDiff, reduceIte]; exact f0
    case p3 => simp only [V_S, Nat.reduceEqDiff, reduceIte]; exact f3
    case p4 => simp only [V_S, Nat.reduceEqDiff, reduceIte]; exact f4
  | b :: rest, i, hd, hi, fr, f => by
    have hb : s[i]? = some b := by
      have := congrArg (fun l => l[0]?) hd
      simpa using this
    have hil : i < s.length := (List.getElem?_eq_some_iff.mp hb).1
    have hd' : s.drop (i + 1) = rest := by
      have := congrArg List.tail hd
      rwa [List.tail_drop] at this
    have hlt : (i : Int) < (s.length : Int) := by omega
    have htk : (s.take (i + 1)).flatMap qb = (s.take i).flatMap qb ++ qb b := by
      rw [List.take_add_one, hb, List.flatMap_append]; simp
    have hsl : (s.drop i).take 1 = [b] := by rw [hd]; rfl
    have hw : IntKind.i64.wrap ((i : Int) + 1) = ((i + 1 : Nat) : Int) := by rw [show (i : Int) + 1 = ((i + 1 : Nat) : Int) by omega, wrap_n64 (by omega)]
    have hql := qbs_le (s.take i)
    have htl : (s.take i).length ≤ s.length := by rw [List.length_take]; omega
    have hsM : (700000 : Nat) ≤ sMax := by decide
    have hxl := hx_le b.toNat
    have add : ∀ (R : Type) (ek : EK) (t u : List UInt8) (k : HK R) (H : Heap), t.length + u.length ≤ 700000 → binC .add ek (str t) (str u) k H = k (str (t ++ u)) H := fun R ek t u k H h => s_add (by omega)
    have hsls : ∀ (R : Type) (k : HK R) (H : Heap), slsC (str s) (some (.i .i64 (i : Int))) (some (.i .i64 ((i + 1 : Nat) : Int))) k H = k (str [b]) H := by
      intro R k H
      rw [sls_str (by omega) (by omega) (by omega), Int.toNat_natCast, Int.toNat_natCast, show i + 1 - i = 1 by omega, hsl]
    have hixs : ∀ (R : Type) (k : HK R) (H : Heap), ixsC (str s) (.i .i64 (i : Int)) k H = k (.i .u8 (b.toNat : Int)) H := fun R k H => ixs_str (by omega) (by rw [Int.toNat_natCast]; exact hb)
    have f0 := f.f0
    have f3 := f.f3
    have f4 := f.f4
    have go : ∀ fr1, F25 s (i + 1) fr1 → (∀ M, 250 ≤ M → ∀ (R : Type) (k : XK R), runK tbl (M + 1) R Lp25 fr H k = runK tbl M R Lp25 fr1 H k) → ∃ fr', F25 s s.length fr' ∧ ∀ M, 300 + (b :: rest).length ≤ M → ∀ (R : Type) (k : XK R), runK tbl M R Lp25 fr H k = k (.exit 0) fr' H := by
      intro fr1 f1 e1
      obtain ⟨fr2, f2, e2⟩ := loop25 hn H rest (i + 1) hd' hil fr1 f1
      refine ⟨fr2, f2, fun M hM R k => ?_⟩
      rw [List.length_cons] at hM
      obtain ⟨m, rfl⟩ : ∃ m, M = m + 1 := ⟨M - 1, by omega⟩
      rw [e1 m (by omega), e2 m (by omega)]
    have hbn : ∀ c : Nat, c < 256 → ((b.toNat : Int) = (c : Int) ↔ b = UInt8.ofNat c) := by
      intro c hc
      constructor
      · intro h
        apply UInt8.toNat_inj.mp
        rw [UInt8.toNat_ofNat_of_lt' (by exact hc)]; omega
      · rintro rfl
        rw [UInt8.toNat_ofNat_of_lt' (by exact hc)]
    by_cases h92 : b = 92
    · have n92 : (b.toNat : Int) = 92 := (hbn 92 (by decide)).mpr h92
      have hq : qb b = [92, b] := by unfold qb; simp [h92]
      refine go ?fr_a ⟨?p0_a, ?p3_a, ?p4_a⟩ fun M hM R k => ?e_a
      case e_a =>
        obtain ⟨m, rfl⟩ : ∃ m, M = m + 200 := ⟨M - 200, by omega⟩
        unfold Lp25
        rw [run_loop]
        simp only [EX, reduceIte, Nat.reduceEqDiff, Nat.reduceAdd, Int.reduceEq, Int.reduceLT, Int.reduceLE, reduceCtorEq, Nat.reduceLeDiff, Nat.reduceSub, Nat.reduceLT, f0, f3, f4, hlt, hixs, i_add, hw, hsls, n92]
        rw [add _ _ _ _ _ _ (by simp only [List.length_cons, List.length_nil, List.length_append]; omega)]
        simp only [EX, reduceIte, Nat.reduceEqDiff, Nat.reduceAdd, Int.reduceEq, Int.reduceLT, Int.reduceLE, reduceCtorEq, Nat.reduceLeDiff, Nat.reduceSub, Nat.reduceLT, f0, f3, f4, hw, hsls, i_add]
        rw [add _ _ _ _ _ _ (by simp only [List.length_cons, List.length_nil, List.length_append]; omega)]
        simp only [EX, reduceIte, Nat.reduceEqDiff, Nat.reduceAdd, Int.reduceEq, Int.reduceLT, Int.reduceLE, reduceCtorEq, Nat.reduceLeDiff, Nat.reduceSub, Nat.reduceLT, f0, f3, f4, hw, hsls, i_add]
        with_reducible rfl
      case p0_a => simp only [V_S, Nat.reduceEqDiff, reduceIte]; exact f0
      case p3_a => simp only [V_S, Nat.reduceEqDiff, reduceIte]; rw [htk, hq]; simp
      case p4_a => simp only [V_S, Nat.reduceEqDiff, reduceIte]
    by_cases h34 : b = 34
    · have n92 : ¬ (b.toNat : Int) = 92 := fun h => h92 ((hbn 92 (by decide)).mp h)
      have n34 : (b.toNat : Int) = 34 := (hbn 34 (by decide)).mpr h34
      have hq : qb b = [92, b] := by unfold qb; simp [h34]
      refine go ?fr_b ⟨?p0_b, ?p3_b, ?p4_b⟩ fun M hM R k => ?e_b
      case e_b =>
        obtain ⟨m, rfl⟩ : ∃ m, M = m + 200 := ⟨M - 200, by omega⟩
        unfold Lp25
        rw [run_loop]
        simp only [EX, reduceIte, Nat.reduceEqDiff, Nat.reduceAdd, Int.reduceEq, Int.reduceLT, Int.reduceLE, reduceCtorEq, Nat.reduceLeDiff, Nat.reduceSub, Nat.reduceLT, f0, f3, f4, hlt, hixs, i_add, hw, hsls, n92, n34]
        rw [add _ _ _ _ _ _ (by simp only [List.length_cons, List.length_nil, List.length_append]; omega)]
        simp only [EX, reduceIte, Nat.reduceEqDiff, Nat.reduceAdd, Int.reduceEq, Int.reduceLT, Int.reduceLE, reduceCtorEq, Nat.reduceLeDiff, Nat.reduceSub, Nat.reduceLT, f0, f3, f4, hw, hsls, i_add]
        rw [add _ _ _ _ _ _ (by simp only [List.length_cons, List.length_nil, List.length_append]; omega)]
        simp only [EX, reduceIte, Nat.reduceEqDiff, Nat.reduceAdd, Int.reduceEq, Int.reduceLT, Int.reduceLE, reduceCtorEq, Nat.reduceLeDiff, Nat.reduceSub, Nat.reduceLT, f0, f3, f4, hw, hsls, i_add]
        with_reducible rfl
      case p0_b => simp only [V_S, Nat.reduceEqDiff, reduceIte]; exact f0
      case p3_b => simp only [V_S, Nat.reduceEqDiff, reduceIte]; rw [htk, hq]; simp
      case p4_b => simp only [V_S, Nat.reduceEqDiff, reduceIte]
    by_cases h10 : b = 10
    · have n92 : ¬ (b.toNat : Int) = 92 := fun h => h92 ((hbn 92 (by decide)).mp h)
      have n34 : ¬ (b.toNat : Int) = 34 := fun h => h34 ((hbn 34 (by decide)).mp h)
      have n10 : (b.toNat : Int) = 10 := (hbn 10 (by decide)).mpr h10
      have hq : qb b = [92, 110] := by unfold qb; simp [h10]
      refine go ?fr_c ⟨?p0_c, ?p3_c, ?p4_c⟩ fun M hM R k => ?e_c
      case e_c =>
        obtain ⟨m, rfl⟩ : ∃ m, M = m + 200 := ⟨M - 200, by omega⟩
        unfold Lp25
        rw [run_loop]
        simp only [EX, reduceIte, Nat.reduceEqDiff, Nat.reduceAdd, Int.reduceEq, Int.reduceLT, Int.reduceLE, reduceCtorEq, Nat.reduceLeDiff, Nat.reduceSub, Nat.reduceLT, f0, f3, f4, hlt, hixs, i_add, hw, hsls, n92, n34, n10]
        rw [add _ _ _ _ _ _ (by simp only [List.length_cons, List.length_nil, List.length_append]; omega)]
        simp only [EX, reduceIte, Nat.reduceEqDiff, Nat.reduceAdd, Int.reduceEq, Int.reduceLT, Int.reduceLE, reduceCtorEq, Nat.reduceLeDiff, Nat.reduceSub, Nat.reduceLT, f0, f3, f4, hw, hsls, i_add]
        with_reducible rfl
      case p0_c => simp only [V_S, Nat.reduceEqDiff, reduceIte]; exact f0
      case p3_c => simp only [V_S, Nat.reduceEqDiff, reduceIte]; rw [htk, hq]; simp
      case p4_c => simp only [V_S, Nat.reduceEqDiff, reduceIte]
    by_cases h9 : b = 9
    · have n92 : ¬ (b.toNat : Int) = 92 := fun h => h92 ((hbn 92 (by decide)).mp h)
      have n34 : ¬ (b.toNat : Int) = 34 := fun h => h34 ((hbn 34 (by decide)).mp h)
      have n10 : ¬ (b.toNat : Int) = 10 := fun h => h10 ((hbn 10 (by decide)).mp h)
      have n9 : (b.toNat : Int) = 9 := (hbn 9 (by decide)).mpr h9
      have hq : qb b = [92, 116] := by unfold qb; simp [h9]
      refine go ?fr_d ⟨?p0_d, ?p3_d, ?p4_d⟩ fun M hM R k => ?e_d
      case e_d =>
        obtain ⟨m, rfl⟩ : ∃ m, M = m + 200 := ⟨M - 200, by omega⟩
        unfold Lp25
        rw [run_loop]
        simp only [EX, reduceIte, Nat.reduceEqDiff, Nat.reduceAdd, Int.reduceEq, Int.reduceLT, Int.reduceLE, reduceCtorEq, Nat.reduceLeDiff, Nat.reduceSub, Nat.reduceLT, f0, f3, f4, hlt, hixs, i_add, hw, hsls, n92, n34, n10, n9]
        rw [add _ _ _ _ _ _ (by simp only [List.length_cons, List.length_nil, List.length_append]; omega)]
        simp only [EX, reduceIte, Nat.reduceEqDiff, Nat.reduceAdd, Int.reduceEq, Int.reduceLT, Int.reduceLE, reduceCtorEq, Nat.reduceLeDiff, Nat.reduceSub, Nat.reduceLT, f0, f3, f4, hw, hsls, i_add]
        with_reducible rfl
      case p0_d => simp only [V_S, Nat.reduceEqDiff, reduceIte]; exact f0
      case p3_d => simp only [V_S, Nat.reduceEqDiff, reduceIte]; rw [htk, hq]; simp
      case p4_d => simp only [V_S, Nat.reduceEqDiff, reduceIte]
    by_cases h32 : b < 32
    · have n92 : ¬ (b.toNat : Int) = 92 := fun h => h92 ((hbn 92 (by decide)).mp h)
      have n34 : ¬ (b.toNat : Int) = 34 := fun h => h34 ((hbn 34 (by decide)).mp h)
      have n10 : ¬ (b.toNat : Int) = 10 := fun h => h10 ((hbn 10 (by decide)).mp h)
      have n9 : ¬ (b.toNat : Int) = 9 := fun h => h9 ((hbn 9 (by decide)).mp h)
      have l32 : (b.toNat : Int) < 32 := by have := UInt8.lt_iff_toNat_lt.mp h32; have e : (32 : UInt8).toNat = 32 := rfl; omega
      have hq : qb b = [92, 117, 123] ++ hx b.toNat ++ [125] := by
        unfold qb
        rw [if_neg (by intro h; rcases h with h | h; exact h92 h; exact h34 h), if_neg h10, if_neg h9, if_pos (Or.inl h32)]
      have hb256 : b.toNat < 256 := b.toNat_lt
      refine go ?fr_e ⟨?p0_e, ?p3_e, ?p4_e⟩ fun M hM R k => ?e_e
      case e_e =>
        obtain ⟨m, rfl⟩ : ∃ m, M = m + 200 := ⟨M - 200, by omega⟩
        unfold Lp25
        rw [run_loop]
        simp only [EX, reduceIte, Nat.reduceEqDiff, Nat.reduceAdd, Int.reduceEq, Int.reduceLT, Int.reduceLE, reduceCtorEq, Nat.reduceLeDiff, Nat.reduceSub, Nat.reduceLT, f0, f3, f4, hlt, hixs, i_add, hw, hsls, n92, n34, n10, n9, l32]
        rw [add _ _ _ _ _ _ (by simp only [List.length_cons, List.length_nil, List.length_append]; omega)]
        simp only [EX, reduceIte, Nat.reduceEqDiff, Nat.reduceAdd, Int.reduceEq, Int.reduceLT, Int.reduceLE, reduceCtorEq, Nat.reduceLeDiff, Nat.reduceSub, Nat.reduceLT, f0, f3, f4, hw, hsls, i_add]
        rw [wrap_n64 (by omega), s51 hb256 (by omega)]
        simp only [EX, reduceIte, Nat.reduceEqDiff, Nat.reduceAdd, Int.reduceEq, Int.reduceLT, Int.reduceLE, reduceCtorEq, Nat.reduceLeDiff, Nat.reduceSub, Nat.reduceLT]
        rw [add _ _ _ _ _ _ (by simp only [List.length_cons, List.length_nil, List.length_append]; omega)]
        simp only [EX, reduceIte, Nat.reduceEqDiff, Nat.reduceAdd, Int.reduceEq, Int.reduceLT, Int.reduceLE, reduceCtorEq, Nat.reduceLeDiff, Nat.reduceSub, Nat.reduceLT, f0, f3, f4, hw, hsls, i_add]
        rw [add _ _ _ _ _ _ (by simp only [List.length_cons, List.length_nil, List.length_append]; omega)]
        simp only [EX, reduceIte, Nat.reduceEqDiff, Nat.reduceAdd, Int.reduceEq, Int.reduceLT, Int.reduceLE, reduceCtorEq, Nat.reduceLeDiff, Nat.reduceSub, Nat.reduceLT, f0, f3, f4, hw, hsls, i_add]
        with_reducible rfl
      case p0_e => simp only [V_S, Nat.reduceEqDiff, reduceIte]; exact f0
      case p3_e => simp only [V_S, Nat.reduceEqDiff, reduceIte]; rw [htk, hq]; simp
      case p4_e => simp only [V_S, Nat.reduceEqDiff, reduceIte]
    have l32 : ¬ (b.toNat : Int) < 32 := by
      intro h
      exact h32 (UInt8.lt_iff_toNat_lt.mpr (by have e : (32 : UInt8).toNat = 32 := rfl; omega))
    by_cases h127 : b = 127
    · have n92 : ¬ (b.toNat : Int) = 92 := fun h => h92 ((hbn 92 (by decide)).mp h)
      have n34 : ¬ (b.toNat : Int) = 34 := fun h => h34 ((hbn 34 (by decide)).mp h)
      have n10 : ¬ (b.toNat : Int) = 10 := fun h => h10 ((hbn 10 (by decide)).mp h)
      have n9 : ¬ (b.toNat : Int) = 9 := fun h => h9 ((hbn 9 (by decide)).mp h)
      have n127 : decide ((b.toNat : Int) = 127) = true := decide_eq_true ((hbn 127 (by decide)).mpr h127)
      have hq : qb b = [92, 117, 123] ++ hx b.toNat ++ [125] := by
        unfold qb
        rw [if_neg (by intro h; rcases h with h | h; exact h92 h; exact h34 h), if_neg h10, if_neg h9, if_pos (Or.inr h127)]
      have hb256 : b.toNat < 256 := b.toNat_lt
      refine go ?fr_f ⟨?p0_f, ?p3_f, ?p4_f⟩ fun M hM R k => ?e_f
      case e_f =>
        obtain ⟨m, rfl⟩ : ∃ m, M = m + 200 := ⟨M - 200, by omega⟩
        unfold Lp25
        rw [run_loop]
        simp only [EX, reduceIte, Nat.reduceEqDiff, Nat.reduceAdd, Int.reduceEq, Int.reduceLT, Int.reduceLE, reduceCtorEq, Nat.reduceLeDiff, Nat.reduceSub, Nat.reduceLT, f0, f3, f4, hlt, hixs, i_add, hw, hsls, n92, n34, n10, n9, l32, n127]
        rw [add _ _ _ _ _ _ (by simp only [List.length_cons, List.length_nil, List.length_append]; omega)]
        simp only [EX, reduceIte, Nat.reduceEqDiff, Nat.reduceAdd, Int.reduceEq, Int.reduceLT, Int.reduceLE, reduceCtorEq, Nat.reduceLeDiff, Nat.reduceSub, Nat.reduceLT, f0, f3, f4, hw, hsls, i_add]
        rw [wrap_n64 (by omega), s51 hb256 (by omega)]
        simp only [EX, reduceIte, Nat.reduceEqDiff, Nat.reduceAdd, Int.reduceEq, Int.reduceLT, Int.reduceLE, reduceCtorEq, Nat.reduceLeDiff, Nat.reduceSub, Nat.reduceLT]
        rw [add _ _ _ _ _ _ (by simp only [List.length_cons, List.length_nil, List.length_append]; omega)]
        simp only [EX, reduceIte, Nat.reduceEqDiff, Nat.reduceAdd, Int.reduceEq, Int.reduceLT, Int.reduceLE, reduceCtorEq, Nat.reduceLeDiff, Nat.reduceSub, Nat.reduceLT, f0, f3, f4, hw, hsls, i_add]
        rw [add _ _ _ _ _ _ (by simp only [List.length_cons, List.length_nil, List.length_append]; omega)]
        simp only [EX, reduceIte, Nat.reduceEqDiff, Nat.reduceAdd, Int.reduceEq, Int.reduceLT, Int.reduceLE, reduceCtorEq, Nat.reduceLeDiff, Nat.reduceSub, Nat.reduceLT, f0, f3, f4, hw, hsls, i_add]
        with_reducible rfl
      case p0_f => simp only [V_S, Nat.reduceEqDiff, reduceIte]; exact f0
      case p3_f => simp only [V_S, Nat.reduceEqDiff, reduceIte]; rw [htk, hq]; simp
      case p4_f => simp only [V_S, Nat.reduceEqDiff, reduceIte]
    · have n92 : ¬ (b.toNat : Int) = 92 := fun h => h92 ((hbn 92 (by decide)).mp h)
      have n34 : ¬ (b.toNat : Int) = 34 := fun h => h34 ((hbn 34 (by decide)).mp h)
      have n10 : ¬ (b.toNat : Int) = 10 := fun h => h10 ((hbn 10 (by decide)).mp h)
      have n9 : ¬ (b.toNat : Int) = 9 := fun h => h9 ((hbn 9 (by decide)).mp h)
      have n127 : ¬ (b.toNat : Int) = 127 := fun h => h127 ((hbn 127 (by decide)).mp h)
      have hq : qb b = [b] := by
        unfold qb
        rw [if_neg (by intro h; rcases h with h | h; exact h92 h; exact h34 h), if_neg h10, if_neg h9, if_neg (by intro h; rcases h with h | h; exact h32 h; exact h127 h)]
      refine go ?fr_g ⟨?p0_g, ?p3_g, ?p4_g⟩ fun M hM R k => ?e_g
      case e_g =>
        obtain ⟨m, rfl⟩ : ∃ m, M = m + 200 := ⟨M - 200, by omega⟩
        unfold Lp25
        rw [run_loop]
        simp only [EX, reduceIte, Nat.reduceEqDiff, Nat.reduceAdd, Int.reduceEq, Int.reduceLT, Int.reduceLE, reduceCtorEq, Nat.reduceLeDiff, Nat.reduceSub, Nat.reduceLT, f0, f3, f4, hlt, hixs, i_add, hw, hsls, n92, n34, n10, n9, l32, n127]
        rw [add _ _ _ _ _ _ (by simp only [List.length_cons, List.length_nil, List.length_append]; omega)]
        simp only [EX, reduceIte, Nat.reduceEqDiff, Nat.reduceAdd, Int.reduceEq, Int.reduceLT, Int.reduceLE, reduceCtorEq, Nat.reduceLeDiff, Nat.reduceSub, Nat.reduceLT, f0, f3, f4, hw, hsls, i_add]
        with_reducible rfl
      case p0_g => simp only [V_S, Nat.reduceEqDiff, reduceIte]; exact f0
      case p3_g => simp only [V_S, Nat.reduceEqDiff, reduceIte]; rw [htk, hq]; simp
      case p4_g => simp only [V_S, Nat.reduceEqDiff, reduceIte]
theorem s25 {R : Type} {s : List UInt8} (hn : s.length ≤ 1000) {M : Nat} (hM : 1500 ≤ M) (H : Heap) (k : HK R) : callK tbl (runK tbl M) R (toPa 25) [str s] H k = k (str (34 :: s.flatMap qb ++ [34])) H := by
  obtain ⟨m, rfl⟩ : ∃ m, M = m + 1500 := ⟨M - 1500, by omega⟩
  have hql := qbs_le s
  have hsM : (700000 : Nat) ≤ sMax := by decide
  have el := loop25 (s := s) (by omega) H s 0 rfl (Nat.zero_le _)
  have eq' : ∀ fr, F25 s 0 fr → ∀ M, 300 + s.length ≤ M → ∀ (R : Type) (k : XK R) (res : Option R), (∀ fr', F25 s s.length fr' → k (.exit 0) fr' H = res) → runK tbl M R Lp25 fr H k = res := by
    intro fr f M hM R k res hr
    obtain ⟨fr', f', er⟩ := el fr f
    rw [er M hM R k, hr fr' f']
  rw [call_eq L25]
  unfold B25
  simp only [EX, reduceIte, Nat.reduceEqDiff, Nat.reduceAdd, Int.reduceEq, Int.reduceLT, Int.reduceLE, reduceCtorEq, Nat.reduceLeDiff, Nat.reduceSub, Nat.reduceLT]
  refine eq' _ ?ff _ ?hm R _ _ fun fr' f' => ?ee
  case ff => exact ⟨by simp only [V_S, Nat.reduceEqDiff, reduceIte], by (simp only [V_S, Nat.reduceEqDiff, reduceIte]) <;> rfl, by (simp only [V_S, Nat.reduceEqDiff, reduceIte]) <;> rfl⟩
  case hm => omega
  case ee =>
    have f3 := f'.f3
    rw [List.take_length] at f3
    simp only [EX, reduceIte, Nat.reduceEqDiff, Nat.reduceAdd, Int.reduceEq, Int.reduceLT, Int.reduceLE, reduceCtorEq, Nat.reduceLeDiff, Nat.reduceSub, Nat.reduceLT, f3]
    rw [s_add (by simp only [List.length_cons, List.length_nil]; omega)]
    simp only [EX, reduceIte, Nat.reduceEqDiff, Nat.reduceAdd, Int.reduceEq, Int.reduceLT, Int.reduceLE, reduceCtorEq, Nat.reduceLeDiff, Nat.reduceSub, Nat.reduceLT]
theorem qb_tx : ∀ {l : List Nat}, (∀ i ∈ l, i < 22) → (txt l).flatMap qb = qtx l
  | [], _ => rfl
  | i :: l, h => by
    have hi := h i (List.mem_cons_self ..)
    have h1 : ∀ i, i < 22 → (en i).flatMap qb = qr i := by decide
    show (en i ++ txt l).flatMap qb = qr i ++ qtx l
    rw [List.flatMap_append, h1 i hi, qb_tx fun j hj => h j (List.mem_cons_of_mem _ hj)]
/-- The document's quoted text: the same. -/
theorem s25q {R : Type} {l : List Nat} (hl : ∀ i ∈ l, i < 22) (hn : l.length ≤ 200) {M : Nat} (hM : 1500 ≤ M) (H : Heap) (k : HK R) : callK tbl (runK tbl M) R (toPa 25) [str (txt l)] H k = k (str (quo l)) H := by
  have := txt_le hl
  rw [s25 (by omega) hM, qb_tx hl]; rfl
end Go.Proofs.YtmmmjhkgjmbfaaaDoor

/- Texts joined (strings.Join). -/
namespace Go.Proofs.YtmmmjhkgjmbfaaaDoor
open Go Go.Vai
set_option maxRecDepth 100000
set_option maxHeartbeats 1600000
set_option linter.unusedSimpArgs false
theorem sll_from {R : Type} {k : HK R} {H : Heap} {a : Pa} {off len sz : Nat} {kd : IntKind} {l : Nat} (h1 : l ≤ len) :
    sllC sz (.sl a off len none sz) (some (.i kd (l : Int))) none none k H = k (.sl a (off + l * sz) (len - l) none sz) H := by
  show guardK (Nat.beq sz sz) (guardK (Nat.ble l len) (forceN (Nat.add off (Nat.mul l sz)) fun off => guardK (Nat.ble len len) (k (.sl a off (Nat.sub len l) none sz) H))) = _
  rw [Nat.beq_refl, Nat.ble_eq_true_of_le h1, Nat.ble_eq_true_of_le (Nat.le_refl len), forceN_eq]; rfl
/-- Grow of a builder that is new. -/
theorem s57 {n0 : Nat} {H : Heap} {p : Pa} (b : Bd n0 H p .ns [] 0) (hn0 : n0 ≤ H.next.toN) {n : Nat} (hn : n ≤ roomN) :
    ∃ H' x', Chg p .ns x' H H' ∧ Bd n0 H' p x' [] n ∧ ∀ M, 300 ≤ M → ∀ (R : Type) (k : HK R), callK tbl (runK tbl M) R (toPa 57) [.p p 0, .i .i64 (n : Int)] H k = k (.tu []) H' := by
  obtain ⟨H1, c1, b1, r1, e1⟩ := s71 b
  have l1 := r1.l 1 (v := .ns) rfl
  have hroom : roomN < 9223372036854775807 := by decide
  have hneg : ¬ (n : Int) < 0 := by omega
  have w0 : IntKind.i64.wrap (0 - 0) = 0 := by decide
  by_cases hz : n = 0
  · subst hz
    refine ⟨H1, .ns, c1, b1, fun M hM R k => ?_⟩
    obtain ⟨m, rfl⟩ : ∃ m, M = m + 300 := ⟨M - 300, by omega⟩
    have hlt : ¬ (0 : Int) < ((0 : Nat) : Int) := by omega
    rw [call_eq L57]
    unfold B57
    simp only [EX, reduceIte, Nat.reduceEqDiff, Nat.reduceAdd, Int.reduceEq, Int.reduceLT, Int.reduceLE, reduceCtorEq, Nat.reduceLeDiff, Nat.reduceSub, Nat.reduceLT]
    rw [e1 _ (by omega)]
    simp only [EX, reduceIte, Nat.reduceEqDiff, Nat.reduceAdd, Int.reduceEq, Int.reduceLT, Int.reduceLE, reduceCtorEq, Nat.reduceLeDiff, Nat.reduceSub, Nat.reduceLT, hneg, l1, i_sub, w0, hlt]
  · obtain ⟨H2, e2⟩ : ∃ H2, H2 = H1.alloc (.cells false 0 5 n (setCells (repK [.u] n) 0 .leaf)) := ⟨_, rfl⟩
    have g2 : Grow H1 H2 := by rw [e2]; exact Grow.alloc H1 _
    have n2 : H2.next.toN = H1.next.toN + 1 := by rw [e2]; exact next_alloc H1 _
    have ra : Row H2 H1.next 5 (repK [.u] n) := by
      rw [e2]
      have := Row.new H1 5 (repK [.u] n)
      rw [rep_len] at this
      exact this
    have b2 := b1.grow g2
    have r2 := r1.grow g2 b1.pl
    have l2 := r2.l 1 (v := .ns) rfl
    obtain ⟨H3, r3, b3, n3, est⟩ := r2.st_one (off := 1) (v := .sl H1.next 0 0 none 1) b2.pl (Nat.lt_succ_self 1) rfl
    have r3 : Row H3 p 105 [.p p 0, .sl H1.next 0 0 none 1] := r3
    have hlt : (0 : Int) < (n : Int) := by omega
    have hp1 := b1.pl
    have hn1 := c1.next
    have w1 : IntKind.i64.wrap (2 * 0) = 0 := by decide
    have w2 : IntKind.i64.wrap (0 + (n : Int)) = (n : Int) := by rw [Int.zero_add, wrap_n64 (by omega)]
    have n3' : H3.next.toN = H2.next.toN := by rw [n3]
    have hb0 := b.pl
    refine ⟨H3, .sl H1.next 0 0 none 1, ⟨by omega, fun c hc hp _ => ?_, fun c hc _ o l cc z q => ?_, fun f => b3.dead (g2.dead (c1.dead f))⟩, ⟨b.pn, by omega, ?_, ⟨_, r3, Or.inr rfl⟩, Or.inr ⟨H1.next, repK [.u] n, rfl, ra.but b3 (by omega) (by intro q; rw [q] at hp1; omega), rep_len n, Nat.zero_le _, rfl, by omega, by omega⟩⟩, fun M hM R k => ?_⟩
    · rw [b3.get c (by omega) hp, g2.get c (by omega), c1.get c hc hp (by intro o l cc z q; cases q)]
    · cases q; omega
    · intro o l cc z q
      cases q; omega
    · obtain ⟨m, rfl⟩ : ∃ m, M = m + 300 := ⟨M - 300, by omega⟩
      rw [call_eq L57]
      unfold B57
      simp only [EX, reduceIte, Nat.reduceEqDiff, Nat.reduceAdd, Int.reduceEq, Int.reduceLT, Int.reduceLE, reduceCtorEq, Nat.reduceLeDiff, Nat.reduceSub, Nat.reduceLT]
      rw [e1 _ (by omega)]
      simp only [EX, reduceIte, Nat.reduceEqDiff, Nat.reduceAdd, Int.reduceEq, Int.reduceLT, Int.reduceLE, reduceCtorEq, Nat.reduceLeDiff, Nat.reduceSub, Nat.reduceLT, hneg, l1, i_sub, w0, hlt]
      rw [call_eq L72]
      unfold B72
      simp only [EX, reduceIte, Nat.reduceEqDiff, Nat.reduceAdd, Int.reduceEq, Int.reduceLT, Int.reduceLE, reduceCtorEq, Nat.reduceLeDiff, Nat.reduceSub, Nat.reduceLT, l1, i_mul, w1, i_add, w2]
      rw [mnz_n hn, ← e2]
      simp only [EX, reduceIte, Nat.reduceEqDiff, Nat.reduceAdd, Int.reduceEq, Int.reduceLT, Int.reduceLE, reduceCtorEq, Nat.reduceLeDiff, Nat.reduceSub, Nat.reduceLT, l1, l2]
      rw [sll_to (by omega) (by omega)]
      simp only [EX, reduceIte, Nat.reduceEqDiff, Nat.reduceAdd, Int.reduceEq, Int.reduceLT, Int.reduceLE, reduceCtorEq, Nat.reduceLeDiff, Nat.reduceSub, Nat.reduceLT, l2]
      refine (est _ _).trans ?_
      simp only [EX, reduceIte, Nat.reduceEqDiff, Nat.reduceAdd, Int.reduceEq, Int.reduceLT, Int.reduceLE, reduceCtorEq, Nat.reduceLeDiff, Nat.reduceSub, Nat.reduceLT]
/-- Texts in a row, as they are held. -/
def Strs (H : Heap) (x : AV) (l : List (List UInt8)) : Prop := (x = .ns ∧ l = []) ∨ ∃ a, x = .sl a 0 l.length none 1 ∧ Row H a 9 (l.map str) ∧ a.toN < H.next.toN
theorem Strs.len {R : Type} {H : Heap} {x : AV} {l : List (List UInt8)} (h : Strs H x l) (k : HK R) (G : Heap) : lenC false x k G = k (.i .i64 (l.length : Int)) G := by
  obtain ⟨rfl, rfl⟩ | ⟨a, rfl, _⟩ := h <;> rfl
theorem Strs.grow {H H' : Heap} {x : AV} {l : List (List UInt8)} (h : Strs H x l) (g : Grow H H') : Strs H' x l := by
  obtain h | ⟨a, e, hr, ha⟩ := h
  · exact Or.inl h
  · exact Or.inr ⟨a, e, hr.grow g ha, Nat.lt_of_lt_of_le ha g.next⟩
theorem Strs.of {H0 H : Heap} {x : AV} {l : List (List UInt8)} (h : Held H0 H 9 1 x l.length (l.map str)) : Strs H x l := by
  obtain ⟨rfl, h1, h2⟩ | ⟨a, rfl, _, hr, _, ha⟩ := h
  · exact Or.inl ⟨rfl, List.length_eq_zero_iff.mp h1⟩
  · exact Or.inr ⟨a, rfl, hr, ha⟩
def sumL (l : List (List UInt8)) : Nat := (l.map List.length).sum
theorem sumL_app (l l' : List (List UInt8)) : sumL (l ++ l') = sumL l + sumL l' := by unfold sumL; rw [List.map_append, List.sum_append]
theorem sumL_cons (s : List UInt8) (l : List (List UInt8)) : sumL (s :: l) = s.length + sumL l := rfl
/-- Texts joined by commas. -/
def joinT (l : List (List UInt8)) : List UInt8 := l.flatMap fun s => [44, 32] ++ s
def joinS : List (List UInt8) → List UInt8
  | [] => []
  | s :: l => s ++ joinT l
theorem joinT_len : ∀ l, (joinT l).length = 2 * l.length + sumL l
  | [] => rfl
  | s :: l => by
    have := joinT_len l
    show ([44, 32] ++ s ++ joinT l).length = _
    rw [List.length_append, List.length_append, this, sumL_cons]
    have e : (s :: l).length = l.length + 1 := rfl
    have e2 : [(44 : UInt8), 32].length = 2 := rfl
    omega
theorem joinT_app (l l' : List (List UInt8)) : joinT (l ++ l') = joinT l ++ joinT l' := List.flatMap_append
noncomputable abbrev Lp35a : AC := (.loop (.seq (.ops [O 42 (.bin .lss .no (T 41) (T 40))]) (.seq (.cond (T 42) .skip (.exit 1)) (.seq (.block 2 (.seq (.ops [O 43 (.ixa 1 (T 39) (T 41)), O 44 (.ld false 1 (T 43)), O 7 (.mv (T 44))]) (.seq (.seq (.ops [O 45 (.mv (T 7)), O 46 (.len true (T 45)), O 47 (.mv (T 5)), O 48 (.bin .sub .no (K (.i .i64 9223372036854775807)) (T 47)), O 49 (.bin .gtr .no (T 46) (T 48))]) (.cond (T 49) (.ops [O 50 (.mkif 9 (K (.s 36 224290585932187492254785139548022567174022358584336590143443395708218495032327848882039))), O_ (.bad)]) .skip)) (.ops [O 51 (.mv (T 5)), O 52 (.mv (T 7)), O 53 (.len true (T 52)), O 54 (.bin .add .no (T 51) (T 53)), O 5 (.mv (T 54))])))) (.ops [O 55 (.bin .add .no (T 41) (K (.i .i64 1))), O 41 (.mv (T 55))])))))
noncomputable abbrev Lp35b : AC := (.loop (.seq (.ops [O 66 (.bin .lss .no (T 65) (T 64))]) (.seq (.cond (T 66) .skip (.exit 3)) (.seq (.block 4 (.seq (.ops [O 67 (.ixa 1 (T 63) (T 65)), O 68 (.ld false 1 (T 67)), O 10 (.mv (T 68))]) (.seq (.ops [O 69 (.mv (T 1)), O 70 (.call (toPa 58) [(T 8), (T 69)])]) (.ops [O 71 (.mv (T 10)), O 72 (.call (toPa 58) [(T 8), (T 71)])])))) (.ops [O 73 (.bin .add .no (T 65) (K (.i .i64 1))), O 65 (.mv (T 73))])))))
structure F35a (a : Pa) (o n i t : Nat) (fr : Tr AV) : Prop where
  f5 : V fr 5 = .i .i64 (t : Int)
  f39 : V fr 39 = .sl a o n none 1
  f40 : V fr 40 = .i .i64 (n : Int)
  f41 : V fr 41 = .i .i64 (i : Int)
  f0 : V fr 0 = .sl a o n none 1
  f1 : V fr 1 = str [44, 32]
theorem loop35a {H : Heap} {a : Pa} {l : List (List UInt8)} (hr : Row H a 9 (l.map str)) (hn : l.length ≤ 1000) (hs : 2 * l.length + sumL l ≤ roomN) {t0 : Nat} (ht0 : t0 ≤ 2 * l.length) : ∀ (rest done : List (List UInt8)), done ++ rest = l → ∀ fr, F35a a 0 l.length done.length (t0 + sumL done) fr →
    ∃ fr', F35a a 0 l.length l.length (t0 + sumL l) fr' ∧ ∀ M, 100 + rest.length ≤ M → ∀ (R : Type) (k : XK R), runK tbl M R Lp35a fr H k = k (.exit 1) fr' H
  | [], done, hd, fr, f => by
    rw [List.append_nil] at hd
    subst hd
    have f40 := f.f40
    have f41 := f.f41
    refine ⟨?fr1, ⟨?p5, ?p39, ?p40, ?p41, ?p0, ?p1⟩, fun M hM R k => ?e⟩
    case e =>
      obtain ⟨m, rfl⟩ : ∃ m, M = m + 100 := ⟨M - 100, by omega⟩
      unfold Lp35a
      rw [run_loop]
      simp only [EX, reduceIte, Nat.reduceEqDiff, Nat.reduceAdd, Int.reduceEq, Int.reduceLT, Int.reduceLE, reduceCtorEq, Nat.reduceLeDiff, Nat.reduceSub, Nat.reduceLT, f40, f41, Int.lt_irrefl]
      with_reducible rfl
    case p5 => simp only [V_S, Nat.reduceEqDiff, reduceIte]; exact f.f5
    case p39 => simp only [V_S, Nat.reduceEqDiff, reduceIte]; exact f.f39
    case p40 => simp only [V_S, Nat.reduceEqDiff, reduceIte]; exact f40
    case p41 => simp only [V_S, Nat.reduceEqDiff, reduceIte]; exact f41
    case p0 => simp only [V_S, Nat.reduceEqDiff, reduceIte]; exact f.f0
    case p1 => simp only [V_S, Nat.reduceEqDiff, reduceIte]; exact f.f1
  | s :: rest, done, hd, fr, f => by
    have hl : l.length = done.length + rest.length + 1 := by rw [← hd]; simp; omega
    have hsum : sumL l = sumL done + s.length + sumL rest := by rw [← hd, sumL_app, sumL_cons]; omega
    have hroom : roomN < 4000000000000000000 := by decide
    have hg : (l.map str)[done.length]? = some (str s) := by rw [← hd, List.getElem?_map, List.getElem?_append_right (Nat.le_refl _), Nat.sub_self]; rfl
    have hlt : (done.length : Int) < (l.length : Int) := by omega
    have hov : ¬ IntKind.i64.wrap (9223372036854775807 - ((t0 + sumL done : Nat) : Int)) < (s.length : Int) := by
      rw [show (9223372036854775807 : Int) - ((t0 + sumL done : Nat) : Int) = ((9223372036854775807 - (t0 + sumL done) : Nat) : Int) by omega, wrap_n64 (by omega)]; omega
    have hw1 : IntKind.i64.wrap (((t0 + sumL done : Nat) : Int) + (s.length : Int)) = ((t0 + sumL (done ++ [s]) : Nat) : Int) := by
      rw [sumL_app, sumL_cons, show ((t0 + sumL done : Nat) : Int) + (s.length : Int) = ((t0 + (sumL done + (s.length + sumL [])) : Nat) : Int) by show _ = ((t0 + (sumL done + (s.length + 0)) : Nat) : Int); omega, wrap_n64 (by show t0 + (sumL done + (s.length + 0)) < _; omega)]
    have hw2 : IntKind.i64.wrap ((done.length : Int) + 1) = ((done ++ [s]).length : Int) := by rw [show (done.length : Int) + 1 = ((done ++ [s]).length : Int) by simp, wrap_n64 (by simp; omega)]
    have f5 := f.f5
    have f39 := f.f39
    have f40 := f.f40
    have f41 := f.f41
    have hix : ∀ (R : Type) (k : HK R) (G : Heap), ixaC 1 (.sl a 0 l.length none 1) (.i .i64 (done.length : Int)) k G = k (.p a done.length) G := by
      intro R k G
      rw [ixa_sl (by omega) (by omega), Int.toNat_natCast, Nat.zero_add, Nat.mul_one]
    have hld := hr.l done.length hg
    have main : ∃ fr1, F35a a 0 l.length (done ++ [s]).length (t0 + sumL (done ++ [s])) fr1 ∧ ∀ M, 99 ≤ M → ∀ (R : Type) (k : XK R), runK tbl (M + 1) R Lp35a fr H k = runK tbl M R Lp35a fr1 H k := by
      refine ⟨?fr1b, ⟨?p5b, ?p39b, ?p40b, ?p41b, ?p0b, ?p1b⟩, fun M hM R k => ?eb⟩
      case eb =>
        obtain ⟨m, rfl⟩ : ∃ m, M = m + 99 := ⟨M - 99, by omega⟩
        unfold Lp35a
        rw [run_loop]
        simp only [EX, reduceIte, Nat.reduceEqDiff, Nat.reduceAdd, Int.reduceEq, Int.reduceLT, Int.reduceLE, reduceCtorEq, Nat.reduceLeDiff, Nat.reduceSub, Nat.reduceLT, f5, f39, f40, f41, hlt, hix, hld, i_sub, hov, i_add, hw1, hw2]
        with_reducible rfl
      case p5b => simp only [V_S, Nat.reduceEqDiff, reduceIte]
      case p39b => simp only [V_S, Nat.reduceEqDiff, reduceIte]; exact f39
      case p40b => simp only [V_S, Nat.reduceEqDiff, reduceIte]; exact f40
      case p41b => simp only [V_S, Nat.reduceEqDiff, reduceIte]
      case p0b => simp only [V_S, Nat.reduceEqDiff, reduceIte]; exact f.f0
      case p1b => simp only [V_S, Nat.reduceEqDiff, reduceIte]; exact f.f1
    obtain ⟨fr1, f1, e1⟩ := main
    obtain ⟨fr2, f2, e2⟩ := loop35a hr hn hs ht0 rest (done ++ [s]) (by rw [← hd]; simp) fr1 f1
    refine ⟨fr2, f2, fun M hM R k => ?_⟩
    rw [List.length_cons] at hM
    obtain ⟨m, rfl⟩ : ∃ m, M = m + 1 := ⟨M - 1, by omega⟩
    rw [e1 m (by omega), e2 m (by omega)]
structure F35b (p a : Pa) (n i : Nat) (fr : Tr AV) : Prop where
  f1 : V fr 1 = str [44, 32]
  f8 : V fr 8 = .p p 0
  f63 : V fr 63 = .sl a 1 n none 1
  f64 : V fr 64 = .i .i64 (n : Int)
  f65 : V fr 65 = .i .i64 (i : Int)
structure H35b (H0 : Heap) (p : Pa) (T : Nat) (s : List UInt8) (x : AV) (H : Heap) : Prop where
  g : Grow H0 H
  b : Bd H0.next.toN H p x s T
theorem H35b.put {H0 H : Heap} {p : Pa} {T : Nat} {s t : List UInt8} {x : AV} (h : H35b H0 p T s x H) (hT : (s ++ t).length ≤ T) (hr : T ≤ roomN) :
    ∃ x' H', H35b H0 p T (s ++ t) x' H' ∧ ∀ M, 100 ≤ M → ∀ (R : Type) (k : HK R), callK tbl (runK tbl M) R (toPa 58) [.p p 0, str t] H k = k (.tu [.i .i64 (t.length : Int), .ni]) H' := by
  obtain ⟨H', x', c, b, e⟩ := s58 (t := t) h.b h.g.next (Or.inl hT) (by omega)
  have hz : max T (s ++ t).length = T := by omega
  rw [hz] at b
  exact ⟨x', H', ⟨c.of h.b h.g (Nat.le_refl _), b⟩, e⟩
theorem loop35b {H0 : Heap} {p a : Pa} {s0 : List UInt8} {l : List (List UInt8)} (hr : Row H0 a 9 ((s0 :: l).map str)) (ha : a.toN < H0.next.toN) (hn : l.length ≤ 1000) {T : Nat} (hT : (s0 ++ joinT l).length ≤ T) (hroom : T ≤ roomN) : ∀ (rest done : List (List UInt8)) (x : AV) (H : Heap), done ++ rest = l → H35b H0 p T (s0 ++ joinT done) x H →
    ∃ x' H', H35b H0 p T (s0 ++ joinT l) x' H' ∧ ∀ fr, F35b p a l.length done.length fr → ∃ fr', F35b p a l.length l.length fr' ∧ ∀ M, 300 + rest.length ≤ M → ∀ (R : Type) (k : XK R), runK tbl M R Lp35b fr H k = k (.exit 3) fr' H'
  | [], done, x, H, hd, h => by
    rw [List.append_nil] at hd
    subst hd
    refine ⟨x, H, h, fun fr f => ?_⟩
    have f1 := f.f1
    have f8 := f.f8
    have f63 := f.f63
    have f64 := f.f64
    have f65 := f.f65
    refine ⟨?fr1, ⟨?p1, ?p8, ?p63, ?p64, ?p65⟩, fun M hM R k => ?e⟩
    case e =>
      obtain ⟨m, rfl⟩ : ∃ m, M = m + 100 := ⟨M - 100, by omega⟩
      unfold Lp35b
      rw [run_loop]
      simp only [EX, reduceIte, Nat.reduceEqDiff, Nat.reduceAdd, Int.reduceEq, Int.reduceLT, Int.reduceLE, reduceCtorEq, Nat.reduceLeDiff, Nat.reduceSub, Nat.reduceLT, f64, f65, Int.lt_irrefl]
      with_reducible rfl
    case p1 => simp only [V_S, Nat.reduceEqDiff, reduceIte]; exact f1
    case p8 => simp only [V_S, Nat.reduceEqDiff, reduceIte]; exact f8
    case p63 => simp only [V_S, Nat.reduceEqDiff, reduceIte]; exact f63
    case p64 => simp only [V_S, Nat.reduceEqDiff, reduceIte]; exact f64
    case p65 => simp only [V_S, Nat.reduceEqDiff, reduceIte]; exact f65
  | s :: rest, done, x, H, hd, h => by
    have hl : l.length = done.length + rest.length + 1 := by rw [← hd]; simp; omega
    have ej : joinT l = joinT done ++ ([44, 32] ++ s) ++ joinT rest := by
      rw [← hd, joinT_app, List.append_assoc]; rfl
    have hTl : (s0 ++ joinT done ++ [44, 32] ++ s).length ≤ T := by
      rw [ej] at hT
      simp only [List.length_append] at hT ⊢
      omega
    obtain ⟨x1, H1, h1, e1⟩ := h.put (t := [44, 32]) (by rw [List.length_append] at hTl; omega) hroom
    obtain ⟨x2, H2, h2, e2⟩ := h1.put (t := s) hTl hroom
    have ed : s0 ++ joinT done ++ [44, 32] ++ s = s0 ++ joinT (done ++ [s]) := by rw [joinT_app]; simp [joinT]
    rw [ed] at h2
    obtain ⟨x', H', h', eq'⟩ := loop35b hr ha hn hT hroom rest (done ++ [s]) x2 H2 (by rw [← hd]; simp) h2
    refine ⟨x', H', h', fun fr f => ?_⟩
    have f1 := f.f1
    have f8 := f.f8
    have f63 := f.f63
    have f64 := f.f64
    have f65 := f.f65
    have hg : ((s0 :: l).map str)[1 + done.length]? = some (str s) := by
      rw [Nat.add_comm, List.map_cons, List.getElem?_cons_succ, ← hd, List.getElem?_map, List.getElem?_append_right (Nat.le_refl _), Nat.sub_self]; rfl
    have hlt : (done.length : Int) < (l.length : Int) := by omega
    have hix : ∀ (R : Type) (k : HK R) (G : Heap), ixaC 1 (.sl a 1 l.length none 1) (.i .i64 (done.length : Int)) k G = k (.p a (1 + done.length)) G := by
      intro R k G
      rw [ixa_sl (by omega) (by omega), Int.toNat_natCast, Nat.mul_one]
    have hld := (hr.grow h.g ha).l (1 + done.length) hg
    have hw2 : IntKind.i64.wrap ((done.length : Int) + 1) = ((done ++ [s]).length : Int) := by rw [show (done.length : Int) + 1 = ((done ++ [s]).length : Int) by simp, wrap_n64 (by simp; omega)]
    obtain ⟨fr', f', er⟩ := eq' (S (S (S (S (S (S (S (S (S (S fr 66 (.b true)) 67 (.p a (1 + done.length))) 68 (str s)) 10 (str s)) 69 (str [44, 32])) 70 (.tu [.i .i64 (([44, 32] : List UInt8).length : Int), .ni])) 71 (str s)) 72 (.tu [.i .i64 (s.length : Int), .ni])) 73 (.i .i64 ((done ++ [s]).length : Int))) 65 (.i .i64 ((done ++ [s]).length : Int))) ⟨by simp only [V_S, Nat.reduceEqDiff, reduceIte]; exact f1, by simp only [V_S, Nat.reduceEqDiff, reduceIte]; exact f8, by simp only [V_S, Nat.reduceEqDiff, reduceIte]; exact f63, by simp only [V_S, Nat.reduceEqDiff, reduceIte]; exact f64, by simp only [V_S, Nat.reduceEqDiff, reduceIte]⟩
    refine ⟨fr', f', fun M hM R k => ?_⟩
    rw [List.length_cons] at hM
    obtain ⟨m, rfl⟩ : ∃ m, M = m + 200 := ⟨M - 200, by omega⟩
    unfold Lp35b
    rw [run_loop]
    simp only [EX, reduceIte, Nat.reduceEqDiff, Nat.reduceAdd, Int.reduceEq, Int.reduceLT, Int.reduceLE, reduceCtorEq, Nat.reduceLeDiff, Nat.reduceSub, Nat.reduceLT, f1, f8, f63, f64, f65, hlt, hix, hld]
    rw [e1 _ (by omega)]
    simp only [EX, reduceIte, Nat.reduceEqDiff, Nat.reduceAdd, Int.reduceEq, Int.reduceLT, Int.reduceLE, reduceCtorEq, Nat.reduceLeDiff, Nat.reduceSub, Nat.reduceLT, f1, f8, f63, f64, f65]
    rw [e2 _ (by omega)]
    simp only [EX, reduceIte, Nat.reduceEqDiff, Nat.reduceAdd, Int.reduceEq, Int.reduceLT, Int.reduceLE, reduceCtorEq, Nat.reduceLeDiff, Nat.reduceSub, Nat.reduceLT, f65, i_add, hw2]
    exact er (m + 199) (by omega) R k
theorem Chg.ns {p : Pa} {x : AV} {H H' : Heap} (c : Chg p .ns x H H') {n0 : Nat} {s : List UInt8} {r : Nat} (b : Bd n0 H p .ns s r) {H0 : Heap} (g : Grow H0 H) (hn : H0.next.toN ≤ n0) : Grow H0 H' := c.of b g hn
/-- strings.Join by commas. -/
theorem s35 {l : List (List UInt8)} {H : Heap} {x : AV} (hx : Strs H x l) (hn : l.length ≤ 1000) (hs : 2 * l.length + sumL l ≤ roomN) : Tells 35 2000 [x, str [44, 32]] H (str (joinS l)) := by
  match l, hx, hn, hs with
  | [], hx, hn, hs =>
    refine ⟨H, Grow.refl H, fun M hM R k => ?_⟩
    obtain ⟨m, rfl⟩ : ∃ m, M = m + 2000 := ⟨M - 2000, by omega⟩
    have h0 : ((([] : List (List UInt8)).length : Nat) : Int) = 0 := rfl
    rw [call_eq L35]
    unfold B35
    simp only [EX, reduceIte, Nat.reduceEqDiff, Nat.reduceAdd, Int.reduceEq, Int.reduceLT, Int.reduceLE, reduceCtorEq, Nat.reduceLeDiff, Nat.reduceSub, Nat.reduceLT, hx.len, h0]
    exact rfl
  | [s], hx, hn, hs =>
    obtain ⟨rfl, h⟩ | ⟨a, rfl, hr, ha⟩ := hx
    · cases h
    show Tells 35 2000 [.sl a 0 1 none 1, str [44, 32]] H (str (s ++ []))
    rw [List.append_nil]
    refine ⟨H, Grow.refl H, fun M hM R k => ?_⟩
    obtain ⟨m, rfl⟩ : ∃ m, M = m + 2000 := ⟨M - 2000, by omega⟩
    have c1 : ((1 : Nat) : Int) = 1 := rfl
    have hix : ∀ (R : Type) (k : HK R) (G : Heap), ixaC 1 (.sl a 0 1 none 1) (.i .i64 0) k G = k (.p a 0) G := fun R k G => ixa_sl (by decide) (by decide)
    have hld := hr.l 0 (v := str s) rfl
    rw [call_eq L35]
    unfold B35
    simp only [EX, reduceIte, Nat.reduceEqDiff, Nat.reduceAdd, Int.reduceEq, Int.reduceLT, Int.reduceLE, reduceCtorEq, Nat.reduceLeDiff, Nat.reduceSub, Nat.reduceLT, c1, hix, hld]
  | s0 :: s1 :: l, hx, hn, hs =>
    obtain ⟨rfl, h⟩ | ⟨a, rfl, hr, ha⟩ := hx
    · cases h
    obtain ⟨L, hL⟩ : ∃ L, L = s1 :: l := ⟨_, rfl⟩
    rw [← hL] at hr hn hs ⊢
    have hLl : 1 ≤ L.length := by rw [hL, List.length_cons]; omega
    obtain ⟨n, hn'⟩ : ∃ n, n = (s0 :: L).length := ⟨_, rfl⟩
    have hnL : n = L.length + 1 := by rw [hn']; rfl
    rw [← hn'] at hn hs ⊢
    have hroom : roomN < 4000000000000000000 := by decide
    have hjl : (joinS (s0 :: L)).length = 2 * L.length + sumL (s0 :: L) := by
      show (s0 ++ joinT L).length = _
      rw [List.length_append, joinT_len, sumL_cons]; omega
    obtain ⟨T, hT⟩ : ∃ T, T = 2 * (n - 1) + sumL (s0 :: L) := ⟨_, rfl⟩
    have hTj : (s0 ++ joinT L).length = T := by rw [show s0 ++ joinT L = joinS (s0 :: L) from rfl, hjl, hT, hnL]; rfl
    have hTr : T ≤ roomN := by omega
    have ela := loop35a hr (by rw [← hn']; exact hn) (by rw [← hn']; exact hs) (t0 := 2 * (n - 1)) (by omega) (s0 :: L) [] rfl
    rw [← hn'] at ela
    have elaq : ∀ fr, F35a a 0 n 0 (2 * (n - 1)) fr → ∀ M, 100 + n ≤ M → ∀ (R : Type) (k : XK R) (res : Option R), (∀ fr', F35a a 0 n n T fr' → k (.exit 1) fr' H = res) → runK tbl M R Lp35a fr H k = res := by
      intro fr f M hM R k res hr
      obtain ⟨fr', f', er⟩ := ela fr f
      rw [er M hM R k, hr fr' (by rw [hT]; exact f')]
    obtain ⟨H1, e1⟩ : ∃ H1, H1 = H.alloc (.cells false 0 105 2 (setCells [.np, .ns] 0 .leaf)) := ⟨_, rfl⟩
    have g1 : Grow H H1 := by rw [e1]; exact Grow.alloc H _
    have n1 : H1.next.toN = H.next.toN + 1 := by rw [e1]; exact next_alloc H _
    have r1 : Row H1 H.next 105 [.np, .ns] := by rw [e1]; exact Row.new H 105 [.np, .ns]
    have b1 : Bd H.next.toN H1 H.next .ns [] 0 := ⟨Nat.le_refl _, by omega, (by intro o l c z q; cases q), ⟨_, r1, Or.inl rfl⟩, Or.inl ⟨rfl, rfl, rfl⟩⟩
    obtain ⟨H2, x2, c2, b2, e2⟩ := s57 b1 (by omega) hTr
    have h2 : H35b H H.next T [] x2 H2 := ⟨c2.of b1 g1 (Nat.le_refl _), b2⟩
    obtain ⟨x3, H3, h3, e3⟩ := h2.put (t := s0) (by rw [List.nil_append, ← hTj, List.length_append]; omega) hTr
    obtain ⟨x4, H4, h4, el4⟩ := loop35b (T := T) hr ha (by omega) (by omega) hTr L [] x3 H3 rfl (by rw [show joinT [] = [] from rfl, List.append_nil]; exact h3)
    have el4q : ∀ fr, F35b H.next a L.length 0 fr → ∀ M, 300 + L.length ≤ M → ∀ (R : Type) (k : XK R) (res : Option R), (∀ fr', F35b H.next a L.length L.length fr' → k (.exit 3) fr' H4 = res) → runK tbl M R Lp35b fr H3 k = res := by
      intro fr f M hM R k res hr
      obtain ⟨fr', f', er⟩ := el4 fr f
      rw [er M hM R k, hr fr' f']
    have hx4 : s0 ++ joinT L ≠ [] := by
      intro h
      have := congrArg List.length h
      rw [hTj, hT] at this
      have : ([] : List UInt8).length = 0 := rfl
      omega
    obtain ⟨H5, ⟨k1, k2, k3⟩, e5⟩ := s59 h4.b (Or.inl hx4) (by omega)
    have g5 : Grow H H5 := ⟨Nat.le_trans h4.g.next k1, fun c hc => by rw [k2 c hc (Nat.lt_of_lt_of_le hc h4.g.next), h4.g.get c hc], fun f => k3 (h4.g.dead f)⟩
    refine ⟨H5, g5, fun M hM R k => ?_⟩
    obtain ⟨m, rfl⟩ : ∃ m, M = m + 2000 := ⟨M - 2000, by omega⟩
    have c0 : ¬ (n : Int) = 0 := by omega
    have c1 : ¬ (n : Int) = 1 := by omega
    have hnn : 2 ≤ n := by omega
    have c2 : (0 : Int) < ((2 : Nat) : Int) := by decide
    have wn : IntKind.i64.wrap ((n : Int) - 1) = ((n - 1 : Nat) : Int) := by rw [show (n : Int) - 1 = ((n - 1 : Nat) : Int) by omega, wrap_n64 (by omega)]
    have hz : (((n - 1 : Nat)) : Int) ≠ 0 := by omega
    have hq : IntKind.i64.wrap ((9223372036854775807 : Int).tdiv ((n - 1 : Nat) : Int)) = ((9223372036854775807 / (n - 1) : Nat) : Int) := by
      rw [show (9223372036854775807 : Int) = ((9223372036854775807 : Nat) : Int) from rfl, quo_n, wrap_n64 (Nat.lt_of_le_of_lt (Nat.div_le_self _ _) (by decide))]
    have hq2 : ¬ ((9223372036854775807 / (n - 1) : Nat) : Int) ≤ ((2 : Nat) : Int) := by
      have : 3 ≤ 9223372036854775807 / (n - 1) := (Nat.le_div_iff_mul_le (by omega)).mpr (by omega)
      show ¬ _ ≤ (2 : Int)
      omega
    have wm : IntKind.i64.wrap (((2 : Nat) : Int) * ((n - 1 : Nat) : Int)) = ((2 * (n - 1) : Nat) : Int) := by
      rw [show ((2 : Nat) : Int) * ((n - 1 : Nat) : Int) = ((2 * (n - 1) : Nat) : Int) by show (2 : Int) * _ = _; omega, wrap_n64 (by omega)]
    have wa : IntKind.i64.wrap (0 + ((2 * (n - 1) : Nat) : Int)) = ((2 * (n - 1) : Nat) : Int) := by rw [Int.zero_add, wrap_n64 (by omega)]
    have hix : ∀ (R : Type) (k : HK R) (G : Heap), ixaC 1 (.sl a 0 n none 1) (.i .i64 0) k G = k (.p a 0) G := fun R k G => ixa_sl (by decide) (by omega)
    have hld := (hr.grow h2.g ha).l 0 (v := str s0) rfl
    have hsl : ∀ (R : Type) (k : HK R) (G : Heap), sllC 1 (.sl a 0 n none 1) (some (.i .i64 1)) none none k G = k (.sl a 1 L.length none 1) G := by
      intro R k G
      refine (sll_from (l := 1) (by omega)).trans ?_
      rw [Nat.zero_add, Nat.mul_one, show n - 1 = L.length by omega]
    rw [call_eq L35]
    unfold B35
    simp only [EX, reduceIte, Nat.reduceEqDiff, Nat.reduceAdd, Int.reduceEq, Int.reduceLT, Int.reduceLE, reduceCtorEq, Nat.reduceLeDiff, Nat.reduceSub, Nat.reduceLT, c0, c1, c2, i_sub, wn, i_quo hz, hq, hq2, i_mul, wm, i_add, wa]
    refine elaq _ ?ff _ ?hm R _ _ fun fr' f' => ?ee
    case ff => exact ⟨by simp only [V_S, Nat.reduceEqDiff, reduceIte], by simp only [V_S, Nat.reduceEqDiff, reduceIte], by simp only [V_S, Nat.reduceEqDiff, reduceIte], by (simp only [V_S, Nat.reduceEqDiff, reduceIte]) <;> rfl, by simp only [V_S, Nat.reduceEqDiff, reduceIte], by simp only [V_S, Nat.reduceEqDiff, reduceIte]⟩
    case hm => omega
    case ee =>
      have f0 := f'.f0
      have f1 := f'.f1
      have f5 := f'.f5
      simp only [EX, reduceIte, Nat.reduceEqDiff, Nat.reduceAdd, Int.reduceEq, Int.reduceLT, Int.reduceLE, reduceCtorEq, Nat.reduceLeDiff, Nat.reduceSub, Nat.reduceLT, f5]
      rw [← e1, e2 _ (by omega)]
      simp only [EX, reduceIte, Nat.reduceEqDiff, Nat.reduceAdd, Int.reduceEq, Int.reduceLT, Int.reduceLE, reduceCtorEq, Nat.reduceLeDiff, Nat.reduceSub, Nat.reduceLT, f0, hix, hld]
      rw [e3 _ (by omega)]
      simp only [EX, reduceIte, Nat.reduceEqDiff, Nat.reduceAdd, Int.reduceEq, Int.reduceLT, Int.reduceLE, reduceCtorEq, Nat.reduceLeDiff, Nat.reduceSub, Nat.reduceLT, f0, hsl]
      refine el4q _ ?ff2 _ ?hm2 R _ _ fun fr2 f2 => ?ee2
      case ff2 => exact ⟨by simp only [V_S, Nat.reduceEqDiff, reduceIte]; exact f1, by simp only [V_S, Nat.reduceEqDiff, reduceIte], by simp only [V_S, Nat.reduceEqDiff, reduceIte], by simp only [V_S, Nat.reduceEqDiff, reduceIte], by (simp only [V_S, Nat.reduceEqDiff, reduceIte]) <;> rfl⟩
      case hm2 => omega
      case ee2 =>
        have f8 := f2.f8
        simp only [EX, reduceIte, Nat.reduceEqDiff, Nat.reduceAdd, Int.reduceEq, Int.reduceLT, Int.reduceLE, reduceCtorEq, Nat.reduceLeDiff, Nat.reduceSub, Nat.reduceLT, f8]
        rw [e5 _ (by omega)]
        simp only [EX, reduceIte, Nat.reduceEqDiff, Nat.reduceAdd, Int.reduceEq, Int.reduceLT, Int.reduceLE, reduceCtorEq, Nat.reduceLeDiff, Nat.reduceSub, Nat.reduceLT]
        exact rfl
end Go.Proofs.YtmmmjhkgjmbfaaaDoor

/- A truth's text (value.Text). -/
namespace Go.Proofs.YtmmmjhkgjmbfaaaDoor
open Go Go.Vai
set_option maxRecDepth 100000
set_option maxHeartbeats 1600000
set_option linter.unusedSimpArgs false
def tru (b : Bool) : List UInt8 := if b then [116, 114, 117, 101] else [102, 97, 108, 115, 101]
def vb (b : Bool) : List AV := [.i .i64 1, .b b, .i .i64 0, str [], str [], str [], .ns]
theorem vb_one (b : Bool) : ∀ v ∈ vb b, oneC v = true := ec_one (op := 1) (b := b) (n := 0) (s := []) (t := []) (d := []) rfl
theorem flat0 {R : Type} {k : HK R} {H : Heap} : binC .neq (.flat [2, 2]) (.ag [str [], str []]) (.ag [str [], str []]) k H = k (.b false) H := id rfl
theorem s61 {H : Heap} (b : Bool) : Tells 61 200 [.ag (vb b)] H (.tu [.ifc 126 (.b b), .i .i64 0]) := by
  obtain ⟨H1, e1⟩ : ∃ H1, H1 = H.alloc (.cells false 0 85 7 (setCells [.i .i64 1, .b b, .i .i64 0, str [], str [], str [], .ns] 0 .leaf)) := ⟨_, rfl⟩
  have g1 : Grow H H1 := by rw [e1]; exact Grow.alloc H _
  have n1 : H1.next.toN = H.next.toN + 1 := by rw [e1]; exact next_alloc H _
  have r1 : Row H1 H.next 85 (vb b) := by rw [e1]; exact Row.new H 85 (vb b)
  obtain ⟨H2, e2⟩ : ∃ H2, H2 = H1.alloc (.cells false 0 85 7 (setCells [.i .i64 0, .b false, .i .i64 0, str [], str [], str [], .ns] 0 .leaf)) := ⟨_, rfl⟩
  have g2 : Grow H1 H2 := by rw [e2]; exact Grow.alloc H1 _
  have n2 : H2.next.toN = H1.next.toN + 1 := by rw [e2]; exact next_alloc H1 _
  have r2 : Row H2 H1.next 85 zs7 := by rw [e2]; exact Row.new H1 85 zs7
  obtain ⟨H3, r3, b3, n3, est3⟩ := r2.st_all (n := 7) (ys := vb b) (by omega) rfl rfl (vb_one b)
  have n3' : H3.next.toN = H2.next.toN := by rw [n3]
  obtain ⟨H4, r4, b4, n4, est4⟩ := r3.st_one (off := 1) (v := .b false) (by omega) (by show 1 < 7; omega) rfl
  have r4 : Row H4 H1.next 85 (vb false) := r4
  have p1 : Row H3 H.next 85 (vb b) := (r1.grow g2 (by omega)).but b3 (by omega) (by intro q; rw [← q] at n1; omega)
  have la := r1.la 7 rfl
  have l0 := p1.l 0 (v := .i .i64 1) rfl
  have l1 := p1.l 1 (v := .b b) rfl
  have k1 := r4.l 1 (v := .b false) rfl
  have k2 := r4.l 2 (v := .i .i64 0) rfl
  have k3 := r4.l 3 (v := str []) rfl
  have k6 := r4.l 6 (v := .ns) rfl
  have k4 : ∀ (R : Type) (k : HK R), ldC true 2 (.p H1.next 4) k H4 = k (.ag [str [], str []]) H4 := fun R k => r4.lds (n := 2) (off := 4) (by show 6 ≤ 7; omega)
  refine ⟨H4, (b3.trans b4).of (g1.trans g2) (by omega), fun M hM R k => ?_⟩
  obtain ⟨m, rfl⟩ : ∃ m, M = m + 200 := ⟨M - 200, by omega⟩
  rw [call_eq L61]
  unfold B61
  simp only [EX, reduceIte, Nat.reduceEqDiff, Nat.reduceAdd, Int.reduceEq, Int.reduceLT, Int.reduceLE, reduceCtorEq, Nat.reduceLeDiff, Nat.reduceSub, Nat.reduceLT, vb]
  rw [← e1]
  simp only [EX, reduceIte, Nat.reduceEqDiff, Nat.reduceAdd, Int.reduceEq, Int.reduceLT, Int.reduceLE, reduceCtorEq, Nat.reduceLeDiff, Nat.reduceSub, Nat.reduceLT, la, vb]
  rw [← e2]
  refine (est3 _ _).trans ?_
  simp only [EX, reduceIte, Nat.reduceEqDiff, Nat.reduceAdd, Int.reduceEq, Int.reduceLT, Int.reduceLE, reduceCtorEq, Nat.reduceLeDiff, Nat.reduceSub, Nat.reduceLT, l0, l1, est4, k1, k2, k3, k4, k6, flat0, s_neq]
theorem s40 {H : Heap} (b : Bool) : Tells 40 400 [.ag (vb b)] H (str (tru b)) := by
  obtain ⟨H1, e1⟩ : ∃ H1, H1 = H.alloc (.cells false 0 85 7 (setCells [.i .i64 1, .b b, .i .i64 0, str [], str [], str [], .ns] 0 .leaf)) := ⟨_, rfl⟩
  have g1 : Grow H H1 := by rw [e1]; exact Grow.alloc H _
  have r1 : Row H1 H.next 85 (vb b) := by rw [e1]; exact Row.new H 85 (vb b)
  have la := r1.la 7 rfl
  obtain ⟨H2, g2, e2⟩ := s61 (H := H1) b
  refine ⟨H2, g1.trans g2, fun M hM R k => ?_⟩
  obtain ⟨m, rfl⟩ : ∃ m, M = m + 400 := ⟨M - 400, by omega⟩
  rw [call_eq L40]
  unfold B40
  simp only [EX, reduceIte, Nat.reduceEqDiff, Nat.reduceAdd, Int.reduceEq, Int.reduceLT, Int.reduceLE, reduceCtorEq, Nat.reduceLeDiff, Nat.reduceSub, Nat.reduceLT, vb]
  rw [← e1]
  simp only [EX, reduceIte, Nat.reduceEqDiff, Nat.reduceAdd, Int.reduceEq, Int.reduceLT, Int.reduceLE, reduceCtorEq, Nat.reduceLeDiff, Nat.reduceSub, Nat.reduceLT, la]
  rw [e2 _ (by omega)]
  simp only [EX, reduceIte, Nat.reduceEqDiff, Nat.reduceAdd, Int.reduceEq, Int.reduceLT, Int.reduceLE, reduceCtorEq, Nat.reduceLeDiff, Nat.reduceSub, Nat.reduceLT]
  rw [call_eq L111]
  unfold B111
  cases b
  · simp only [EX, reduceIte, Nat.reduceEqDiff, Nat.reduceAdd, Int.reduceEq, Int.reduceLT, Int.reduceLE, reduceCtorEq, Nat.reduceLeDiff, Nat.reduceSub, Nat.reduceLT]
    exact rfl
  · simp only [EX, reduceIte, Nat.reduceEqDiff, Nat.reduceAdd, Int.reduceEq, Int.reduceLT, Int.reduceLE, reduceCtorEq, Nat.reduceLeDiff, Nat.reduceSub, Nat.reduceLT]
    exact rfl
end Go.Proofs.YtmmmjhkgjmbfaaaDoor

/- What a tree's text is; the program's kid, row and uid (show). -/
namespace Go.Proofs.YtmmmjhkgjmbfaaaDoor
open Go Go.Vai
set_option maxRecDepth 100000
set_option maxHeartbeats 1600000
set_option linter.unusedSimpArgs false
def Ex.op : Ex → Nat | .mk op _ _ _ _ _ _ => op
/-- A text of bytes, quoted. -/
def quoB (s : List UInt8) : List UInt8 := 34 :: s.flatMap qb ++ [34]
/-- A tree's text that is asked for a level. -/
def ktx (t : Ex → List UInt8) (e : Ex) (at_ : Nat) : List UInt8 := if lev e.op < at_ then [40] ++ t e ++ [41] else t e
def kd (kids : List Ex) (j : Nat) : Ex := (kids[j]?).getD (.mk 0 false 0 [] [] [] [])
def fst_ (op : Nat) : Nat := if lev op = 3 then 4 else lev op
def snd_ (op : Nat) : Nat := if lev op = 3 then 4 else lev op + 1
/-- A tree's text, of its kids' ones. -/
def sh1 (t : Ex → List UInt8) : Ex → List UInt8
  | .mk 1 b _ _ _ _ _ => tru b
  | .mk 2 _ n _ _ _ _ => dec n.toNat
  | .mk 3 _ _ s _ _ _ => quoB s
  | .mk 4 _ _ _ u i _ => u ++ [58, 58] ++ quoB i
  | .mk 5 _ _ s _ _ _ => s
  | .mk 6 _ _ _ _ _ kids => [91] ++ joinS (kids.map t) ++ [93]
  | .mk 7 _ _ s _ _ kids => ktx t (kd kids 0) 7 ++ [46] ++ s
  | .mk 8 _ _ s _ _ kids => ktx t (kd kids 0) 4 ++ [32, 104, 97, 115, 32] ++ s
  | .mk 9 _ _ _ _ _ kids => ktx t (kd kids 0) 7 ++ [46, 99, 111, 110, 116, 97, 105, 110, 115, 40] ++ t (kd kids 1) ++ [41]
  | .mk 10 _ _ s _ _ kids => ktx t (kd kids 0) 4 ++ [32, 108, 105, 107, 101, 32] ++ quoB s
  | .mk 11 _ _ _ _ _ kids => [33] ++ ktx t (kd kids 0) 6
  | .mk 12 _ _ _ _ _ kids => [45] ++ ktx t (kd kids 0) 6
  | .mk 25 _ _ _ _ _ kids => [105, 102, 32] ++ t (kd kids 0) ++ [32, 116, 104, 101, 110, 32] ++ t (kd kids 1) ++ [32, 101, 108, 115, 101, 32] ++ t (kd kids 2)
  | .mk op _ _ _ _ _ kids => ktx t (kd kids 0) (fst_ op) ++ [32] ++ sgn op ++ [32] ++ ktx t (kd kids 1) (snd_ op)
def shw : Nat → Ex → List UInt8
  | 0, _ => []
  | d + 1, e => sh1 (shw d) e
/-- A text such as is in a tree: of runes, not too many. -/
def Rtx (s : List UInt8) : Prop := ∃ l : List Nat, (∀ i ∈ l, i < 22) ∧ l.length ≤ 8 ∧ s = txt l
/-- How many kids. -/
def kn (op l : Nat) : Prop := if op ≤ 5 then l = 0 else if op = 6 then l ≤ 8 else l = cnt op 0
def OkE : Nat → Ex → Prop
  | 0, _ => False
  | d + 1, .mk op b n s u i kids => (1 ≤ op ∧ op ≤ 25) ∧ (op = 2 → 0 ≤ n ∧ n < 9223372036854775808) ∧ (op = 3 ∨ op = 10 → Rtx s) ∧ (op = 4 → Rtx i) ∧ (s.length ≤ 40 ∧ u.length ≤ 40) ∧ kn op kids.length ∧ ∀ k ∈ kids, OkE d k
def bd : Nat → Nat
  | 0 => 0
  | d + 1 => 8 * (bd d + 4) + 200
theorem bd_le : ∀ d, d ≤ 11 → bd d ≤ 4000000000000 := by decide
theorem bd_up : ∀ d, bd d ≤ bd (d + 1)
  | 0 => Nat.zero_le _
  | d + 1 => by have := bd_up d; show 8 * (bd d + 4) + 200 ≤ 8 * (bd (d + 1) + 4) + 200; omega
theorem sgn_le (op : Nat) : (sgn op).length ≤ 2 := by
  unfold sgn
  split <;> decide
theorem lev_le (op : Nat) : lev op ≤ 8 := by
  unfold lev
  split <;> decide
theorem dec_len (n : Nat) : (dec n).length ≤ 21 := decF_len 20 n
theorem quoB_tx {l : List Nat} (hl : ∀ i ∈ l, i < 22) : quoB (txt l) = quo l := by unfold quoB quo; rw [qb_tx hl]
theorem quoB_le {s : List UInt8} (h : s.length ≤ 40) : (quoB s).length ≤ 242 := by
  have := qbs_le s
  unfold quoB
  rw [List.length_append, List.length_cons]
  show _ + 1 + 1 ≤ _
  omega
theorem rtx_le {s : List UInt8} (h : Rtx s) : (quoB s).length ≤ 50 := by
  obtain ⟨l, hl, hn, rfl⟩ := h
  rw [quoB_tx hl]
  have := quo_le hl
  omega
theorem ktx_le {t : Ex → List UInt8} {e : Ex} {a B : Nat} (h : (t e).length ≤ B) : (ktx t e a).length ≤ B + 2 := by
  unfold ktx
  split
  · rw [List.length_append, List.length_append]; show 1 + _ + 1 ≤ _; omega
  · omega
theorem sum_le {l : List Ex} {t : Ex → List UInt8} {B : Nat} (h : ∀ k ∈ l, (t k).length ≤ B) : sumL (l.map t) ≤ B * l.length := by
  induction l with
  | nil => exact Nat.zero_le _
  | cons k l ih =>
    have h1 := h k (List.mem_cons_self ..)
    have h2 := ih fun x hx => h x (List.mem_cons_of_mem _ hx)
    rw [List.map_cons, sumL_cons, List.length_cons, Nat.mul_add, Nat.mul_one]; omega
theorem joinS_le : ∀ l, (joinS l).length ≤ 2 * l.length + sumL l
  | [] => Nat.zero_le _
  | s :: l => by
    have := joinT_len l
    show (s ++ joinT l).length ≤ _
    rw [List.length_append, this, sumL_cons, List.length_cons]; omega
theorem kd_ok {d : Nat} {kids : List Ex} (h : ∀ k ∈ kids, OkE d k) {j : Nat} (hj : j < kids.length) : kids[j]? = some (kd kids j) ∧ OkE d (kd kids j) := by
  have e : kids[j]? = some kids[j] := List.getElem?_eq_getElem hj
  have e2 : kd kids j = kids[j] := by unfold kd; rw [e]; rfl
  rw [e2]
  exact ⟨e, h _ (List.getElem_mem hj)⟩
def Any : Pa → Prop := fun _ => True
/-- What is laid of the program's variables. -/
def Gl (H : Heap) : Prop := Glob H ∧ Glob3 H
theorem Gl.grow {H H' : Heap} (h : Gl H) (g : Grow H H') : Gl H' := ⟨h.1.grow g, h.2.grow g⟩
/-- A function that tells each tree's text. -/
def Shows (f c d : Nat) (t : Ex → List UInt8) : Prop := ∀ (H : Heap) (cs : List AV) (e : Ex), ExIn Any H d cs e → OkE d e → Gl H → Tells f c [.ag cs] H (str (t e))
theorem sMax4 : 4000000000004 ≤ sMax := by decide
theorem op_at {d : Nat} {H : Heap} {cs : List AV} {e : Ex} (h : ExIn Any H d cs e) : cs[0]? = some (.i .i64 (e.op : Int)) := by
  match d, e, h with
  | d + 1, .mk op b n s u i kids, ⟨xk, e, _⟩ => rw [e]; rfl
theorem ok_op {d : Nat} {e : Ex} (h : OkE d e) : 1 ≤ e.op ∧ e.op ≤ 25 := by
  match d, e, h with
  | d + 1, .mk op b n s u i kids, h => exact h.1
/-- A boxed tree. -/
theorem box_ex {d : Nat} {H : Heap} {cs : List AV} {e : Ex} (h : ExIn Any H d cs e) : ∃ H1, H1 = H.alloc (.cells false 0 32 cs.length (setCells cs 0 .leaf)) ∧ Grow H H1 ∧ H1.next.toN = H.next.toN + 1 ∧ Row H1 H.next 32 cs ∧ ExIn Any H1 d cs e ∧ cs.length = 7 :=
  ⟨_, rfl, Grow.alloc H _, next_alloc H _, Row.new H 32 cs, h.grow (Grow.alloc H _), h.one.1⟩
theorem s47 {c d : Nat} {t : Ex → List UInt8} (hE : Shows 9 c d t) (hB : ∀ e, OkE d e → (t e).length ≤ 4000000000000) {H : Heap} {cs : List AV} {e : Ex} (h : ExIn Any H d cs e) (ho : OkE d e) (hG : Gl H) (at_ : Nat) : Tells 47 (c + 200) [.ag cs, .i .i64 (at_ : Int)] H (str (ktx t e at_)) := by
  obtain ⟨H1, e1, g1, n1, r1, h1, h7⟩ := box_ex h
  have l0 := r1.l 0 (op_at h)
  have la := r1.la 7 h7.symm
  obtain ⟨o1, o2⟩ := ok_op ho
  obtain ⟨H2, g2, e2⟩ := hE H1 cs e h1 ho (hG.grow g1)
  have hb := hB e ho
  have hs := sMax4
  refine ⟨H2, g1.trans g2, fun M hM R k => ?_⟩
  obtain ⟨m, rfl⟩ : ∃ m, M = m + 200 := ⟨M - 200, by omega⟩
  rw [call_eq L47]
  unfold B47
  unfold ktx
  by_cases hl : lev e.op < at_
  · have hl' : (lev e.op : Int) < (at_ : Int) := by omega
    simp only [EX, reduceIte, Nat.reduceEqDiff, Nat.reduceAdd, Int.reduceEq, Int.reduceLT, Int.reduceLE, reduceCtorEq, Nat.reduceLeDiff, Nat.reduceSub, Nat.reduceLT]
    rw [← e1]
    simp only [EX, reduceIte, Nat.reduceEqDiff, Nat.reduceAdd, Int.reduceEq, Int.reduceLT, Int.reduceLE, reduceCtorEq, Nat.reduceLeDiff, Nat.reduceSub, Nat.reduceLT, l0]
    rw [s48 (by omega) o2 (by omega)]
    simp only [EX, reduceIte, Nat.reduceEqDiff, Nat.reduceAdd, Int.reduceEq, Int.reduceLT, Int.reduceLE, reduceCtorEq, Nat.reduceLeDiff, Nat.reduceSub, Nat.reduceLT, hl', la]
    rw [e2 _ (by omega)]
    simp only [EX, reduceIte, Nat.reduceEqDiff, Nat.reduceAdd, Int.reduceEq, Int.reduceLT, Int.reduceLE, reduceCtorEq, Nat.reduceLeDiff, Nat.reduceSub, Nat.reduceLT]
    rw [s_add (by show 1 + _ ≤ _; omega)]
    simp only [EX, reduceIte, Nat.reduceEqDiff, Nat.reduceAdd, Int.reduceEq, Int.reduceLT, Int.reduceLE, reduceCtorEq, Nat.reduceLeDiff, Nat.reduceSub, Nat.reduceLT]
    rw [s_add (by rw [List.length_append]; show 1 + _ + 1 ≤ _; omega)]
    simp only [EX, reduceIte, Nat.reduceEqDiff, Nat.reduceAdd, Int.reduceEq, Int.reduceLT, Int.reduceLE, reduceCtorEq, Nat.reduceLeDiff, Nat.reduceSub, Nat.reduceLT]
    rw [if_pos hl]
  · have hl' : ¬ (lev e.op : Int) < (at_ : Int) := by omega
    simp only [EX, reduceIte, Nat.reduceEqDiff, Nat.reduceAdd, Int.reduceEq, Int.reduceLT, Int.reduceLE, reduceCtorEq, Nat.reduceLeDiff, Nat.reduceSub, Nat.reduceLT]
    rw [← e1]
    simp only [EX, reduceIte, Nat.reduceEqDiff, Nat.reduceAdd, Int.reduceEq, Int.reduceLT, Int.reduceLE, reduceCtorEq, Nat.reduceLeDiff, Nat.reduceSub, Nat.reduceLT, l0]
    rw [s48 (by omega) o2 (by omega)]
    simp only [EX, reduceIte, Nat.reduceEqDiff, Nat.reduceAdd, Int.reduceEq, Int.reduceLT, Int.reduceLE, reduceCtorEq, Nat.reduceLeDiff, Nat.reduceSub, Nat.reduceLT, hl', la]
    rw [e2 _ (by omega)]
    simp only [EX, reduceIte, Nat.reduceEqDiff, Nat.reduceAdd, Int.reduceEq, Int.reduceLT, Int.reduceLE, reduceCtorEq, Nat.reduceLeDiff, Nat.reduceSub, Nat.reduceLT]
    rw [if_neg hl]
theorem s39 {H : Heap} (hG : Gl H) {u i : List UInt8} (hu : u.length ≤ 40) (hi : Rtx i) : Tells 39 2800 [.ag [str u, str i]] H (str (u ++ [58, 58] ++ quoB i)) := by
  have hq := rtx_le hi
  obtain ⟨l, hl, hn, rfl⟩ := hi
  rw [quoB_tx hl] at hq ⊢
  obtain ⟨H1, e1⟩ : ∃ H1, H1 = H.alloc (.cells false 0 29 2 (setCells [str u, str (txt l)] 0 .leaf)) := ⟨_, rfl⟩
  have g1 : Grow H H1 := by rw [e1]; exact Grow.alloc H _
  have n1 : H1.next.toN = H.next.toN + 1 := by rw [e1]; exact next_alloc H _
  have r1 : Row H1 H.next 29 [str u, str (txt l)] := by rw [e1]; exact Row.new H 29 [str u, str (txt l)]
  obtain ⟨H2, g2, e2⟩ := s45 hl (by omega) (hG.2.grow g1)
  have r2 := r1.grow g2 (by omega)
  have l1 := r1.l 1 (v := str (txt l)) rfl
  have l0 := r1.l 0 (v := str u) rfl
  have l20 := r2.l 0 (v := str u) rfl
  have hs := sMax4
  refine ⟨H2, g1.trans g2, fun M hM R k => ?_⟩
  obtain ⟨m, rfl⟩ : ∃ m, M = m + 2800 := ⟨M - 2800, by omega⟩
  rw [call_eq L39]
  unfold B39
  simp only [EX, reduceIte, Nat.reduceEqDiff, Nat.reduceAdd, Int.reduceEq, Int.reduceLT, Int.reduceLE, reduceCtorEq, Nat.reduceLeDiff, Nat.reduceSub, Nat.reduceLT]
  rw [← e1]
  simp only [EX, reduceIte, Nat.reduceEqDiff, Nat.reduceAdd, Int.reduceEq, Int.reduceLT, Int.reduceLE, reduceCtorEq, Nat.reduceLeDiff, Nat.reduceSub, Nat.reduceLT, l1]
  rw [e2 _ (by omega)]
  simp only [EX, reduceIte, Nat.reduceEqDiff, Nat.reduceAdd, Int.reduceEq, Int.reduceLT, Int.reduceLE, reduceCtorEq, Nat.reduceLeDiff, Nat.reduceSub, Nat.reduceLT, l0, l20]
  rw [s_add (by show _ + 2 ≤ _; omega)]
  simp only [EX, reduceIte, Nat.reduceEqDiff, Nat.reduceAdd, Int.reduceEq, Int.reduceLT, Int.reduceLE, reduceCtorEq, Nat.reduceLeDiff, Nat.reduceSub, Nat.reduceLT]
  rw [s_add (by rw [List.length_append]; show _ + 2 + _ ≤ _; omega)]
  simp only [EX, reduceIte, Nat.reduceEqDiff, Nat.reduceAdd, Int.reduceEq, Int.reduceLT, Int.reduceLE, reduceCtorEq, Nat.reduceLeDiff, Nat.reduceSub, Nat.reduceLT]
end Go.Proofs.YtmmmjhkgjmbfaaaDoor

/- The program's row of trees (show.row). -/
namespace Go.Proofs.YtmmmjhkgjmbfaaaDoor
open Go Go.Vai
set_option maxRecDepth 100000
set_option maxHeartbeats 1600000
set_option linter.unusedSimpArgs false
theorem KidsE.len {R : Type} {S : Pa → Prop} {P : List AV → Ex → Prop} {H : Heap} {x : AV} {l : List Ex} (h : KidsE S P H x l) (k : HK R) (G : Heap) : lenC false x k G = k (.i .i64 (l.length : Int)) G := by
  obtain ⟨rfl, rfl⟩ | ⟨a, L, rfl, _⟩ := h <;> rfl
theorem KidsE.grow {S : Pa → Prop} {H H' : Heap} {d : Nat} {x : AV} {l : List Ex} (h : KidsE S (ExIn S H d) H x l) (g : Grow H H') : KidsE S (ExIn S H' d) H' x l := by
  obtain h | ⟨a, L, hx, ha, hb, hr, k3, k4⟩ := h
  · exact Or.inl h
  · exact Or.inr ⟨a, L, hx, ha, Nat.lt_of_lt_of_le hb g.next, hr.grow g hb, k3, fun j e hj => (k4 j e hj).grow g⟩
/-- A kid, read. -/
theorem KidsE.at {S : Pa → Prop} {P : List AV → Ex → Prop} {H : Heap} {x : AV} {l : List Ex} (h : KidsE S P H x l) {j : Nat} {e : Ex} (hj : l[j]? = some e) :
    ∃ p cs, P cs e ∧ (∀ (R : Type) (k : HK R) (H' : Heap), ixaC 7 x (.i .i64 (j : Int)) k H' = k p H') ∧ ∀ (R : Type) (k : HK R), ldC true 7 p k H = k (.ag cs) H := by
  have hl : j < l.length := (List.getElem?_eq_some_iff.mp hj).1
  obtain ⟨rfl, rfl⟩ | ⟨a, L, rfl, ha, hb, hr, k3, k4⟩ := h
  · cases hj
  · have hm : (j + 1) * 7 ≤ l.length * 7 := Nat.mul_le_mul_right 7 hl
    refine ⟨.p a (0 + j * 7), _, k4 j e hj, fun R k H' => ?_, fun R k => ?_⟩
    · rw [ixa_sl (by omega) (by omega), Int.toNat_natCast]
    · rw [hr.lds (by omega), Nat.zero_add]
noncomputable abbrev Lp46 : AC := (.loop (.seq (.ops [O 9 (.bin .lss .no (T 8) (T 7))]) (.seq (.cond (T 9) .skip (.exit 0)) (.seq (.block 1 (.seq (.ops [O 10 (.ixa 7 (T 6) (T 8)), O 11 (.ld true 7 (T 10)), O 5 (.new 32 [(.i .i64 0), (.b false), (.i .i64 0), (str []), (str []), (str []), .ns]), O_ (.st 7 (T 5) (T 11))]) (.ops [O 12 (.mv (T 3)), O 13 (.ld true 7 (T 5)), O 14 (.call (toPa 9) [(T 13)]), O 15 (.bsl 9 1 1 [(str [])] [(0, 1, (T 14))]), O 16 (.app 9 1 16 (T 12) (T 15)), O 3 (.mv (T 16))]))) (.ops [O 17 (.bin .add .no (T 8) (K (.i .i64 1))), O 8 (.mv (T 17))])))))
structure H46 (H0 : Heap) (ts : List (List UInt8)) (x : AV) (H : Heap) : Prop where
  g : Grow H0 H
  h : Held H0 H 9 1 x ts.length (ts.map str)
structure F46 (xk x : AV) (n i : Nat) (fr : Tr AV) : Prop where
  f3 : V fr 3 = x
  f6 : V fr 6 = xk
  f7 : V fr 7 = .i .i64 (n : Int)
  f8 : V fr 8 = .i .i64 (i : Int)
theorem loop46 {c d : Nat} {t : Ex → List UInt8} (hE : Shows 9 c d t) {H0 : Heap} (hG : Gl H0) {xk : AV} {kids : List Ex} (hk : KidsE Any (ExIn Any H0 d) H0 xk kids) (ho : ∀ k ∈ kids, OkE d k) (h8 : kids.length ≤ 8) : ∀ (rest done : List Ex) (x : AV) (H : Heap), done ++ rest = kids → H46 H0 (done.map t) x H →
    ∃ x' H', H46 H0 (kids.map t) x' H' ∧ ∀ fr, F46 xk x kids.length done.length fr → ∃ fr', F46 xk x' kids.length kids.length fr' ∧ ∀ M, c + 200 + rest.length ≤ M → ∀ (R : Type) (k : XK R), runK tbl M R Lp46 fr H k = k (.exit 0) fr' H'
  | [], done, x, H, hd, h => by
    rw [List.append_nil] at hd
    subst hd
    refine ⟨x, H, h, fun fr f => ?_⟩
    have f3 := f.f3
    have f6 := f.f6
    have f7 := f.f7
    have f8 := f.f8
    refine ⟨?fr1, ⟨?p3, ?p6, ?p7, ?p8⟩, fun M hM R k => ?e⟩
    case e =>
      obtain ⟨m, rfl⟩ : ∃ m, M = m + 100 := ⟨M - 100, by omega⟩
      unfold Lp46
      rw [run_loop]
      simp only [EX, reduceIte, Nat.reduceEqDiff, Nat.reduceAdd, Int.reduceEq, Int.reduceLT, Int.reduceLE, reduceCtorEq, Nat.reduceLeDiff, Nat.reduceSub, Nat.reduceLT, f7, f8, Int.lt_irrefl]
      with_reducible rfl
    case p3 => simp only [V_S, Nat.reduceEqDiff, reduceIte]; exact f3
    case p6 => simp only [V_S, Nat.reduceEqDiff, reduceIte]; exact f6
    case p7 => simp only [V_S, Nat.reduceEqDiff, reduceIte]; exact f7
    case p8 => simp only [V_S, Nat.reduceEqDiff, reduceIte]; exact f8
  | e :: rest, done, x, H, hd, h => by
    have hl : kids.length = done.length + rest.length + 1 := by rw [← hd]; simp; omega
    have hg : kids[done.length]? = some e := by rw [← hd, List.getElem?_append_right (Nat.le_refl _), Nat.sub_self]; rfl
    have hoe : OkE d e := ho e (by rw [← hd]; simp)
    obtain ⟨p, cs, hin, eix, eld⟩ := (hk.grow h.g).at hg
    obtain ⟨h7, h1⟩ := hin.one
    obtain ⟨H1, e1⟩ : ∃ H1, H1 = H.alloc (.cells false 0 32 7 (setCells [.i .i64 0, .b false, .i .i64 0, str [], str [], str [], .ns] 0 .leaf)) := ⟨_, rfl⟩
    have g1 : Grow H H1 := by rw [e1]; exact Grow.alloc H _
    have n1 : H1.next.toN = H.next.toN + 1 := by rw [e1]; exact next_alloc H _
    have r1 : Row H1 H.next 32 zs7 := by rw [e1]; exact Row.new H 32 zs7
    obtain ⟨H2, r2, b2, n2, est⟩ := r1.st_all (n := 7) (ys := cs) (by omega) h7 rfl h1
    have g2 : Grow H H2 := b2.of g1 (Nat.le_refl _)
    have la := r2.la 7 h7.symm
    obtain ⟨H3, g3, e9⟩ := hE H2 cs e (hin.grow g2) hoe (hG.grow (h.g.trans g2))
    obtain ⟨H4, e4⟩ : ∃ H4, H4 = H3.alloc (.cells false 0 9 1 (setCells [str (t e)] 0 .leaf)) := ⟨_, rfl⟩
    have g4 : Grow H3 H4 := by rw [e4]; exact Grow.alloc H3 _
    have r4 : Row H4 H3.next 9 [str (t e)] := by rw [e4]; exact Row.new H3 9 [str (t e)]
    have g04 := ((h.g.trans g2).trans g3).trans g4
    have hml : (done.map t).length = done.length := List.length_map _
    obtain ⟨H5, g5, n5, h5, eapp⟩ := (h.h.grow ((g2.trans g3).trans g4)).app (n := 0) (bytes := 16) (ys := [str (t e)]) g04 (by decide) rfl (by intro v hv; rw [List.mem_singleton.mp hv]; exact one_str) (by
      have : (16 * 9 : Nat) ≤ roomN := by decide
      rw [hml]; omega)
    have h5' : H46 H0 ((done ++ [e]).map t) (.sl H4.next 0 ((done.map t).length + (0 + 1)) none 1) H5 := ⟨g5, by
      have e1 : ((done ++ [e]).map t).length = (done.map t).length + (0 + 1) := by simp
      have e2 : ((done ++ [e]).map t).map str = (done.map t).map str ++ [str (t e)] := by simp
      rw [e1, e2]; exact h5⟩
    obtain ⟨x', H', h', eq'⟩ := loop46 hE hG hk ho h8 rest (done ++ [e]) _ H5 (by rw [← hd]; simp) h5'
    refine ⟨x', H', h', fun fr f => ?_⟩
    have f3 := f.f3
    have f6 := f.f6
    have f7 := f.f7
    have f8 := f.f8
    have hlt : (done.length : Int) < (kids.length : Int) := by omega
    have hw : IntKind.i64.wrap ((done.length : Int) + 1) = ((done ++ [e]).length : Int) := by rw [show (done.length : Int) + 1 = ((done ++ [e]).length : Int) by simp, wrap_n64 (by simp; omega)]
    have main : ∃ fr1, F46 xk (.sl H4.next 0 ((done.map t).length + (0 + 1)) none 1) kids.length (done ++ [e]).length fr1 ∧ ∀ M, c + 190 ≤ M → ∀ (R : Type) (k : XK R), runK tbl (M + 1) R Lp46 fr H k = runK tbl M R Lp46 fr1 H5 k := by
      refine ⟨?fr1b, ⟨?p3b, ?p6b, ?p7b, ?p8b⟩, fun M hM R k => ?eb⟩
      case eb =>
        obtain ⟨m, rfl⟩ : ∃ m, M = m + 190 := ⟨M - 190, by omega⟩
        unfold Lp46
        rw [run_loop]
        simp only [EX, reduceIte, Nat.reduceEqDiff, Nat.reduceAdd, Int.reduceEq, Int.reduceLT, Int.reduceLE, reduceCtorEq, Nat.reduceLeDiff, Nat.reduceSub, Nat.reduceLT, f3, f6, f7, f8, hlt, eix, eld]
        rw [← e1]
        refine (est _ _).trans ?_
        simp only [EX, reduceIte, Nat.reduceEqDiff, Nat.reduceAdd, Int.reduceEq, Int.reduceLT, Int.reduceLE, reduceCtorEq, Nat.reduceLeDiff, Nat.reduceSub, Nat.reduceLT, f3, la]
        rw [e9 _ (by omega)]
        simp only [EX, reduceIte, Nat.reduceEqDiff, Nat.reduceAdd, Int.reduceEq, Int.reduceLT, Int.reduceLE, reduceCtorEq, Nat.reduceLeDiff, Nat.reduceSub, Nat.reduceLT, f3]
        rw [← e4, eapp _ _ _ fun f => src_all (n := 0 + 1) r4 rfl f]
        simp only [EX, reduceIte, Nat.reduceEqDiff, Nat.reduceAdd, Int.reduceEq, Int.reduceLT, Int.reduceLE, reduceCtorEq, Nat.reduceLeDiff, Nat.reduceSub, Nat.reduceLT, f8, i_add, hw]
        with_reducible rfl
      case p3b => simp only [V_S, Nat.reduceEqDiff, reduceIte]
      case p6b => simp only [V_S, Nat.reduceEqDiff, reduceIte]; exact f6
      case p7b => simp only [V_S, Nat.reduceEqDiff, reduceIte]; exact f7
      case p8b => simp only [V_S, Nat.reduceEqDiff, reduceIte]
    obtain ⟨fr1, f1, e10⟩ := main
    obtain ⟨fr2, f2, e20⟩ := eq' fr1 f1
    refine ⟨fr2, f2, fun M hM R k => ?_⟩
    rw [List.length_cons] at hM
    obtain ⟨m, rfl⟩ : ∃ m, M = m + 1 := ⟨M - 1, by omega⟩
    rw [e10 m (by omega), e20 m (by omega)]
theorem s46 {c d : Nat} {t : Ex → List UInt8} (hE : Shows 9 c d t) (hB : ∀ e, OkE d e → (t e).length ≤ 4000000000000) {H : Heap} (hG : Gl H) {xk : AV} {kids : List Ex} (hk : KidsE Any (ExIn Any H d) H xk kids) (ho : ∀ k ∈ kids, OkE d k) (h8 : kids.length ≤ 8) :
    Tells 46 (c + 2100) [xk] H (str (joinS (kids.map t))) := by
  obtain ⟨x1, H1, h1, el⟩ := loop46 hE hG hk ho h8 kids [] .ns H rfl ⟨Grow.refl H, Held.init _ _ _ _⟩
  have hsum := sum_le fun k hk => hB k (ho k hk)
  have hml : (kids.map t).length = kids.length := List.length_map _
  obtain ⟨H2, g2, e2⟩ := s35 (Strs.of h1.h) (by rw [hml]; omega) (by
    have : (32000000000100 : Nat) ≤ roomN := by decide
    have hm : 4000000000000 * kids.length ≤ 4000000000000 * 8 := Nat.mul_le_mul_left _ h8
    rw [hml]; omega)
  have elq : ∀ fr, F46 xk .ns kids.length 0 fr → ∀ M, c + 200 + kids.length ≤ M → ∀ (R : Type) (k : XK R) (res : Option R), (∀ fr', F46 xk x1 kids.length kids.length fr' → k (.exit 0) fr' H1 = res) → runK tbl M R Lp46 fr H k = res := by
    intro fr f M hM R k res hr
    obtain ⟨fr', f', er⟩ := el fr f
    rw [er M hM R k, hr fr' f']
  refine ⟨H2, h1.g.trans g2, fun M hM R k => ?_⟩
  obtain ⟨m, rfl⟩ : ∃ m, M = m + 2100 := ⟨M - 2100, by omega⟩
  rw [call_eq L46]
  unfold B46
  simp only [EX, reduceIte, Nat.reduceEqDiff, Nat.reduceAdd, Int.reduceEq, Int.reduceLT, Int.reduceLE, reduceCtorEq, Nat.reduceLeDiff, Nat.reduceSub, Nat.reduceLT, hk.len]
  refine elq _ ?ff _ ?hm R _ _ fun fr' f' => ?ee
  case ff => exact ⟨by simp only [V_S, Nat.reduceEqDiff, reduceIte], by simp only [V_S, Nat.reduceEqDiff, reduceIte], by simp only [V_S, Nat.reduceEqDiff, reduceIte], by (simp only [V_S, Nat.reduceEqDiff, reduceIte]) <;> rfl⟩
  case hm => omega
  case ee =>
    have f3 := f'.f3
    simp only [EX, reduceIte, Nat.reduceEqDiff, Nat.reduceAdd, Int.reduceEq, Int.reduceLT, Int.reduceLE, reduceCtorEq, Nat.reduceLeDiff, Nat.reduceSub, Nat.reduceLT, f3]
    rw [e2 _ (by omega)]
    simp only [EX, reduceIte, Nat.reduceEqDiff, Nat.reduceAdd, Int.reduceEq, Int.reduceLT, Int.reduceLE, reduceCtorEq, Nat.reduceLeDiff, Nat.reduceSub, Nat.reduceLT]
end Go.Proofs.YtmmmjhkgjmbfaaaDoor

/- The program's text of a tree: of one by itself, of one with one kid, two, three (show.leaf, single, double, Expr). -/
namespace Go.Proofs.YtmmmjhkgjmbfaaaDoor
open Go Go.Vai
set_option maxRecDepth 100000
set_option maxHeartbeats 1600000
set_option linter.unusedSimpArgs false
theorem KidsE.atg {S : Pa → Prop} {P : List AV → Ex → Prop} {H : Heap} {x : AV} {l : List Ex} (h : KidsE S P H x l) {j : Nat} {e : Ex} (hj : l[j]? = some e) :
    ∃ p cs, P cs e ∧ (∀ (R : Type) (k : HK R) (H' : Heap), ixaC 7 x (.i .i64 (j : Int)) k H' = k p H') ∧ ∀ G, Grow H G → ∀ (R : Type) (k : HK R), ldC true 7 p k G = k (.ag cs) G := by
  have hl : j < l.length := (List.getElem?_eq_some_iff.mp hj).1
  obtain ⟨rfl, rfl⟩ | ⟨a, L, rfl, ha, hb, hr, k3, k4⟩ := h
  · cases hj
  · have hm : (j + 1) * 7 ≤ l.length * 7 := Nat.mul_le_mul_right 7 hl
    refine ⟨.p a (0 + j * 7), _, k4 j e hj, fun R k H' => ?_, fun G g R k => ?_⟩
    · rw [ixa_sl (by omega) (by omega), Int.toNat_natCast]
    · rw [(hr.grow g hb).lds (by omega), Nat.zero_add]
theorem ExIn.self {H : Heap} {d : Nat} {cs : List AV} {e : Ex} (h : ExIn Any H d cs e) : avEq (.ag cs) (.ag cs) = true := by
  match d, e, h with
  | d + 1, .mk op b n s u i kids, ⟨xk, hc, hk⟩ =>
    have hx : avEq1 xk xk = true := by
      obtain ⟨rfl, _⟩ | ⟨a, L, rfl, _⟩ := hk
      · exact av1_ns
      · exact av1_sl
    rw [hc]
    refine avEq_ag fun v hv => ?_
    simp only [ec, List.mem_cons, List.not_mem_nil, or_false] at hv
    rcases hv with rfl | rfl | rfl | rfl | rfl | rfl | rfl
    · exact av1_i
    · exact av1_b
    · exact av1_i
    · exact av1_str
    · exact av1_str
    · exact av1_str
    · exact hx
section
variable {c d : Nat} {t : Ex → List UInt8}
theorem s21_1 (hc : 2800 ≤ c) {H : Heap} (hG : Gl H) {b : Bool} {n : Int} {s u i : List UInt8} {xk : AV} {kids : List Ex} : Tells 21 (c + 2400) [.ag (ec 1 b n s u i xk)] H (str (sh1 t (.mk 1 b n s u i kids))) := by
  obtain ⟨H1, e1⟩ : ∃ H1, H1 = H.alloc (.cells false 0 32 (ec 1 b n s u i xk).length (setCells (ec 1 b n s u i xk) 0 .leaf)) := ⟨_, rfl⟩
  have g1 : Grow H H1 := by rw [e1]; exact Grow.alloc H _
  have n1 : H1.next.toN = H.next.toN + 1 := by rw [e1]; exact next_alloc H _
  have r1 : Row H1 H.next 32 (ec 1 b n s u i xk) := by rw [e1]; exact Row.new H 32 (ec 1 b n s u i xk)
  have l0 := r1.l 0 (v := .i .i64 1) rfl
  have l1 := r1.l 1 (v := .b b) rfl
  have l2 := r1.l 2 (v := .i .i64 n) rfl
  have l3 := r1.l 3 (v := str s) rfl
  have l6 := r1.l 6 (v := xk) rfl
  have l4 : ∀ (R : Type) (k : HK R), ldC true 2 (.p H.next 4) k H1 = k (.ag [str u, str i]) H1 := fun R k => r1.lds (n := 2) (off := 4) (by show 6 ≤ 7; omega)
  have hs := sMax4
  obtain ⟨H2, g2, e2⟩ := s40 (H := H1) b
  refine ⟨H2, g1.trans g2, fun M hM R k => ?_⟩
  obtain ⟨m, rfl⟩ : ∃ m, M = m + 2400 := ⟨M - 2400, by omega⟩
  rw [call_eq L21]
  unfold B21
  simp only [EX, reduceIte, Nat.reduceEqDiff, Nat.reduceAdd, Int.reduceEq, Int.reduceLT, Int.reduceLE, reduceCtorEq, Nat.reduceLeDiff, Nat.reduceSub, Nat.reduceLT]
  rw [← e1]
  simp only [EX, reduceIte, Nat.reduceEqDiff, Nat.reduceAdd, Int.reduceEq, Int.reduceLT, Int.reduceLE, reduceCtorEq, Nat.reduceLeDiff, Nat.reduceSub, Nat.reduceLT, l0, l1, l2, l3, l4, l6]
  refine (e2 _ (by omega) _ _).trans ?_
  simp only [EX, reduceIte, Nat.reduceEqDiff, Nat.reduceAdd, Int.reduceEq, Int.reduceLT, Int.reduceLE, reduceCtorEq, Nat.reduceLeDiff, Nat.reduceSub, Nat.reduceLT]
  exact rfl
theorem s21_2 (hc : 2800 ≤ c) {H : Heap} (hG : Gl H) {b : Bool} {n : Int} {s u i : List UInt8} {xk : AV} {kids : List Ex} (hn : 0 ≤ n ∧ n < 9223372036854775808) : Tells 21 (c + 2400) [.ag (ec 2 b n s u i xk)] H (str (sh1 t (.mk 2 b n s u i kids))) := by
  obtain ⟨H1, e1⟩ : ∃ H1, H1 = H.alloc (.cells false 0 32 (ec 2 b n s u i xk).length (setCells (ec 2 b n s u i xk) 0 .leaf)) := ⟨_, rfl⟩
  have g1 : Grow H H1 := by rw [e1]; exact Grow.alloc H _
  have n1 : H1.next.toN = H.next.toN + 1 := by rw [e1]; exact next_alloc H _
  have r1 : Row H1 H.next 32 (ec 2 b n s u i xk) := by rw [e1]; exact Row.new H 32 (ec 2 b n s u i xk)
  have l0 := r1.l 0 (v := .i .i64 2) rfl
  have l1 := r1.l 1 (v := .b b) rfl
  have l2 := r1.l 2 (v := .i .i64 n) rfl
  have l3 := r1.l 3 (v := str s) rfl
  have l6 := r1.l 6 (v := xk) rfl
  have l4 : ∀ (R : Type) (k : HK R), ldC true 2 (.p H.next 4) k H1 = k (.ag [str u, str i]) H1 := fun R k => r1.lds (n := 2) (off := 4) (by show 6 ≤ 7; omega)
  have hs := sMax4
  obtain ⟨N, rfl⟩ := Int.eq_ofNat_of_zero_le hn.1
  obtain ⟨H2, g2, e2⟩ := s44 (n := N) (by omega) (hG.grow g1).1
  refine ⟨H2, g1.trans g2, fun M hM R k => ?_⟩
  obtain ⟨m, rfl⟩ : ∃ m, M = m + 2400 := ⟨M - 2400, by omega⟩
  rw [call_eq L21]
  unfold B21
  simp only [EX, reduceIte, Nat.reduceEqDiff, Nat.reduceAdd, Int.reduceEq, Int.reduceLT, Int.reduceLE, reduceCtorEq, Nat.reduceLeDiff, Nat.reduceSub, Nat.reduceLT]
  rw [← e1]
  simp only [EX, reduceIte, Nat.reduceEqDiff, Nat.reduceAdd, Int.reduceEq, Int.reduceLT, Int.reduceLE, reduceCtorEq, Nat.reduceLeDiff, Nat.reduceSub, Nat.reduceLT, l0, l1, l2, l3, l4, l6]
  rw [e2 _ (by omega)]
  simp only [EX, reduceIte, Nat.reduceEqDiff, Nat.reduceAdd, Int.reduceEq, Int.reduceLT, Int.reduceLE, reduceCtorEq, Nat.reduceLeDiff, Nat.reduceSub, Nat.reduceLT]
  exact rfl
theorem s21_3 (hc : 2800 ≤ c) {H : Heap} (hG : Gl H) {b : Bool} {n : Int} {s u i : List UInt8} {xk : AV} {kids : List Ex} (hr : Rtx s) : Tells 21 (c + 2400) [.ag (ec 3 b n s u i xk)] H (str (sh1 t (.mk 3 b n s u i kids))) := by
  obtain ⟨H1, e1⟩ : ∃ H1, H1 = H.alloc (.cells false 0 32 (ec 3 b n s u i xk).length (setCells (ec 3 b n s u i xk) 0 .leaf)) := ⟨_, rfl⟩
  have g1 : Grow H H1 := by rw [e1]; exact Grow.alloc H _
  have n1 : H1.next.toN = H.next.toN + 1 := by rw [e1]; exact next_alloc H _
  have r1 : Row H1 H.next 32 (ec 3 b n s u i xk) := by rw [e1]; exact Row.new H 32 (ec 3 b n s u i xk)
  have l0 := r1.l 0 (v := .i .i64 3) rfl
  have l1 := r1.l 1 (v := .b b) rfl
  have l2 := r1.l 2 (v := .i .i64 n) rfl
  have l3 := r1.l 3 (v := str s) rfl
  have l6 := r1.l 6 (v := xk) rfl
  have l4 : ∀ (R : Type) (k : HK R), ldC true 2 (.p H.next 4) k H1 = k (.ag [str u, str i]) H1 := fun R k => r1.lds (n := 2) (off := 4) (by show 6 ≤ 7; omega)
  have hs := sMax4
  obtain ⟨l, hl, hn, rfl⟩ := hr
  obtain ⟨H2, g2, e2⟩ := s45 hl (by omega) (hG.grow g1).2
  rw [← quoB_tx hl] at e2
  refine ⟨H2, g1.trans g2, fun M hM R k => ?_⟩
  obtain ⟨m, rfl⟩ : ∃ m, M = m + 2400 := ⟨M - 2400, by omega⟩
  rw [call_eq L21]
  unfold B21
  simp only [EX, reduceIte, Nat.reduceEqDiff, Nat.reduceAdd, Int.reduceEq, Int.reduceLT, Int.reduceLE, reduceCtorEq, Nat.reduceLeDiff, Nat.reduceSub, Nat.reduceLT]
  rw [← e1]
  simp only [EX, reduceIte, Nat.reduceEqDiff, Nat.reduceAdd, Int.reduceEq, Int.reduceLT, Int.reduceLE, reduceCtorEq, Nat.reduceLeDiff, Nat.reduceSub, Nat.reduceLT, l0, l1, l2, l3, l4, l6]
  rw [e2 _ (by omega)]
  simp only [EX, reduceIte, Nat.reduceEqDiff, Nat.reduceAdd, Int.reduceEq, Int.reduceLT, Int.reduceLE, reduceCtorEq, Nat.reduceLeDiff, Nat.reduceSub, Nat.reduceLT]
  exact rfl
theorem s21_4 (hc : 2800 ≤ c) {H : Heap} (hG : Gl H) {b : Bool} {n : Int} {s u i : List UInt8} {xk : AV} {kids : List Ex} (hu : u.length ≤ 40) (hr : Rtx i) : Tells 21 (c + 2400) [.ag (ec 4 b n s u i xk)] H (str (sh1 t (.mk 4 b n s u i kids))) := by
  obtain ⟨H1, e1⟩ : ∃ H1, H1 = H.alloc (.cells false 0 32 (ec 4 b n s u i xk).length (setCells (ec 4 b n s u i xk) 0 .leaf)) := ⟨_, rfl⟩
  have g1 : Grow H H1 := by rw [e1]; exact Grow.alloc H _
  have n1 : H1.next.toN = H.next.toN + 1 := by rw [e1]; exact next_alloc H _
  have r1 : Row H1 H.next 32 (ec 4 b n s u i xk) := by rw [e1]; exact Row.new H 32 (ec 4 b n s u i xk)
  have l0 := r1.l 0 (v := .i .i64 4) rfl
  have l1 := r1.l 1 (v := .b b) rfl
  have l2 := r1.l 2 (v := .i .i64 n) rfl
  have l3 := r1.l 3 (v := str s) rfl
  have l6 := r1.l 6 (v := xk) rfl
  have l4 : ∀ (R : Type) (k : HK R), ldC true 2 (.p H.next 4) k H1 = k (.ag [str u, str i]) H1 := fun R k => r1.lds (n := 2) (off := 4) (by show 6 ≤ 7; omega)
  have hs := sMax4
  obtain ⟨H2, g2, e2⟩ := s39 (hG.grow g1) hu hr
  refine ⟨H2, g1.trans g2, fun M hM R k => ?_⟩
  obtain ⟨m, rfl⟩ : ∃ m, M = m + 2400 := ⟨M - 2400, by omega⟩
  rw [call_eq L21]
  unfold B21
  simp only [EX, reduceIte, Nat.reduceEqDiff, Nat.reduceAdd, Int.reduceEq, Int.reduceLT, Int.reduceLE, reduceCtorEq, Nat.reduceLeDiff, Nat.reduceSub, Nat.reduceLT]
  rw [← e1]
  simp only [EX, reduceIte, Nat.reduceEqDiff, Nat.reduceAdd, Int.reduceEq, Int.reduceLT, Int.reduceLE, reduceCtorEq, Nat.reduceLeDiff, Nat.reduceSub, Nat.reduceLT, l0, l1, l2, l3, l4, l6]
  rw [e2 _ (by omega)]
  simp only [EX, reduceIte, Nat.reduceEqDiff, Nat.reduceAdd, Int.reduceEq, Int.reduceLT, Int.reduceLE, reduceCtorEq, Nat.reduceLeDiff, Nat.reduceSub, Nat.reduceLT]
  exact rfl
theorem s21_5 (hc : 2800 ≤ c) {H : Heap} (hG : Gl H) {b : Bool} {n : Int} {s u i : List UInt8} {xk : AV} {kids : List Ex} : Tells 21 (c + 2400) [.ag (ec 5 b n s u i xk)] H (str (sh1 t (.mk 5 b n s u i kids))) := by
  obtain ⟨H1, e1⟩ : ∃ H1, H1 = H.alloc (.cells false 0 32 (ec 5 b n s u i xk).length (setCells (ec 5 b n s u i xk) 0 .leaf)) := ⟨_, rfl⟩
  have g1 : Grow H H1 := by rw [e1]; exact Grow.alloc H _
  have n1 : H1.next.toN = H.next.toN + 1 := by rw [e1]; exact next_alloc H _
  have r1 : Row H1 H.next 32 (ec 5 b n s u i xk) := by rw [e1]; exact Row.new H 32 (ec 5 b n s u i xk)
  have l0 := r1.l 0 (v := .i .i64 5) rfl
  have l1 := r1.l 1 (v := .b b) rfl
  have l2 := r1.l 2 (v := .i .i64 n) rfl
  have l3 := r1.l 3 (v := str s) rfl
  have l6 := r1.l 6 (v := xk) rfl
  have l4 : ∀ (R : Type) (k : HK R), ldC true 2 (.p H.next 4) k H1 = k (.ag [str u, str i]) H1 := fun R k => r1.lds (n := 2) (off := 4) (by show 6 ≤ 7; omega)
  have hs := sMax4
  have g2 : Grow H1 H1 := Grow.refl _
  refine ⟨H1, g1.trans g2, fun M hM R k => ?_⟩
  obtain ⟨m, rfl⟩ : ∃ m, M = m + 2400 := ⟨M - 2400, by omega⟩
  rw [call_eq L21]
  unfold B21
  simp only [EX, reduceIte, Nat.reduceEqDiff, Nat.reduceAdd, Int.reduceEq, Int.reduceLT, Int.reduceLE, reduceCtorEq, Nat.reduceLeDiff, Nat.reduceSub, Nat.reduceLT]
  rw [← e1]
  simp only [EX, reduceIte, Nat.reduceEqDiff, Nat.reduceAdd, Int.reduceEq, Int.reduceLT, Int.reduceLE, reduceCtorEq, Nat.reduceLeDiff, Nat.reduceSub, Nat.reduceLT, l0, l1, l2, l3, l4, l6]
  exact rfl
theorem s21_6 (hc : 2800 ≤ c) {H : Heap} (hG : Gl H) {b : Bool} {n : Int} {s u i : List UInt8} {xk : AV} {kids : List Ex} (hE : Shows 9 c d t) (hB : ∀ e, OkE d e → (t e).length ≤ 4000000000000) (hk : KidsE Any (ExIn Any H d) H xk kids) (ho : ∀ k ∈ kids, OkE d k) (h8 : kids.length ≤ 8) : Tells 21 (c + 2400) [.ag (ec 6 b n s u i xk)] H (str (sh1 t (.mk 6 b n s u i kids))) := by
  obtain ⟨H1, e1⟩ : ∃ H1, H1 = H.alloc (.cells false 0 32 (ec 6 b n s u i xk).length (setCells (ec 6 b n s u i xk) 0 .leaf)) := ⟨_, rfl⟩
  have g1 : Grow H H1 := by rw [e1]; exact Grow.alloc H _
  have n1 : H1.next.toN = H.next.toN + 1 := by rw [e1]; exact next_alloc H _
  have r1 : Row H1 H.next 32 (ec 6 b n s u i xk) := by rw [e1]; exact Row.new H 32 (ec 6 b n s u i xk)
  have l0 := r1.l 0 (v := .i .i64 6) rfl
  have l1 := r1.l 1 (v := .b b) rfl
  have l2 := r1.l 2 (v := .i .i64 n) rfl
  have l3 := r1.l 3 (v := str s) rfl
  have l6 := r1.l 6 (v := xk) rfl
  have l4 : ∀ (R : Type) (k : HK R), ldC true 2 (.p H.next 4) k H1 = k (.ag [str u, str i]) H1 := fun R k => r1.lds (n := 2) (off := 4) (by show 6 ≤ 7; omega)
  have hs := sMax4
  obtain ⟨H2, g2, e2⟩ := s46 hE hB (hG.grow g1) (hk.grow g1) ho h8
  have hsum := sum_le fun k hk => hB k (ho k hk)
  have hml : (kids.map t).length = kids.length := List.length_map _
  have hj := joinS_le (kids.map t)
  have hm : 4000000000000 * kids.length ≤ 4000000000000 * 8 := Nat.mul_le_mul_left _ h8
  have hs2 : (32000000000100 : Nat) ≤ sMax := by decide
  refine ⟨H2, g1.trans g2, fun M hM R k => ?_⟩
  obtain ⟨m, rfl⟩ : ∃ m, M = m + 2400 := ⟨M - 2400, by omega⟩
  rw [call_eq L21]
  unfold B21
  simp only [EX, reduceIte, Nat.reduceEqDiff, Nat.reduceAdd, Int.reduceEq, Int.reduceLT, Int.reduceLE, reduceCtorEq, Nat.reduceLeDiff, Nat.reduceSub, Nat.reduceLT]
  rw [← e1]
  simp only [EX, reduceIte, Nat.reduceEqDiff, Nat.reduceAdd, Int.reduceEq, Int.reduceLT, Int.reduceLE, reduceCtorEq, Nat.reduceLeDiff, Nat.reduceSub, Nat.reduceLT, l0, l1, l2, l3, l4, l6]
  rw [e2 _ (by omega)]
  simp only [EX, reduceIte, Nat.reduceEqDiff, Nat.reduceAdd, Int.reduceEq, Int.reduceLT, Int.reduceLE, reduceCtorEq, Nat.reduceLeDiff, Nat.reduceSub, Nat.reduceLT]
  rw [s_add (by show 1 + _ ≤ _; omega)]
  simp only [EX, reduceIte, Nat.reduceEqDiff, Nat.reduceAdd, Int.reduceEq, Int.reduceLT, Int.reduceLE, reduceCtorEq, Nat.reduceLeDiff, Nat.reduceSub, Nat.reduceLT]
  rw [s_add (by rw [List.length_append]; show 1 + _ + 1 ≤ _; omega)]
  simp only [EX, reduceIte, Nat.reduceEqDiff, Nat.reduceAdd, Int.reduceEq, Int.reduceLT, Int.reduceLE, reduceCtorEq, Nat.reduceLeDiff, Nat.reduceSub, Nat.reduceLT]
  exact rfl
end
end Go.Proofs.YtmmmjhkgjmbfaaaDoor

/- The program's text of a tree with one kid, with two (show.single, show.double). -/
namespace Go.Proofs.YtmmmjhkgjmbfaaaDoor
open Go Go.Vai
set_option maxRecDepth 100000
set_option maxHeartbeats 1600000
set_option linter.unusedSimpArgs false
theorem ktxB {d : Nat} {t : Ex → List UInt8} (hB : ∀ e, OkE d e → (t e).length ≤ 4000000000000) {e : Ex} (ho : OkE d e) (a : Nat) : (ktx t e a).length ≤ 4000000000002 := ktx_le (hB e ho)
theorem sMax8 : 9000000000000 ≤ sMax := by decide
section
variable {c d : Nat} {t : Ex → List UInt8}
theorem s22_7 (hE : Shows 9 c d t) (hB : ∀ e, OkE d e → (t e).length ≤ 4000000000000) (hc : 2800 ≤ c) {H : Heap} (hG : Gl H) {b : Bool} {n : Int} {s u i : List UInt8} {xk : AV} {kids : List Ex} {ck : List AV} (hs : s.length ≤ 40)
    (hk : ExIn Any H d ck (kd kids 0)) (ho : OkE d (kd kids 0)) : Tells 22 (c + 500) [.ag (ec 7 b n s u i xk), .ag ck] H (str (sh1 t (.mk 7 b n s u i kids))) := by
  obtain ⟨H1, e1⟩ : ∃ H1, H1 = H.alloc (.cells false 0 32 (ec 7 b n s u i xk).length (setCells (ec 7 b n s u i xk) 0 .leaf)) := ⟨_, rfl⟩
  have g1 : Grow H H1 := by rw [e1]; exact Grow.alloc H _
  have n1 : H1.next.toN = H.next.toN + 1 := by rw [e1]; exact next_alloc H _
  have r1 : Row H1 H.next 32 (ec 7 b n s u i xk) := by rw [e1]; exact Row.new H 32 (ec 7 b n s u i xk)
  obtain ⟨H2, e2, g2, n2, r2, k2, hk7⟩ := box_ex (hk.grow g1)
  have p1 := r1.grow g2 (by omega)
  have l0 := p1.l 0 (v := .i .i64 7) rfl
  have l3 := p1.l 3 (v := str s) rfl
  have la := r2.la 7 hk7.symm
  have sa := hk.self
  obtain ⟨H3, g3, e47⟩ := s47 hE hB k2 ho ((hG.grow g1).grow g2) 7
  rw [show ((7 : Nat) : Int) = 7 from rfl] at e47
  have l33 := (p1.grow g3 (by omega)).l 3 (v := str s) rfl
  have hkt := ktxB hB ho 7
  have hsM := sMax8
  refine ⟨H3, (g1.trans g2).trans g3, fun M hM R k => ?_⟩
  obtain ⟨m, rfl⟩ : ∃ m, M = m + 500 := ⟨M - 500, by omega⟩
  rw [call_eq L22]
  unfold B22
  simp only [EX, reduceIte, Nat.reduceEqDiff, Nat.reduceAdd, Int.reduceEq, Int.reduceLT, Int.reduceLE, reduceCtorEq, Nat.reduceLeDiff, Nat.reduceSub, Nat.reduceLT]
  have es1 : H.next.succ = H1.next := by rw [e1]
  rw [← e1, ← e2, es1]
  simp only [EX, reduceIte, Nat.reduceEqDiff, Nat.reduceAdd, Int.reduceEq, Int.reduceLT, Int.reduceLE, reduceCtorEq, Nat.reduceLeDiff, Nat.reduceSub, Nat.reduceLT, l0, la, sa]
  rw [e47 _ (by omega)]
  simp only [EX, reduceIte, Nat.reduceEqDiff, Nat.reduceAdd, Int.reduceEq, Int.reduceLT, Int.reduceLE, reduceCtorEq, Nat.reduceLeDiff, Nat.reduceSub, Nat.reduceLT, l3, l33]
  rw [s_add (by simp only [List.length_append, List.length_cons, List.length_nil]; omega)]
  simp only [EX, reduceIte, Nat.reduceEqDiff, Nat.reduceAdd, Int.reduceEq, Int.reduceLT, Int.reduceLE, reduceCtorEq, Nat.reduceLeDiff, Nat.reduceSub, Nat.reduceLT, l3, l33]
  rw [s_add (by simp only [List.length_append, List.length_cons, List.length_nil]; omega)]
  simp only [EX, reduceIte, Nat.reduceEqDiff, Nat.reduceAdd, Int.reduceEq, Int.reduceLT, Int.reduceLE, reduceCtorEq, Nat.reduceLeDiff, Nat.reduceSub, Nat.reduceLT]
  exact rfl
theorem s22_8 (hE : Shows 9 c d t) (hB : ∀ e, OkE d e → (t e).length ≤ 4000000000000) (hc : 2800 ≤ c) {H : Heap} (hG : Gl H) {b : Bool} {n : Int} {s u i : List UInt8} {xk : AV} {kids : List Ex} {ck : List AV} (hs : s.length ≤ 40)
    (hk : ExIn Any H d ck (kd kids 0)) (ho : OkE d (kd kids 0)) : Tells 22 (c + 500) [.ag (ec 8 b n s u i xk), .ag ck] H (str (sh1 t (.mk 8 b n s u i kids))) := by
  obtain ⟨H1, e1⟩ : ∃ H1, H1 = H.alloc (.cells false 0 32 (ec 8 b n s u i xk).length (setCells (ec 8 b n s u i xk) 0 .leaf)) := ⟨_, rfl⟩
  have g1 : Grow H H1 := by rw [e1]; exact Grow.alloc H _
  have n1 : H1.next.toN = H.next.toN + 1 := by rw [e1]; exact next_alloc H _
  have r1 : Row H1 H.next 32 (ec 8 b n s u i xk) := by rw [e1]; exact Row.new H 32 (ec 8 b n s u i xk)
  obtain ⟨H2, e2, g2, n2, r2, k2, hk7⟩ := box_ex (hk.grow g1)
  have p1 := r1.grow g2 (by omega)
  have l0 := p1.l 0 (v := .i .i64 8) rfl
  have l3 := p1.l 3 (v := str s) rfl
  have la := r2.la 7 hk7.symm
  have sa := hk.self
  obtain ⟨H3, g3, e47⟩ := s47 hE hB k2 ho ((hG.grow g1).grow g2) 4
  rw [show ((4 : Nat) : Int) = 4 from rfl] at e47
  have l33 := (p1.grow g3 (by omega)).l 3 (v := str s) rfl
  have hkt := ktxB hB ho 4
  have hsM := sMax8
  refine ⟨H3, (g1.trans g2).trans g3, fun M hM R k => ?_⟩
  obtain ⟨m, rfl⟩ : ∃ m, M = m + 500 := ⟨M - 500, by omega⟩
  rw [call_eq L22]
  unfold B22
  simp only [EX, reduceIte, Nat.reduceEqDiff, Nat.reduceAdd, Int.reduceEq, Int.reduceLT, Int.reduceLE, reduceCtorEq, Nat.reduceLeDiff, Nat.reduceSub, Nat.reduceLT]
  have es1 : H.next.succ = H1.next := by rw [e1]
  rw [← e1, ← e2, es1]
  simp only [EX, reduceIte, Nat.reduceEqDiff, Nat.reduceAdd, Int.reduceEq, Int.reduceLT, Int.reduceLE, reduceCtorEq, Nat.reduceLeDiff, Nat.reduceSub, Nat.reduceLT, l0, la, sa]
  rw [e47 _ (by omega)]
  simp only [EX, reduceIte, Nat.reduceEqDiff, Nat.reduceAdd, Int.reduceEq, Int.reduceLT, Int.reduceLE, reduceCtorEq, Nat.reduceLeDiff, Nat.reduceSub, Nat.reduceLT, l3, l33]
  rw [s_add (by simp only [List.length_append, List.length_cons, List.length_nil]; omega)]
  simp only [EX, reduceIte, Nat.reduceEqDiff, Nat.reduceAdd, Int.reduceEq, Int.reduceLT, Int.reduceLE, reduceCtorEq, Nat.reduceLeDiff, Nat.reduceSub, Nat.reduceLT, l3, l33]
  rw [s_add (by simp only [List.length_append, List.length_cons, List.length_nil]; omega)]
  simp only [EX, reduceIte, Nat.reduceEqDiff, Nat.reduceAdd, Int.reduceEq, Int.reduceLT, Int.reduceLE, reduceCtorEq, Nat.reduceLeDiff, Nat.reduceSub, Nat.reduceLT]
  exact rfl
theorem s22_10 (hE : Shows 9 c d t) (hB : ∀ e, OkE d e → (t e).length ≤ 4000000000000) (hc : 2800 ≤ c) {H : Heap} (hG : Gl H) {b : Bool} {n : Int} {s u i : List UInt8} {xk : AV} {kids : List Ex} {ck : List AV} (hs : s.length ≤ 40)
    (hk : ExIn Any H d ck (kd kids 0)) (ho : OkE d (kd kids 0)) (hr : Rtx s) : Tells 22 (c + 500) [.ag (ec 10 b n s u i xk), .ag ck] H (str (sh1 t (.mk 10 b n s u i kids))) := by
  obtain ⟨H1, e1⟩ : ∃ H1, H1 = H.alloc (.cells false 0 32 (ec 10 b n s u i xk).length (setCells (ec 10 b n s u i xk) 0 .leaf)) := ⟨_, rfl⟩
  have g1 : Grow H H1 := by rw [e1]; exact Grow.alloc H _
  have n1 : H1.next.toN = H.next.toN + 1 := by rw [e1]; exact next_alloc H _
  have r1 : Row H1 H.next 32 (ec 10 b n s u i xk) := by rw [e1]; exact Row.new H 32 (ec 10 b n s u i xk)
  obtain ⟨H2, e2, g2, n2, r2, k2, hk7⟩ := box_ex (hk.grow g1)
  have p1 := r1.grow g2 (by omega)
  have l0 := p1.l 0 (v := .i .i64 10) rfl
  have l3 := p1.l 3 (v := str s) rfl
  have la := r2.la 7 hk7.symm
  have sa := hk.self
  obtain ⟨H3, g3, e47⟩ := s47 hE hB k2 ho ((hG.grow g1).grow g2) 4
  rw [show ((4 : Nat) : Int) = 4 from rfl] at e47
  have l33 := (p1.grow g3 (by omega)).l 3 (v := str s) rfl
  have hkt := ktxB hB ho 4
  have hsM := sMax8
  have hq := rtx_le hr
  obtain ⟨l, hl, hn, hrl⟩ := hr
  obtain ⟨H4, g4, e45⟩ := s45 hl (by omega) (((hG.grow g1).grow g2).grow g3).2
  rw [← quoB_tx hl, ← hrl] at e45
  refine ⟨H4, ((g1.trans g2).trans g3).trans g4, fun M hM R k => ?_⟩
  obtain ⟨m, rfl⟩ : ∃ m, M = m + 500 := ⟨M - 500, by omega⟩
  rw [call_eq L22]
  unfold B22
  simp only [EX, reduceIte, Nat.reduceEqDiff, Nat.reduceAdd, Int.reduceEq, Int.reduceLT, Int.reduceLE, reduceCtorEq, Nat.reduceLeDiff, Nat.reduceSub, Nat.reduceLT]
  have es1 : H.next.succ = H1.next := by rw [e1]
  rw [← e1, ← e2, es1]
  simp only [EX, reduceIte, Nat.reduceEqDiff, Nat.reduceAdd, Int.reduceEq, Int.reduceLT, Int.reduceLE, reduceCtorEq, Nat.reduceLeDiff, Nat.reduceSub, Nat.reduceLT, l0, la, sa]
  rw [e47 _ (by omega)]
  simp only [EX, reduceIte, Nat.reduceEqDiff, Nat.reduceAdd, Int.reduceEq, Int.reduceLT, Int.reduceLE, reduceCtorEq, Nat.reduceLeDiff, Nat.reduceSub, Nat.reduceLT, l3, l33]
  rw [e45 _ (by omega)]
  simp only [EX, reduceIte, Nat.reduceEqDiff, Nat.reduceAdd, Int.reduceEq, Int.reduceLT, Int.reduceLE, reduceCtorEq, Nat.reduceLeDiff, Nat.reduceSub, Nat.reduceLT]
  rw [s_add (by simp only [List.length_append, List.length_cons, List.length_nil]; omega)]
  simp only [EX, reduceIte, Nat.reduceEqDiff, Nat.reduceAdd, Int.reduceEq, Int.reduceLT, Int.reduceLE, reduceCtorEq, Nat.reduceLeDiff, Nat.reduceSub, Nat.reduceLT]
  rw [s_add (by simp only [List.length_append, List.length_cons, List.length_nil]; omega)]
  simp only [EX, reduceIte, Nat.reduceEqDiff, Nat.reduceAdd, Int.reduceEq, Int.reduceLT, Int.reduceLE, reduceCtorEq, Nat.reduceLeDiff, Nat.reduceSub, Nat.reduceLT]
  exact rfl
theorem s22_11 (hE : Shows 9 c d t) (hB : ∀ e, OkE d e → (t e).length ≤ 4000000000000) (hc : 2800 ≤ c) {H : Heap} (hG : Gl H) {b : Bool} {n : Int} {s u i : List UInt8} {xk : AV} {kids : List Ex} {ck : List AV} (hs : s.length ≤ 40)
    (hk : ExIn Any H d ck (kd kids 0)) (ho : OkE d (kd kids 0)) : Tells 22 (c + 500) [.ag (ec 11 b n s u i xk), .ag ck] H (str (sh1 t (.mk 11 b n s u i kids))) := by
  obtain ⟨H1, e1⟩ : ∃ H1, H1 = H.alloc (.cells false 0 32 (ec 11 b n s u i xk).length (setCells (ec 11 b n s u i xk) 0 .leaf)) := ⟨_, rfl⟩
  have g1 : Grow H H1 := by rw [e1]; exact Grow.alloc H _
  have n1 : H1.next.toN = H.next.toN + 1 := by rw [e1]; exact next_alloc H _
  have r1 : Row H1 H.next 32 (ec 11 b n s u i xk) := by rw [e1]; exact Row.new H 32 (ec 11 b n s u i xk)
  obtain ⟨H2, e2, g2, n2, r2, k2, hk7⟩ := box_ex (hk.grow g1)
  have p1 := r1.grow g2 (by omega)
  have l0 := p1.l 0 (v := .i .i64 11) rfl
  have l3 := p1.l 3 (v := str s) rfl
  have la := r2.la 7 hk7.symm
  have sa := hk.self
  obtain ⟨H3, g3, e47⟩ := s47 hE hB k2 ho ((hG.grow g1).grow g2) 6
  rw [show ((6 : Nat) : Int) = 6 from rfl] at e47
  have l33 := (p1.grow g3 (by omega)).l 3 (v := str s) rfl
  have hkt := ktxB hB ho 6
  have hsM := sMax8
  refine ⟨H3, (g1.trans g2).trans g3, fun M hM R k => ?_⟩
  obtain ⟨m, rfl⟩ : ∃ m, M = m + 500 := ⟨M - 500, by omega⟩
  rw [call_eq L22]
  unfold B22
  simp only [EX, reduceIte, Nat.reduceEqDiff, Nat.reduceAdd, Int.reduceEq, Int.reduceLT, Int.reduceLE, reduceCtorEq, Nat.reduceLeDiff, Nat.reduceSub, Nat.reduceLT]
  have es1 : H.next.succ = H1.next := by rw [e1]
  rw [← e1, ← e2, es1]
  simp only [EX, reduceIte, Nat.reduceEqDiff, Nat.reduceAdd, Int.reduceEq, Int.reduceLT, Int.reduceLE, reduceCtorEq, Nat.reduceLeDiff, Nat.reduceSub, Nat.reduceLT, l0, la, sa]
  rw [e47 _ (by omega)]
  simp only [EX, reduceIte, Nat.reduceEqDiff, Nat.reduceAdd, Int.reduceEq, Int.reduceLT, Int.reduceLE, reduceCtorEq, Nat.reduceLeDiff, Nat.reduceSub, Nat.reduceLT, l3, l33]
  rw [s_add (by simp only [List.length_append, List.length_cons, List.length_nil]; omega)]
  simp only [EX, reduceIte, Nat.reduceEqDiff, Nat.reduceAdd, Int.reduceEq, Int.reduceLT, Int.reduceLE, reduceCtorEq, Nat.reduceLeDiff, Nat.reduceSub, Nat.reduceLT]
  exact rfl
theorem s22_12 (hE : Shows 9 c d t) (hB : ∀ e, OkE d e → (t e).length ≤ 4000000000000) (hc : 2800 ≤ c) {H : Heap} (hG : Gl H) {b : Bool} {n : Int} {s u i : List UInt8} {xk : AV} {kids : List Ex} {ck : List AV} (hs : s.length ≤ 40)
    (hk : ExIn Any H d ck (kd kids 0)) (ho : OkE d (kd kids 0)) : Tells 22 (c + 500) [.ag (ec 12 b n s u i xk), .ag ck] H (str (sh1 t (.mk 12 b n s u i kids))) := by
  obtain ⟨H1, e1⟩ : ∃ H1, H1 = H.alloc (.cells false 0 32 (ec 12 b n s u i xk).length (setCells (ec 12 b n s u i xk) 0 .leaf)) := ⟨_, rfl⟩
  have g1 : Grow H H1 := by rw [e1]; exact Grow.alloc H _
  have n1 : H1.next.toN = H.next.toN + 1 := by rw [e1]; exact next_alloc H _
  have r1 : Row H1 H.next 32 (ec 12 b n s u i xk) := by rw [e1]; exact Row.new H 32 (ec 12 b n s u i xk)
  obtain ⟨H2, e2, g2, n2, r2, k2, hk7⟩ := box_ex (hk.grow g1)
  have p1 := r1.grow g2 (by omega)
  have l0 := p1.l 0 (v := .i .i64 12) rfl
  have l3 := p1.l 3 (v := str s) rfl
  have la := r2.la 7 hk7.symm
  have sa := hk.self
  obtain ⟨H3, g3, e47⟩ := s47 hE hB k2 ho ((hG.grow g1).grow g2) 6
  rw [show ((6 : Nat) : Int) = 6 from rfl] at e47
  have l33 := (p1.grow g3 (by omega)).l 3 (v := str s) rfl
  have hkt := ktxB hB ho 6
  have hsM := sMax8
  refine ⟨H3, (g1.trans g2).trans g3, fun M hM R k => ?_⟩
  obtain ⟨m, rfl⟩ : ∃ m, M = m + 500 := ⟨M - 500, by omega⟩
  rw [call_eq L22]
  unfold B22
  simp only [EX, reduceIte, Nat.reduceEqDiff, Nat.reduceAdd, Int.reduceEq, Int.reduceLT, Int.reduceLE, reduceCtorEq, Nat.reduceLeDiff, Nat.reduceSub, Nat.reduceLT]
  have es1 : H.next.succ = H1.next := by rw [e1]
  rw [← e1, ← e2, es1]
  simp only [EX, reduceIte, Nat.reduceEqDiff, Nat.reduceAdd, Int.reduceEq, Int.reduceLT, Int.reduceLE, reduceCtorEq, Nat.reduceLeDiff, Nat.reduceSub, Nat.reduceLT, l0, la, sa]
  rw [e47 _ (by omega)]
  simp only [EX, reduceIte, Nat.reduceEqDiff, Nat.reduceAdd, Int.reduceEq, Int.reduceLT, Int.reduceLE, reduceCtorEq, Nat.reduceLeDiff, Nat.reduceSub, Nat.reduceLT, l3, l33]
  rw [s_add (by simp only [List.length_append, List.length_cons, List.length_nil]; omega)]
  simp only [EX, reduceIte, Nat.reduceEqDiff, Nat.reduceAdd, Int.reduceEq, Int.reduceLT, Int.reduceLE, reduceCtorEq, Nat.reduceLeDiff, Nat.reduceSub, Nat.reduceLT]
  exact rfl
theorem s23_9 (hE : Shows 9 c d t) (hB : ∀ e, OkE d e → (t e).length ≤ 4000000000000) {H : Heap} (hG : Gl H) {b : Bool} {n : Int} {s u i : List UInt8} {xk : AV} {kids : List Ex} {ca cb : List AV}
    (ha : ExIn Any H d ca (kd kids 0)) (hb : ExIn Any H d cb (kd kids 1)) (oa : OkE d (kd kids 0)) (ob : OkE d (kd kids 1)) : Tells 23 (c + 500) [.ag (ec 9 b n s u i xk), .ag ca, .ag cb] H (str (sh1 t (.mk 9 b n s u i kids))) := by
  obtain ⟨H1, e1⟩ : ∃ H1, H1 = H.alloc (.cells false 0 32 (ec 9 b n s u i xk).length (setCells (ec 9 b n s u i xk) 0 .leaf)) := ⟨_, rfl⟩
  have g1 : Grow H H1 := by rw [e1]; exact Grow.alloc H _
  have n1 : H1.next.toN = H.next.toN + 1 := by rw [e1]; exact next_alloc H _
  have r1 : Row H1 H.next 32 (ec 9 b n s u i xk) := by rw [e1]; exact Row.new H 32 (ec 9 b n s u i xk)
  obtain ⟨H2, e2, g2, n2, r2, k2, ha7⟩ := box_ex (ha.grow g1)
  obtain ⟨H3, e3, g3, n3, r3, k3, hb7⟩ := box_ex (hb.grow (g1.trans g2))
  have p1 := (r1.grow g2 (by omega)).grow g3 (by omega)
  have p2 := r2.grow g3 (by omega)
  have l0 := p1.l 0 (v := .i .i64 9) rfl
  have la := p2.la 7 ha7.symm
  have lb := r3.la 7 hb7.symm
  have sa := ha.self
  have sb := hb.self
  obtain ⟨H4, g4, e47⟩ := s47 hE hB (k2.grow g3) oa (((hG.grow g1).grow g2).grow g3) 7
  rw [show ((7 : Nat) : Int) = 7 from rfl] at e47
  have lb4 := (r3.grow g4 (by omega)).la 7 hb7.symm
  obtain ⟨H5, g5, e9⟩ := hE H4 cb _ (k3.grow g4) ob ((((hG.grow g1).grow g2).grow g3).grow g4)
  have hka := ktxB hB oa 7
  have hkb := hB _ ob
  have hsM := sMax8
  refine ⟨H5, (((g1.trans g2).trans g3).trans g4).trans g5, fun M hM R k => ?_⟩
  obtain ⟨m, rfl⟩ : ∃ m, M = m + 500 := ⟨M - 500, by omega⟩
  rw [call_eq L23]
  unfold B23
  simp only [EX, reduceIte, Nat.reduceEqDiff, Nat.reduceAdd, Int.reduceEq, Int.reduceLT, Int.reduceLE, reduceCtorEq, Nat.reduceLeDiff, Nat.reduceSub, Nat.reduceLT]
  have es1 : H.next.succ = H1.next := by rw [e1]
  have es2 : H1.next.succ = H2.next := by rw [e2]
  rw [← e1, ← e2, ← e3, es1, es2]
  simp only [EX, reduceIte, Nat.reduceEqDiff, Nat.reduceAdd, Int.reduceEq, Int.reduceLT, Int.reduceLE, reduceCtorEq, Nat.reduceLeDiff, Nat.reduceSub, Nat.reduceLT, l0, la, sa]
  rw [e47 _ (by omega)]
  simp only [EX, reduceIte, Nat.reduceEqDiff, Nat.reduceAdd, Int.reduceEq, Int.reduceLT, Int.reduceLE, reduceCtorEq, Nat.reduceLeDiff, Nat.reduceSub, Nat.reduceLT, lb, lb4, sb]
  rw [e9 _ (by omega)]
  simp only [EX, reduceIte, Nat.reduceEqDiff, Nat.reduceAdd, Int.reduceEq, Int.reduceLT, Int.reduceLE, reduceCtorEq, Nat.reduceLeDiff, Nat.reduceSub, Nat.reduceLT]
  rw [s_add (by simp only [List.length_append, List.length_cons, List.length_nil]; omega)]
  simp only [EX, reduceIte, Nat.reduceEqDiff, Nat.reduceAdd, Int.reduceEq, Int.reduceLT, Int.reduceLE, reduceCtorEq, Nat.reduceLeDiff, Nat.reduceSub, Nat.reduceLT]
  rw [s_add (by simp only [List.length_append, List.length_cons, List.length_nil]; omega)]
  simp only [EX, reduceIte, Nat.reduceEqDiff, Nat.reduceAdd, Int.reduceEq, Int.reduceLT, Int.reduceLE, reduceCtorEq, Nat.reduceLeDiff, Nat.reduceSub, Nat.reduceLT]
  rw [s_add (by simp only [List.length_append, List.length_cons, List.length_nil]; omega)]
  simp only [EX, reduceIte, Nat.reduceEqDiff, Nat.reduceAdd, Int.reduceEq, Int.reduceLT, Int.reduceLE, reduceCtorEq, Nat.reduceLeDiff, Nat.reduceSub, Nat.reduceLT]
  exact rfl
theorem s23_r (hE : Shows 9 c d t) (hB : ∀ e, OkE d e → (t e).length ≤ 4000000000000) {H : Heap} (hG : Gl H) {op : Nat} (h13 : 13 ≤ op) (h24 : op ≤ 24) (hl : lev op = 3) {b : Bool} {n : Int} {s u i : List UInt8} {xk : AV} {kids : List Ex} {ca cb : List AV}
    (ha : ExIn Any H d ca (kd kids 0)) (hb : ExIn Any H d cb (kd kids 1)) (oa : OkE d (kd kids 0)) (ob : OkE d (kd kids 1)) : Tells 23 (c + 500) [.ag (ec op b n s u i xk), .ag ca, .ag cb] H (str (ktx t (kd kids 0) (4) ++ [32] ++ sgn op ++ [32] ++ ktx t (kd kids 1) (4))) := by
  obtain ⟨H1, e1⟩ : ∃ H1, H1 = H.alloc (.cells false 0 32 (ec op b n s u i xk).length (setCells (ec op b n s u i xk) 0 .leaf)) := ⟨_, rfl⟩
  have g1 : Grow H H1 := by rw [e1]; exact Grow.alloc H _
  have n1 : H1.next.toN = H.next.toN + 1 := by rw [e1]; exact next_alloc H _
  have r1 : Row H1 H.next 32 (ec op b n s u i xk) := by rw [e1]; exact Row.new H 32 (ec op b n s u i xk)
  obtain ⟨H2, e2, g2, n2, r2, k2, ha7⟩ := box_ex (ha.grow g1)
  obtain ⟨H3, e3, g3, n3, r3, k3, hb7⟩ := box_ex (hb.grow (g1.trans g2))
  have p1 := (r1.grow g2 (by omega)).grow g3 (by omega)
  have p2 := r2.grow g3 (by omega)
  have l0 := p1.l 0 (v := .i .i64 (op : Int)) rfl
  have la := p2.la 7 ha7.symm
  have lb := r3.la 7 hb7.symm
  have sa := ha.self
  have sb := hb.self
  obtain ⟨H4, g4, e47⟩ := s47 hE hB (k2.grow g3) oa (((hG.grow g1).grow g2).grow g3) (4)
  have l40 := (p1.grow g4 (by omega)).l 0 (v := .i .i64 (op : Int)) rfl
  have lb4 := (r3.grow g4 (by omega)).la 7 hb7.symm
  obtain ⟨H5, g5, e472⟩ := s47 hE hB (k3.grow g4) ob ((((hG.grow g1).grow g2).grow g3).grow g4) (4)
  rw [show ((4 : Nat) : Int) = 4 from rfl] at e47 e472
  have hka := ktxB hB oa (4)
  have hkb := ktxB hB ob (4)
  have hsg := sgn_le op
  have hsM := sMax8
  have hle := lev_le op
  have h9 : ¬ (op : Int) = 9 := by omega
  have hl3 : (lev op : Int) = 3 := by omega
  have hw : IntKind.i64.wrap ((lev op : Int) + 1) = ((lev op + 1 : Nat) : Int) := by rw [show (lev op : Int) + 1 = ((lev op + 1 : Nat) : Int) by omega, wrap_n64 (by omega)]
  refine ⟨H5, (((g1.trans g2).trans g3).trans g4).trans g5, fun M hM R k => ?_⟩
  obtain ⟨m, rfl⟩ : ∃ m, M = m + 500 := ⟨M - 500, by omega⟩
  rw [call_eq L23]
  unfold B23
  simp only [EX, reduceIte, Nat.reduceEqDiff, Nat.reduceAdd, Int.reduceEq, Int.reduceLT, Int.reduceLE, reduceCtorEq, Nat.reduceLeDiff, Nat.reduceSub, Nat.reduceLT]
  have es1 : H.next.succ = H1.next := by rw [e1]
  have es2 : H1.next.succ = H2.next := by rw [e2]
  rw [← e1, ← e2, ← e3, es1, es2]
  simp only [EX, reduceIte, Nat.reduceEqDiff, Nat.reduceAdd, Int.reduceEq, Int.reduceLT, Int.reduceLE, reduceCtorEq, Nat.reduceLeDiff, Nat.reduceSub, Nat.reduceLT, l0, h9]
  rw [s48 (by omega) (by omega) (by omega)]
  simp only [EX, reduceIte, Nat.reduceEqDiff, Nat.reduceAdd, Int.reduceEq, Int.reduceLT, Int.reduceLE, reduceCtorEq, Nat.reduceLeDiff, Nat.reduceSub, Nat.reduceLT, l0]
  rw [s48 (by omega) (by omega) (by omega)]
  simp only [EX, reduceIte, Nat.reduceEqDiff, Nat.reduceAdd, Int.reduceEq, Int.reduceLT, Int.reduceLE, reduceCtorEq, Nat.reduceLeDiff, Nat.reduceSub, Nat.reduceLT, i_add, hw, hl3, la, sa]
  rw [e47 _ (by omega)]
  simp only [EX, reduceIte, Nat.reduceEqDiff, Nat.reduceAdd, Int.reduceEq, Int.reduceLT, Int.reduceLE, reduceCtorEq, Nat.reduceLeDiff, Nat.reduceSub, Nat.reduceLT, l0, l40]
  rw [s49 (by omega) (by omega) (by omega)]
  simp only [EX, reduceIte, Nat.reduceEqDiff, Nat.reduceAdd, Int.reduceEq, Int.reduceLT, Int.reduceLE, reduceCtorEq, Nat.reduceLeDiff, Nat.reduceSub, Nat.reduceLT, lb, lb4, sb]
  rw [e472 _ (by omega)]
  simp only [EX, reduceIte, Nat.reduceEqDiff, Nat.reduceAdd, Int.reduceEq, Int.reduceLT, Int.reduceLE, reduceCtorEq, Nat.reduceLeDiff, Nat.reduceSub, Nat.reduceLT]
  rw [s_add (by simp only [List.length_append, List.length_cons, List.length_nil]; omega)]
  simp only [EX, reduceIte, Nat.reduceEqDiff, Nat.reduceAdd, Int.reduceEq, Int.reduceLT, Int.reduceLE, reduceCtorEq, Nat.reduceLeDiff, Nat.reduceSub, Nat.reduceLT]
  rw [s_add (by simp only [List.length_append, List.length_cons, List.length_nil]; omega)]
  simp only [EX, reduceIte, Nat.reduceEqDiff, Nat.reduceAdd, Int.reduceEq, Int.reduceLT, Int.reduceLE, reduceCtorEq, Nat.reduceLeDiff, Nat.reduceSub, Nat.reduceLT]
  rw [s_add (by simp only [List.length_append, List.length_cons, List.length_nil]; omega)]
  simp only [EX, reduceIte, Nat.reduceEqDiff, Nat.reduceAdd, Int.reduceEq, Int.reduceLT, Int.reduceLE, reduceCtorEq, Nat.reduceLeDiff, Nat.reduceSub, Nat.reduceLT]
  rw [s_add (by simp only [List.length_append, List.length_cons, List.length_nil]; omega)]
  simp only [EX, reduceIte, Nat.reduceEqDiff, Nat.reduceAdd, Int.reduceEq, Int.reduceLT, Int.reduceLE, reduceCtorEq, Nat.reduceLeDiff, Nat.reduceSub, Nat.reduceLT]
theorem s23_b (hE : Shows 9 c d t) (hB : ∀ e, OkE d e → (t e).length ≤ 4000000000000) {H : Heap} (hG : Gl H) {op : Nat} (h13 : 13 ≤ op) (h24 : op ≤ 24) (hl : lev op ≠ 3) {b : Bool} {n : Int} {s u i : List UInt8} {xk : AV} {kids : List Ex} {ca cb : List AV}
    (ha : ExIn Any H d ca (kd kids 0)) (hb : ExIn Any H d cb (kd kids 1)) (oa : OkE d (kd kids 0)) (ob : OkE d (kd kids 1)) : Tells 23 (c + 500) [.ag (ec op b n s u i xk), .ag ca, .ag cb] H (str (ktx t (kd kids 0) (lev op) ++ [32] ++ sgn op ++ [32] ++ ktx t (kd kids 1) (lev op + 1))) := by
  obtain ⟨H1, e1⟩ : ∃ H1, H1 = H.alloc (.cells false 0 32 (ec op b n s u i xk).length (setCells (ec op b n s u i xk) 0 .leaf)) := ⟨_, rfl⟩
  have g1 : Grow H H1 := by rw [e1]; exact Grow.alloc H _
  have n1 : H1.next.toN = H.next.toN + 1 := by rw [e1]; exact next_alloc H _
  have r1 : Row H1 H.next 32 (ec op b n s u i xk) := by rw [e1]; exact Row.new H 32 (ec op b n s u i xk)
  obtain ⟨H2, e2, g2, n2, r2, k2, ha7⟩ := box_ex (ha.grow g1)
  obtain ⟨H3, e3, g3, n3, r3, k3, hb7⟩ := box_ex (hb.grow (g1.trans g2))
  have p1 := (r1.grow g2 (by omega)).grow g3 (by omega)
  have p2 := r2.grow g3 (by omega)
  have l0 := p1.l 0 (v := .i .i64 (op : Int)) rfl
  have la := p2.la 7 ha7.symm
  have lb := r3.la 7 hb7.symm
  have sa := ha.self
  have sb := hb.self
  obtain ⟨H4, g4, e47⟩ := s47 hE hB (k2.grow g3) oa (((hG.grow g1).grow g2).grow g3) (lev op)
  have l40 := (p1.grow g4 (by omega)).l 0 (v := .i .i64 (op : Int)) rfl
  have lb4 := (r3.grow g4 (by omega)).la 7 hb7.symm
  obtain ⟨H5, g5, e472⟩ := s47 hE hB (k3.grow g4) ob ((((hG.grow g1).grow g2).grow g3).grow g4) (lev op + 1)
  have hka := ktxB hB oa (lev op)
  have hkb := ktxB hB ob (lev op + 1)
  have hsg := sgn_le op
  have hsM := sMax8
  have hle := lev_le op
  have h9 : ¬ (op : Int) = 9 := by omega
  have hl3 : ¬ (lev op : Int) = 3 := by omega
  have hw : IntKind.i64.wrap ((lev op : Int) + 1) = ((lev op + 1 : Nat) : Int) := by rw [show (lev op : Int) + 1 = ((lev op + 1 : Nat) : Int) by omega, wrap_n64 (by omega)]
  refine ⟨H5, (((g1.trans g2).trans g3).trans g4).trans g5, fun M hM R k => ?_⟩
  obtain ⟨m, rfl⟩ : ∃ m, M = m + 500 := ⟨M - 500, by omega⟩
  rw [call_eq L23]
  unfold B23
  simp only [EX, reduceIte, Nat.reduceEqDiff, Nat.reduceAdd, Int.reduceEq, Int.reduceLT, Int.reduceLE, reduceCtorEq, Nat.reduceLeDiff, Nat.reduceSub, Nat.reduceLT]
  have es1 : H.next.succ = H1.next := by rw [e1]
  have es2 : H1.next.succ = H2.next := by rw [e2]
  rw [← e1, ← e2, ← e3, es1, es2]
  simp only [EX, reduceIte, Nat.reduceEqDiff, Nat.reduceAdd, Int.reduceEq, Int.reduceLT, Int.reduceLE, reduceCtorEq, Nat.reduceLeDiff, Nat.reduceSub, Nat.reduceLT, l0, h9]
  rw [s48 (by omega) (by omega) (by omega)]
  simp only [EX, reduceIte, Nat.reduceEqDiff, Nat.reduceAdd, Int.reduceEq, Int.reduceLT, Int.reduceLE, reduceCtorEq, Nat.reduceLeDiff, Nat.reduceSub, Nat.reduceLT, l0]
  rw [s48 (by omega) (by omega) (by omega)]
  simp only [EX, reduceIte, Nat.reduceEqDiff, Nat.reduceAdd, Int.reduceEq, Int.reduceLT, Int.reduceLE, reduceCtorEq, Nat.reduceLeDiff, Nat.reduceSub, Nat.reduceLT, i_add, hw, hl3, la, sa]
  rw [e47 _ (by omega)]
  simp only [EX, reduceIte, Nat.reduceEqDiff, Nat.reduceAdd, Int.reduceEq, Int.reduceLT, Int.reduceLE, reduceCtorEq, Nat.reduceLeDiff, Nat.reduceSub, Nat.reduceLT, l0, l40]
  rw [s49 (by omega) (by omega) (by omega)]
  simp only [EX, reduceIte, Nat.reduceEqDiff, Nat.reduceAdd, Int.reduceEq, Int.reduceLT, Int.reduceLE, reduceCtorEq, Nat.reduceLeDiff, Nat.reduceSub, Nat.reduceLT, lb, lb4, sb]
  rw [e472 _ (by omega)]
  simp only [EX, reduceIte, Nat.reduceEqDiff, Nat.reduceAdd, Int.reduceEq, Int.reduceLT, Int.reduceLE, reduceCtorEq, Nat.reduceLeDiff, Nat.reduceSub, Nat.reduceLT]
  rw [s_add (by simp only [List.length_append, List.length_cons, List.length_nil]; omega)]
  simp only [EX, reduceIte, Nat.reduceEqDiff, Nat.reduceAdd, Int.reduceEq, Int.reduceLT, Int.reduceLE, reduceCtorEq, Nat.reduceLeDiff, Nat.reduceSub, Nat.reduceLT]
  rw [s_add (by simp only [List.length_append, List.length_cons, List.length_nil]; omega)]
  simp only [EX, reduceIte, Nat.reduceEqDiff, Nat.reduceAdd, Int.reduceEq, Int.reduceLT, Int.reduceLE, reduceCtorEq, Nat.reduceLeDiff, Nat.reduceSub, Nat.reduceLT]
  rw [s_add (by simp only [List.length_append, List.length_cons, List.length_nil]; omega)]
  simp only [EX, reduceIte, Nat.reduceEqDiff, Nat.reduceAdd, Int.reduceEq, Int.reduceLT, Int.reduceLE, reduceCtorEq, Nat.reduceLeDiff, Nat.reduceSub, Nat.reduceLT]
  rw [s_add (by simp only [List.length_append, List.length_cons, List.length_nil]; omega)]
  simp only [EX, reduceIte, Nat.reduceEqDiff, Nat.reduceAdd, Int.reduceEq, Int.reduceLT, Int.reduceLE, reduceCtorEq, Nat.reduceLeDiff, Nat.reduceSub, Nat.reduceLT]
end
end Go.Proofs.YtmmmjhkgjmbfaaaDoor
