/- A verified interpreter of the model's code, and what the functions of a tape tell by it: part 9 (T12, T13, T14, T15, T16, T17, T18, T19). No condition but those that each statement bears. -/
import Derived.Test.YtnbjicanbihgnaaFK08
import Derived.Test.YtnbjicanbihgnaaRows
import Derived.WideShapes
set_option linter.unusedVariables false
set_option linter.unusedSimpArgs false
set_option linter.unusedSectionVars false
set_option linter.constructorNameAsVariable false
set_option linter.unnecessarySimpa false
/- The law of areas (TapeAreas): what it reckons. -/
namespace Go.Proofs.Ytnbjicanbihgnaa
open Go Go.Vai
set_option maxRecDepth 100000
set_option maxHeartbeats 3200000
set_option linter.unusedSimpArgs false
theorem put_S4 {d : Nat} {v : AV} {t : Tr AV} : put (some (toPa d)) v t = S t d v := id rfl
theorem guardK_t4 {R : Type} {x : Option R} : guardK true x = x := rfl
theorem vB_b4 {R : Type} {t : Bool} {f : Bool → Option R} : vB (.b t) f = f t := id rfl
noncomputable def Ok4 : List AI := [O 31 (.mv (T 0)), O 32 (.bin .eql .no (T 31) (K (.i .i64 0))), O 33 (.mv (T 32)), G 34 33 false (.mv (T 0)), G 35 33 false (.bin .eql .no (T 34) (K (.i .i64 1))), O 36 (.pick (T 33) (K (.b true)) (T 35)), O 37 (.mv (T 36)), G 38 37 true (.mv (T 1)), G 39 37 true (.bin .geq .no (T 38) (K (.i .i64 0))), O 40 (.pick (T 37) (T 39) (K (.b false))), O 41 (.mv (T 40)), G 42 41 true (.mv (T 1)), G 43 41 true (.bin .leq .no (T 42) (K (.i .i64 50))), O 44 (.pick (T 41) (T 43) (K (.b false))), O 45 (.mv (T 44)), G 46 45 true (.mv (T 2)), G 47 45 true (.bin .geq .no (T 46) (K (.i .i64 0))), O 48 (.pick (T 45) (T 47) (K (.b false))), O 49 (.mv (T 48)), G 50 49 true (.mv (T 2)), G 51 49 true (.mv (T 1)), G 52 49 true (.bin .sub .no (K (.i .i64 50)) (T 51)), G 53 49 true (.bin .leq .no (T 50) (T 52)), O 54 (.pick (T 49) (T 53) (K (.b false))), O 9 (.mv (T 54))]
theorem B4_eq : B4 = (.seq (.ops [O 6 (.mv (K (.b false)))]) (.seq (.seq (.ops [O 17 (.call (toPa 6) []), O 18 (.not (T 17))]) (.cond (T 18) (.seq (.ops [O 6 (.mv (K (.b false)))]) .ret) .skip)) (.seq (.ops [O 20 (.call (toPa 7) [(K (.i .i64 50))]), O 19 (.mv (T 20)), O 21 (.ext 0 (T 19)), O 22 (.ext 1 (T 19)), O 7 (.mv (T 21)), O 8 (.mv (T 22))]) (.seq (.ops [O 23 (.mv (T 7)), O 24 (.bsl 5 1 4 [(.i .u8 0), (.i .u8 0), (.i .u8 0), (.i .u8 0)] [(0, 1, (K (.i .u8 122))), (1, 1, (K (.i .u8 101))), (2, 1, (K (.i .u8 114))), (3, 1, (K (.i .u8 111)))]), O 25 (.frz (T 24)), O 26 (.call (toPa 9) [(T 23), (K (.i .i64 0)), (K (.i .i64 0)), (T 25)])]) (.seq (.ops [O 27 (.mv (T 7)), O 28 (.bsl 5 1 4 [(.i .u8 0), (.i .u8 0), (.i .u8 0), (.i .u8 0)] [(0, 1, (K (.i .u8 111))), (1, 1, (K (.i .u8 110))), (2, 1, (K (.i .u8 101))), (3, 1, (K (.i .u8 33)))]), O 29 (.frz (T 28)), O 30 (.call (toPa 9) [(T 27), (K (.i .i64 1)), (K (.i .i64 0)), (T 29)])]) (.seq (.ops Ok4) (.seq (.ops [O 56 (.mv (T 7)), O 57 (.mv (T 0)), O 58 (.mv (T 1)), O 59 (.mv (T 2)), O 60 (.call (toPa 11) [(T 56), (T 57), (T 58), (T 59)]), O 55 (.mv (T 60)), O 61 (.ext 0 (T 55)), O 62 (.ext 1 (T 55)), O 10 (.mv (T 61)), O 11 (.mv (T 62))]) (.seq (.ops [O 12 (.mv (K (.i .i64 0)))]) (.seq (.seq (.ops [O 63 (.mv (T 2)), O 64 (.bin .geq .no (T 63) (K (.i .i64 0))), O 65 (.mv (T 64)), G 66 65 true (.mv (T 2)), G 67 65 true (.bin .leq .no (T 66) (K (.i .i64 100))), O 68 (.pick (T 65) (T 67) (K (.b false)))]) (.cond (T 68) (.seq (.ops [O 69 (.mv (T 7)), O 70 (.mv (T 0)), O 71 (.mv (T 1)), O 72 (.mv (T 2)), O 73 (.mks 5 1 1 [(.i .u8 0)] (T 72) (T 72)), O 74 (.call (toPa 9) [(T 69), (T 70), (T 71), (T 73)]), O 12 (.mv (T 74))]) (.seq (.ops [O 75 (.mv (T 12)), O 76 (.bin .eql .no (T 75) (K (.i .i64 0))), O 77 (.mv (T 9)), O 78 (.bin .neq .bool (T 76) (T 77))]) (.cond (T 78) (.seq (.ops [O 6 (.mv (K (.b false)))]) .ret) .skip))) .skip)) (.seq (.seq (.ops [O 79 (.mv (T 11)), O 80 (.bin .eql .no (T 79) (K (.i .i64 0))), O 81 (.mv (T 9)), O 82 (.bin .neq .bool (T 80) (T 81)), O 83 (.mv (T 82)), G 84 83 false (.mv (T 11)), G 85 83 false (.bin .neq .no (T 84) (K (.i .i64 0))), G 86 83 false (.mv (T 85)), G 87 86 true (.mv (T 11)), G 88 86 true (.bin .neq .no (T 87) (K (.i .i64 1))), G 89 83 false (.pick (T 86) (T 88) (K (.b false))), O 90 (.pick (T 83) (K (.b true)) (T 89)), O 91 (.mv (T 90)), G 92 91 false (.mv (T 12)), G 93 91 false (.bin .neq .no (T 92) (K (.i .i64 0))), G 94 91 false (.mv (T 93)), G 95 94 true (.mv (T 12)), G 96 94 true (.bin .neq .no (T 95) (K (.i .i64 1))), G 97 91 false (.pick (T 94) (T 96) (K (.b false))), O 98 (.pick (T 91) (K (.b true)) (T 97))]) (.cond (T 98) (.seq (.ops [O 6 (.mv (K (.b false)))]) .ret) .skip)) (.seq (.ops [O 100 (.mv (T 7)), O 101 (.call (toPa 11) [(T 100), (K (.i .i64 0)), (K (.i .i64 0)), (K (.i .i64 4))]), O 99 (.mv (T 101)), O 102 (.ext 0 (T 99)), O 103 (.ext 1 (T 99)), O 13 (.mv (T 102)), O 14 (.mv (T 103))]) (.seq (.ops [O 105 (.mv (T 7)), O 106 (.call (toPa 11) [(T 105), (K (.i .i64 1)), (K (.i .i64 0)), (K (.i .i64 4))]), O 104 (.mv (T 106)), O 107 (.ext 0 (T 104)), O 108 (.ext 1 (T 104)), O 15 (.mv (T 107)), O 16 (.mv (T 108))]) (.seq (.ops [O 109 (.mv (T 9)), O 110 (.mv (T 109)), G 111 110 false (.mv (T 13)), G 112 110 false (.b2s (T 111)), G 113 110 false (.bin .eql .no (T 112) (K (str [122, 101, 114, 111]))), G 114 110 false (.mv (T 113)), G 115 114 true (.mv (T 15)), G 116 114 true (.b2s (T 115)), G 117 114 true (.bin .eql .no (T 116) (K (str [111, 110, 101, 33]))), G 118 110 false (.pick (T 114) (T 117) (K (.b false))), G 119 110 false (.mv (T 118)), G 120 119 true (.mv (T 7)), G 121 119 true (.call (toPa 12) [(T 120)]), G 122 119 true (.bin .eql .no (T 121) (K (.i .i64 2))), G 123 110 false (.pick (T 119) (T 122) (K (.b false))), O 124 (.pick (T 110) (K (.b true)) (T 123)), O 6 (.mv (T 124))]) .ret))))))))))))) := rfl
theorem bne_tt {R : Type} {k : HK R} {H : Heap} : binC .neq .bool (.b true) (.b true) k H = k (.b false) H := id rfl
theorem bne_ff {R : Type} {k : HK R} {H : Heap} : binC .neq .bool (.b false) (.b false) k H = k (.b false) H := id rfl
noncomputable def frzC {R : Type} (x : AV) (k : HK R) (H : Heap) : Option R := vL x none fun a off len cap sz => guardK (Nat.blt 0 len) (guardK (Nat.blt 0 sz) (H.getK a fun b => bC b fun ro fz e size c => Bool.casesOn ro (H.putK a (.cells true fz e size c) fun H => k (.sl a off len cap sz) H) none))
theorem x_frz {R : Type} {call : CallK R} {fr : Tr AV} {H : Heap} {k : HK R} {x : Opd} : xopK (.frz x) call fr H k = frzC (ev fr x) k H := evK_eq _ _ _
/-- A literal's bytes, marked. -/
noncomputable def Hl (H : Heap) (s : List UInt8) : Heap := (H.alloc (.cells false 0 5 s.length (setCells (bcs s) 0 .leaf))).put H.next (.cells true 0 5 s.length (setCells (bcs s) 0 .leaf))
theorem hl_grow {H : Heap} {s : List UInt8} : Grow H (Hl H s) := by
  have g := Grow.alloc H (.cells false 0 5 s.length (setCells (bcs s) 0 .leaf))
  have n := next_alloc H (.cells false 0 5 s.length (setCells (bcs s) 0 .leaf))
  exact g.put (Nat.le_refl _) (by omega) _
theorem hl_bys {H : Heap} {s : List UInt8} {S : Pa → Prop} (hS : S H.next) : Bys S (Hl H s) (.sl H.next 0 s.length (some s.length) 1) s := by
  have n := next_alloc H (.cells false 0 5 s.length (setCells (bcs s) 0 .leaf))
  refine Or.inr ⟨H.next, 0, some s.length, true, 0, 5, s.length, _, rfl, hS, ?_, by unfold Hl; exact get_put, by omega, fun k q => by cases q; exact Nat.le_refl _, fun j hj => ?_⟩
  · have e : (Hl H s).next = (H.alloc (.cells false 0 5 s.length (setCells (bcs s) 0 .leaf))).next := next_put
    rw [e, n]; exact Nat.lt_succ_self _
  · rw [Nat.zero_add, cell_at, bcs_at hj]; rfl
theorem frz_lit {R : Type} {H : Heap} {k : HK R} {s : List UInt8} (h : 0 < s.length) : frzC (.sl H.next 0 s.length (some s.length) 1) k (H.alloc (.cells false 0 5 s.length (setCells (bcs s) 0 .leaf))) = k (.sl H.next 0 s.length (some s.length) 1) (Hl H s) := by
  show guardK (Nat.blt 0 s.length) (guardK (Nat.blt 0 1) ((H.alloc (.cells false 0 5 s.length (setCells (bcs s) 0 .leaf))).getK H.next fun b => bC b fun ro fz e size c => Bool.casesOn ro ((H.alloc (.cells false 0 5 s.length (setCells (bcs s) 0 .leaf))).putK H.next (.cells true fz e size c) fun H' => k (.sl H.next 0 s.length (some s.length) 1) H') none)) = _
  rw [Nat.blt_eq.mpr h, Heap.getK_eq, get_alloc]
  show (H.alloc (.cells false 0 5 s.length (setCells (bcs s) 0 .leaf))).putK H.next (.cells true 0 5 s.length (setCells (bcs s) 0 .leaf)) (fun H' => k (.sl H.next 0 s.length (some s.length) 1) H') = _
  rw [Heap.putK_eq]; rfl
/-- The law's own test. -/
theorem ok4 {R : Type} {call : CallK R} {H : Heap} {ar at_ n : Int} {p : AV} {fr : Tr AV} {kk : Tr AV → Heap → Option R} {res : Option R} (f0 : V fr 0 = .i .i64 ar) (f1 : V fr 1 = .i .i64 at_) (f2 : V fr 2 = .i .i64 n) (f7 : V fr 7 = p)
    (h : ∀ fr', V fr' 0 = .i .i64 ar → V fr' 1 = .i .i64 at_ → V fr' 2 = .i .i64 n → V fr' 7 = p → V fr' 9 = .b (decide (okA 50 ar at_ n)) → kk fr' H = res) : opsK call Ok4 fr H kk = res := by
  by_cases h0 : ar = 0 ∨ ar = 1
  · by_cases h1 : 0 ≤ at_
    · by_cases h2 : at_ ≤ 50
      · by_cases h3 : 0 ≤ n
        · have hw : IntKind.i64.wrap (50 - at_) = 50 - at_ := wrap_i64 (by omega) (by omega)
          have hd : decide (okA 50 ar at_ n) = decide (n ≤ 50 - at_) := by
            apply decide_eq_decide.mpr
            unfold okA
            constructor
            · intro q; omega
            · intro q; omega
          rw [hd] at h
          rcases h0 with rfl | rfl
          · unfold Ok4
            simp only [EX, reduceIte, Nat.reduceEqDiff, Nat.reduceAdd, Int.reduceEq, Int.reduceLT, Int.reduceLE, reduceCtorEq, Nat.reduceLeDiff, Nat.reduceSub, Nat.reduceLT, f0, f1, f2, h1, h2, h3, i_sub, hw]
            refine h _ ?_ ?_ ?_ ?_ ?_
            all_goals simp only [V_S, Nat.reduceEqDiff, reduceIte]
            all_goals assumption
          · unfold Ok4
            simp only [EX, reduceIte, Nat.reduceEqDiff, Nat.reduceAdd, Int.reduceEq, Int.reduceLT, Int.reduceLE, reduceCtorEq, Nat.reduceLeDiff, Nat.reduceSub, Nat.reduceLT, f0, f1, f2, h1, h2, h3, i_sub, hw]
            refine h _ ?_ ?_ ?_ ?_ ?_
            all_goals simp only [V_S, Nat.reduceEqDiff, reduceIte]
            all_goals assumption
        · have hd : decide (okA 50 ar at_ n) = false := decide_eq_false (by unfold okA; omega)
          rw [hd] at h
          rcases h0 with rfl | rfl
          · unfold Ok4
            simp only [EX, reduceIte, Nat.reduceEqDiff, Nat.reduceAdd, Int.reduceEq, Int.reduceLT, Int.reduceLE, reduceCtorEq, Nat.reduceLeDiff, Nat.reduceSub, Nat.reduceLT, f0, f1, f2, h1, h2, h3]
            refine h _ ?_ ?_ ?_ ?_ ?_
            all_goals simp only [V_S, Nat.reduceEqDiff, reduceIte]
            all_goals assumption
          · unfold Ok4
            simp only [EX, reduceIte, Nat.reduceEqDiff, Nat.reduceAdd, Int.reduceEq, Int.reduceLT, Int.reduceLE, reduceCtorEq, Nat.reduceLeDiff, Nat.reduceSub, Nat.reduceLT, f0, f1, f2, h1, h2, h3]
            refine h _ ?_ ?_ ?_ ?_ ?_
            all_goals simp only [V_S, Nat.reduceEqDiff, reduceIte]
            all_goals assumption
      · have hd : decide (okA 50 ar at_ n) = false := decide_eq_false (by unfold okA; omega)
        rw [hd] at h
        rcases h0 with rfl | rfl
        · unfold Ok4
          simp only [EX, reduceIte, Nat.reduceEqDiff, Nat.reduceAdd, Int.reduceEq, Int.reduceLT, Int.reduceLE, reduceCtorEq, Nat.reduceLeDiff, Nat.reduceSub, Nat.reduceLT, f0, f1, f2, h1, h2]
          refine h _ ?_ ?_ ?_ ?_ ?_
          all_goals simp only [V_S, Nat.reduceEqDiff, reduceIte]
          all_goals assumption
        · unfold Ok4
          simp only [EX, reduceIte, Nat.reduceEqDiff, Nat.reduceAdd, Int.reduceEq, Int.reduceLT, Int.reduceLE, reduceCtorEq, Nat.reduceLeDiff, Nat.reduceSub, Nat.reduceLT, f0, f1, f2, h1, h2]
          refine h _ ?_ ?_ ?_ ?_ ?_
          all_goals simp only [V_S, Nat.reduceEqDiff, reduceIte]
          all_goals assumption
    · have hd : decide (okA 50 ar at_ n) = false := decide_eq_false (by unfold okA; omega)
      rw [hd] at h
      rcases h0 with rfl | rfl
      · unfold Ok4
        simp only [EX, reduceIte, Nat.reduceEqDiff, Nat.reduceAdd, Int.reduceEq, Int.reduceLT, Int.reduceLE, reduceCtorEq, Nat.reduceLeDiff, Nat.reduceSub, Nat.reduceLT, f0, f1, f2, h1]
        refine h _ ?_ ?_ ?_ ?_ ?_
        all_goals simp only [V_S, Nat.reduceEqDiff, reduceIte]
        all_goals assumption
      · unfold Ok4
        simp only [EX, reduceIte, Nat.reduceEqDiff, Nat.reduceAdd, Int.reduceEq, Int.reduceLT, Int.reduceLE, reduceCtorEq, Nat.reduceLeDiff, Nat.reduceSub, Nat.reduceLT, f0, f1, f2, h1]
        refine h _ ?_ ?_ ?_ ?_ ?_
        all_goals simp only [V_S, Nat.reduceEqDiff, reduceIte]
        all_goals assumption
  · have hd : decide (okA 50 ar at_ n) = false := decide_eq_false (by unfold okA; omega)
    rw [hd] at h
    have h00 : ¬ ar = 0 := fun q => h0 (.inl q)
    have h01 : ¬ ar = 1 := fun q => h0 (.inr q)
    unfold Ok4
    simp only [EX, reduceIte, Nat.reduceEqDiff, Nat.reduceAdd, Int.reduceEq, Int.reduceLT, Int.reduceLE, reduceCtorEq, Nat.reduceLeDiff, Nat.reduceSub, Nat.reduceLT, f0, f1, f2, h00, h01]
    refine h _ ?_ ?_ ?_ ?_ ?_
    all_goals simp only [V_S, Nat.reduceEqDiff, reduceIte]
    all_goals assumption
def sZ : List UInt8 := [122, 101, 114, 111]
def sO : List UInt8 := [111, 110, 101, 33]
def st4 : TS := ((⟨zeros 50, zeros 50, [], 0⟩ : TS).write 0 0 sZ).write 1 0 sO
theorem law4 {H : Heap} (ar at_ n : Int) : lawK tbl 100000 (toPa 6) (.mk B4 [(.tmp (toPa 6))]) [.i .i64 ar, .i .i64 at_, .i .i64 n] H = some () := by
  obtain ⟨D, H1, d1, d2, T1, g1, e7⟩ := s7 (H := H) (n := 50) (by decide) (by decide)
  have hr : D.room ≤ 1000000 := by rw [d2]; decide
  have T2 := T1.grow (hl_grow (H := H1) (s := sZ))
  have o4 := T1.o4
  have np : ∀ (G : Heap), D.B.toN < G.next.toN → G.next ≠ D.p := fun G h q => by rw [q] at h; have := T1.o2; have := T1.o3; omega
  obtain ⟨H3, x3, L3, T3, k3, f3, e9⟩ := s9 (i := 0) (at_ := 0) T2 hr (by decide) (by decide) (by decide) (by rw [d2]; decide) (hl_bys (s := sZ) ⟨np H1 T1.o4, T1.xoff (.inr (Nat.le_refl _))⟩)
  have T4 := T3.grow (hl_grow (H := H3) (s := sO))
  obtain ⟨H5, x5, L5, T5, k5, f5, e9'⟩ := s9 (i := 1) (at_ := 0) T4 hr (by decide) (by decide) (by decide) (by rw [d2]; decide) (hl_bys (s := sO) ⟨np H3 T3.o4, T3.xoff (.inr (Nat.le_refl _))⟩)
  have T5 : Tp D H5 x5 L5 st4 := T5
  have e7 : ∀ (M : Nat), 100 ≤ M → ∀ (R : Type) (k : HK R), callK tbl (runK tbl M) R (toPa 7) [.i .i64 50] H k = k (.tu [.p D.p 0, .i .i64 0]) H1 := e7
  have e9 : ∀ (M : Nat), 200 ≤ M → ∀ (R : Type) (k : HK R), callK tbl (runK tbl M) R (toPa 9) [.p D.p 0, .i .i64 0, .i .i64 0, .sl H1.next 0 4 (some 4) 1] (Hl H1 sZ) k = k (.i .i64 0) H3 := e9
  have e9' : ∀ (M : Nat), 200 ≤ M → ∀ (R : Type) (k : HK R), callK tbl (runK tbl M) R (toPa 9) [.p D.p 0, .i .i64 1, .i .i64 0, .sl H3.next 0 4 (some 4) 1] (Hl H3 sO) k = k (.i .i64 0) H5 := e9'
  have fz : ∀ (R : Type) (k : HK R), frzC (.sl H1.next 0 4 (some 4) 1) k (H1.alloc (.cells false 0 5 4 (setCells [.i .u8 122, .i .u8 101, .i .u8 114, .i .u8 111] 0 .leaf))) = k (.sl H1.next 0 4 (some 4) 1) (Hl H1 sZ) := fun R k => frz_lit (s := sZ) (by decide)
  have fz' : ∀ (R : Type) (k : HK R), frzC (.sl H3.next 0 4 (some 4) 1) k (H3.alloc (.cells false 0 5 4 (setCells [.i .u8 111, .i .u8 110, .i .u8 101, .i .u8 33] 0 .leaf))) = k (.sl H3.next 0 4 (some 4) 1) (Hl H3 sO) := fun R k => frz_lit (s := sO) (by decide)
  unfold lawK
  rw [B4_eq]
  show guardK (Pa.same (toPa 6) (toPa 6)) (restK _ _ _ _ _ _ _ _ _ _) = _
  rw [same_id, guardK_t4]
  unfold restK
  rw [argsK_frame]
  simp only [EX, reduceIte, Nat.reduceEqDiff, Nat.reduceAdd, Int.reduceEq, Int.reduceLT, Int.reduceLE, reduceCtorEq, Nat.reduceLeDiff, Nat.reduceSub, Nat.reduceLT, putK_eq, put_S4, evK_eq, vB_b4, e7 _ (Nat.le_add_left 100 _), x_frz, fz, fz', e9 _ (Nat.le_add_left 200 _), e9' _ (Nat.le_add_left 200 _)]
  have zz : ∀ (G : Heap), Grow H5 G → ∃ H' z, Grow G H' ∧ Bys (fun b => G.next.toN ≤ b.toN) H' z sZ ∧ ∀ (M : Nat), 100 ≤ M → ∀ (R : Type) (k : HK R), callK tbl (runK tbl M) R (toPa 11) [.p D.p 0, .i .i64 0, .i .i64 0, .i .i64 4] G k = k (.tu [z, .i .i64 0]) H' :=
    fun G g => s11 (i := 0) (at_ := 0) (n := 4) (T5.grow g) hr (by decide) (by rw [d2]; decide)
  have zo : ∀ (G : Heap), Grow H5 G → ∃ H' z, Grow G H' ∧ Bys (fun b => G.next.toN ≤ b.toN) H' z sO ∧ ∀ (M : Nat), 100 ≤ M → ∀ (R : Type) (k : HK R), callK tbl (runK tbl M) R (toPa 11) [.p D.p 0, .i .i64 1, .i .i64 0, .i .i64 4] G k = k (.tu [z, .i .i64 0]) H' :=
    fun G g => s11 (i := 1) (at_ := 0) (n := 4) (T5.grow g) hr (by decide) (by rw [d2]; decide)
  refine ok4 (ar := ar) (at_ := at_) (n := n) (p := .p D.p 0) (by simp only [EX, reduceIte, Nat.reduceEqDiff, Nat.reduceAdd, Int.reduceEq, Int.reduceLT, Int.reduceLE, reduceCtorEq, Nat.reduceLeDiff, Nat.reduceSub, Nat.reduceLT]) (by simp only [EX, reduceIte, Nat.reduceEqDiff, Nat.reduceAdd, Int.reduceEq, Int.reduceLT, Int.reduceLE, reduceCtorEq, Nat.reduceLeDiff, Nat.reduceSub, Nat.reduceLT]) (by simp only [EX, reduceIte, Nat.reduceEqDiff, Nat.reduceAdd, Int.reduceEq, Int.reduceLT, Int.reduceLE, reduceCtorEq, Nat.reduceLeDiff, Nat.reduceSub, Nat.reduceLT]) (by simp only [EX, reduceIte, Nat.reduceEqDiff, Nat.reduceAdd, Int.reduceEq, Int.reduceLT, Int.reduceLE, reduceCtorEq, Nat.reduceLeDiff, Nat.reduceSub, Nat.reduceLT]) ?_
  intro fr f0 f1 f2 f7 f9
  by_cases hok : okA 50 ar at_ n
  · rw [decide_eq_true hok] at f9
    obtain ⟨q1, q2, q3, q4, q5, q6⟩ := hok
    obtain ⟨ai, rfl⟩ := Int.eq_ofNat_of_zero_le q1
    obtain ⟨ti, rfl⟩ := Int.eq_ofNat_of_zero_le q3
    obtain ⟨nn, rfl⟩ := Int.eq_ofNat_of_zero_le q4
    have hnn : nn ≤ 50 := by omega
    have hn1 : (nn : Int) ≤ 100 := by omega
    obtain ⟨H6, z0, g6, hz0, e11⟩ := s11 T5 hr (i := ai) (at_ := ti) (n := nn) (by omega) (by rw [d2]; omega)
    have g7 := Grow.alloc H6 (.cells false 0 5 (bcs (zeros nn)).length (setCells (bcs (zeros nn)) 0 .leaf))
    have n7 := next_alloc H6 (.cells false 0 5 (bcs (zeros nn)).length (setCells (bcs (zeros nn)) 0 .leaf))
    have T6 := T5.grow g6
    have by7 : Bys (fun a => a ≠ D.p ∧ Off x5 a) _ (.sl H6.next 0 (zeros nn).length (some nn) 1) (zeros nn) := Bys.row (Row.new H6 5 (bcs (zeros nn))) (by omega) (fun k q => by cases q; rw [zeros_len]; exact Nat.le_refl _) ⟨np H6 T6.o4, T6.xoff (.inr (Nat.le_refl _))⟩
    rw [show (zeros nn).length = nn from zeros_len] at by7
    obtain ⟨H8, x8, L8, T8, k8, f8, e9n⟩ := s9 (T6.grow g7) hr (i := ai) (at_ := ti) (by decide) (by decide) (by omega) (by rw [d2, zeros_len]; omega) by7
    obtain ⟨H9, z1, g9, hz1, e1⟩ := s11 (i := 0) (at_ := 0) (n := 4) T8 hr (by decide) (by rw [d2]; decide)
    obtain ⟨Ha, z2, ga, hz2, e2⟩ := s11 (i := 1) (at_ := 0) (n := 4) (T8.grow g9) hr (by decide) (by rw [d2]; decide)
    have e1 : ∀ (M : Nat), 100 ≤ M → ∀ (R : Type) (k : HK R), callK tbl (runK tbl M) R (toPa 11) [.p D.p 0, .i .i64 0, .i .i64 0, .i .i64 4] H8 k = k (.tu [z1, .i .i64 0]) H9 := e1
    have e2 : ∀ (M : Nat), 100 ≤ M → ∀ (R : Type) (k : HK R), callK tbl (runK tbl M) R (toPa 11) [.p D.p 0, .i .i64 1, .i .i64 0, .i .i64 4] H9 k = k (.tu [z2, .i .i64 0]) Ha := e2
    have mk := fun (R : Type) (k : HK R) (G : Heap) => mks_n (R := R) (H := G) (k := k) (n := nn) (show nn ≤ roomN by have : (100 : Nat) ≤ roomN := (by decide); omega) (show nn ≤ sMax by have : (100 : Nat) ≤ sMax := (by decide); omega)
    simp only [EX, reduceIte, Nat.reduceEqDiff, Nat.reduceAdd, Int.reduceEq, Int.reduceLT, Int.reduceLE, reduceCtorEq, Nat.reduceLeDiff, Nat.reduceSub, Nat.reduceLT, f0, f1, f2, f7, f9, e11 _ (Nat.le_add_left 100 _), q4, hn1, x_mks, mk, e9n _ (Nat.le_add_left 200 _), bne_tt, bne_ff, e1 _ (Nat.le_add_left 100 _), e2 _ (Nat.le_add_left 100 _)]
    exact rfl
  · rw [decide_eq_false hok] at f9
    have e11 := s11_no T5 hr (ar := ar) (at_ := at_) (n := n) (by rw [d2]; exact hok)
    have hq1 : (sZ = [122, 101, 114, 111]) = True := eq_true rfl
    have hq2 : (sO = [111, 110, 101, 33]) = True := eq_true rfl
    have hq3 : ((st4.n : Nat) : Int) = 2 := rfl
    by_cases hn0 : 0 ≤ n
    · by_cases hn1 : n ≤ 100
      · obtain ⟨nn, rfl⟩ := Int.eq_ofNat_of_zero_le hn0
        have hnn : nn ≤ 100 := by omega
        have g6 := Grow.alloc H5 (.cells false 0 5 (bcs (zeros nn)).length (setCells (bcs (zeros nn)) 0 .leaf))
        have n6 := next_alloc H5 (.cells false 0 5 (bcs (zeros nn)).length (setCells (bcs (zeros nn)) 0 .leaf))
        have by6 : Bys Any _ (.sl H5.next 0 (zeros nn).length (some nn) 1) (zeros nn) := Bys.row (Row.new H5 5 (bcs (zeros nn))) (by omega) (fun k q => by cases q; rw [zeros_len]; exact Nat.le_refl _) trivial
        rw [show (zeros nn).length = nn from zeros_len] at by6
        have e9n := s9_no (T5.grow g6) hr by6 (ar := ar) (at_ := at_) (by rw [d2, zeros_len]; exact hok)
        obtain ⟨H7, z1, g7, hz1, e1⟩ := zz _ g6
        obtain ⟨H8, z2, g8, hz2, e2⟩ := zo _ (g6.trans g7)
        have e12 := s12 ((T5.grow (g6.trans g7)).grow g8)
        have b1 := (hz1.grow g8).b2s
        have b2 := hz2.b2s
        have mk := fun (R : Type) (k : HK R) (G : Heap) => mks_n (R := R) (H := G) (k := k) (n := nn) (show nn ≤ roomN by have : (100 : Nat) ≤ roomN := (by decide); omega) (show nn ≤ sMax by have : (100 : Nat) ≤ sMax := (by decide); omega)
        simp only [EX, reduceIte, Nat.reduceEqDiff, Nat.reduceAdd, Int.reduceEq, Int.reduceLT, Int.reduceLE, reduceCtorEq, Nat.reduceLeDiff, Nat.reduceSub, Nat.reduceLT, f0, f1, f2, f7, f9, e11 _ (Nat.le_add_left 100 _), hn0, hn1, x_mks, mk, e9n _ (Nat.le_add_left 200 _), bne_ff, e1 _ (Nat.le_add_left 100 _), e2 _ (Nat.le_add_left 100 _), e12 _ (Nat.le_add_left 20 _), b1, b2, s_eql, hq1, hq2, hq3]
        exact rfl
      · obtain ⟨H7, z1, g7, hz1, e1⟩ := zz _ (Grow.refl _)
        obtain ⟨H8, z2, g8, hz2, e2⟩ := zo _ g7
        have e12 := s12 ((T5.grow g7).grow g8)
        have b1 := (hz1.grow g8).b2s
        have b2 := hz2.b2s
        simp only [EX, reduceIte, Nat.reduceEqDiff, Nat.reduceAdd, Int.reduceEq, Int.reduceLT, Int.reduceLE, reduceCtorEq, Nat.reduceLeDiff, Nat.reduceSub, Nat.reduceLT, f0, f1, f2, f7, f9, e11 _ (Nat.le_add_left 100 _), hn0, hn1, bne_ff, e1 _ (Nat.le_add_left 100 _), e2 _ (Nat.le_add_left 100 _), e12 _ (Nat.le_add_left 20 _), b1, b2, s_eql, hq1, hq2, hq3]
        exact rfl
    · obtain ⟨H7, z1, g7, hz1, e1⟩ := zz _ (Grow.refl _)
      obtain ⟨H8, z2, g8, hz2, e2⟩ := zo _ g7
      have e12 := s12 ((T5.grow g7).grow g8)
      have b1 := (hz1.grow g8).b2s
      have b2 := hz2.b2s
      simp only [EX, reduceIte, Nat.reduceEqDiff, Nat.reduceAdd, Int.reduceEq, Int.reduceLT, Int.reduceLE, reduceCtorEq, Nat.reduceLeDiff, Nat.reduceSub, Nat.reduceLT, f0, f1, f2, f7, f9, e11 _ (Nat.le_add_left 100 _), hn0, bne_ff, e1 _ (Nat.le_add_left 100 _), e2 _ (Nat.le_add_left 100 _), e12 _ (Nat.le_add_left 20 _), b1, b2, s_eql, hq1, hq2, hq3]
      exact rfl
end Go.Proofs.Ytnbjicanbihgnaa

/- The chapter's example, in every world; the walk of TapeAreas. -/
namespace Go.Proofs.Ytnbjicanbihgnaa
open Go Go.Vai
set_option maxRecDepth 100000
set_option maxHeartbeats 1600000
theorem gsz : Try.prog.globals.size = 0 := by kernel_rfl
noncomputable def H0 : Heap := begin_ 0 []
theorem H0_eq : begin_ Try.prog.globals.size [] = H0 := by rw [gsz]; rfl
set_option maxRecDepth 1000000 in
theorem known_run : goK tbl 100000 (toPa 6) [] H0 yesK = some () := by kernel_rfl
/-- The chapter's example. -/
theorem known_ok (w : World) (hn : Try.prog.globals.size ≤ w.heap.size) (_ : ∀ x ∈ ([] : List (Nat × List AV)), Knows w x) : Calls Try.prog 6 #[] w fun e w' => e = .returned (.bool true) ∧ Go.RowKit.Below w.heap.size w w' :=
  walk_of tbl_ok (args := []) (l := []) hn (fun x hx => by cases hx) (fun _ => rfl) (by rw [H0_eq]; exact known_run)
theorem h0_rel (W : World) : Rel (keepAll W) Try.prog.globals.size (emb0 Try.prog.globals.size W) H0 W.heap := by
  have := begin_rel (l := []) (W := W) (n := Try.prog.globals.size) (by rw [gsz]; exact Nat.zero_le _) fun x hx => by cases hx
  rwa [H0_eq] at this
theorem c4_eq : c4 = .mk B4 [(.tmp (toPa 6))] := by kernel_rfl
/-- THE WALK of TapeAreas. -/
theorem walk4 (W : World) (a b c : Int) : Calls Try.prog 4 #[.int .i64 a, .int .i64 b, .int .i64 c] W fun e w' => e = .returned (.bool true) ∧ Go.RowKit.Below W.heap.size W w' := by
  have hn : Try.prog.globals.size ≤ W.heap.size := by rw [gsz]; exact Nat.zero_le _
  refine law_on tbl_ok (fuel := 100000) (kn := 6) (args := [.i .i64 a, .i .i64 b, .i .i64 c]) Try.func4 (h0_rel W) hn (l := []) (fun x hx => by cases hx) ⟨_, _, rfl, rfl, _, _, rfl, rfl, _, _, rfl, rfl, rfl⟩ known_ok ?_
  have e : (compF Try.prog Try.f4).getD dfl = .mk B4 [(.tmp (toPa 6))] := c4_eq
  rw [e]
  exact law4 a b c
end Go.Proofs.Ytnbjicanbihgnaa

/- The law of fronts (TapeFronts): its loops. -/
namespace Go.Proofs.Ytnbjicanbihgnaa
open Go Go.Vai
set_option maxRecDepth 100000
set_option maxHeartbeats 3200000
set_option linter.unusedSimpArgs false
noncomputable def Lp3b : AC := (.loop (.seq (.seq (.ops [O 73 (.mv (T 18)), O 74 (.mv (T 17)), O 75 (.bin .lss .no (T 73) (T 74))]) (.cond (T 75) .skip (.exit 2))) (.seq (.block 3 (.ops [O 78 (.mv (T 14)), O 79 (.mv (T 16)), O 80 (.mv (T 2)), O 81 (.bin .mul .no (T 79) (T 80)), O 82 (.mv (T 18)), O 83 (.bin .add .no (T 81) (T 82)), O 84 (.mv (T 15)), O 85 (.mv (T 16)), O 86 (.ixa 1 (T 84) (T 85)), O 87 (.ld false 1 (T 86)), O 88 (.mv (T 18)), O 89 (.ixa 1 (T 87) (T 88)), O 90 (.ld false 1 (T 89)), O 91 (.ixa 1 (T 78) (T 83)), O_ (.st 1 (T 91) (T 90))])) (.ops [O 76 (.mv (T 18)), O 77 (.bin .add .no (T 76) (K (.i .i64 1))), O 18 (.mv (T 77))]))))
noncomputable def Lp3a : AC := (.loop (.seq (.seq (.ops [O 54 (.mv (T 16)), O 55 (.bin .lss .no (T 54) (K (.i .i64 2)))]) (.cond (T 55) .skip (.exit 0))) (.seq (.block 1 (.seq (.ops [O 17 (.mv (K (.i .i64 0)))]) (.seq (.seq (.ops [O 58 (.mv (T 16)), O 59 (.mv (T 3)), O 60 (.len false (T 59)), O 61 (.bin .lss .no (T 58) (T 60))]) (.cond (T 61) (.draw 0 [(O 62 (.mv (T 3)), ⟨0, 0⟩), (O 63 (.mv (T 16)), ⟨0, 0⟩), (O 64 (.ixa 1 (T 62) (T 63)), ⟨0, 0⟩), (O 65 (.ld false 1 (T 64)), ⟨1, 0⟩), (O 66 (.mv (T 15)), ⟨0, 0⟩), (O 67 (.mv (T 16)), ⟨0, 0⟩), (O 68 (.ixa 1 (T 66) (T 67)), ⟨0, 0⟩), (O 69 (.ld false 1 (T 68)), ⟨1, 0⟩), (O 70 (.len false (T 69)), ⟨0, 0⟩), (O 71 (.bin .add .no (T 70) (K (.i .i64 1))), ⟨0, 0⟩), (O 72 (.call (toPa 8) [(T 65), (T 71)]), ⟨3, 0⟩), (O 17 (.mv (T 72)), ⟨0, 1⟩)]) .skip)) (.seq (.ops [O 18 (.mv (K (.i .i64 0)))]) (.block 2 Lp3b))))) (.ops [O 56 (.mv (T 16)), O 57 (.bin .add .no (T 56) (K (.i .i64 1))), O 16 (.mv (T 57))]))))
theorem B3_eq : B3 = (.seq (.ops [O 8 (.mv (K (.b false)))]) (.seq (.seq (.ops [O 21 (.call (toPa 6) []), O 22 (.not (T 21))]) (.cond (T 22) (.seq (.ops [O 8 (.mv (K (.b false)))]) .ret) .skip)) (.seq (.seq (.ops [O 23 (.mv (T 0)), O 24 (.len false (T 23)), O 25 (.mv (T 1)), O 26 (.len false (T 25)), O 27 (.bin .add .no (T 24) (T 26)), O 28 (.bin .gtr .no (T 27) (K (.i .i64 200))), O 29 (.mv (T 28)), G 30 29 false (.mv (T 3)), G 31 29 false (.len false (T 30)), G 32 29 false (.bin .gtr .no (T 31) (K (.i .i64 10))), O 33 (.pick (T 29) (K (.b true)) (T 32))]) (.cond (T 33) (.seq (.ops [O 8 (.mv (K (.b true)))]) .ret) .skip)) (.seq (.ops [O 35 (.call (toPa 7) [(K (.i .i64 400))]), O 34 (.mv (T 35)), O 36 (.ext 0 (T 34)), O 37 (.ext 1 (T 34)), O 9 (.mv (T 36)), O 10 (.mv (T 37))]) (.seq (.ops [O 38 (.mv (T 2)), O 39 (.call (toPa 8) [(T 38), (K (.i .i64 100))]), O 2 (.mv (T 39))]) (.seq (.ops [O 40 (.mv (T 9)), O 41 (.mv (T 0)), O 42 (.call (toPa 9) [(T 40), (K (.i .i64 0)), (K (.i .i64 0)), (T 41)]), O 43 (.mv (T 9)), O 44 (.mv (T 2)), O 45 (.mv (T 1)), O 46 (.call (toPa 9) [(T 43), (K (.i .i64 0)), (T 44), (T 45)]), O 11 (.mv (T 42)), O 12 (.mv (T 46))]) (.seq (.ops [O 47 (.mv (T 9)), O 48 (.mv (T 3)), O 49 (.call (toPa 10) [(T 47), (T 48)]), O 13 (.mv (T 49))]) (.seq (.ops [O 50 (.mks 5 1 1 [(.i .u8 0)] (K (.i .i64 400)) (K (.i .i64 400))), O 14 (.mv (T 50))]) (.seq (.ops [O 51 (.mv (T 0)), O 52 (.mv (T 1)), O 53 (.bsl 22 1 2 [.ns, .ns] [(0, 1, (T 51)), (1, 1, (T 52))]), O 15 (.mv (T 53))]) (.seq (.seq (.ops [O 16 (.mv (K (.i .i64 0)))]) (.block 0 Lp3a)) (.seq (.ops [O 93 (.mv (T 9)), O 94 (.call (toPa 11) [(T 93), (K (.i .i64 0)), (K (.i .i64 0)), (K (.i .i64 400))]), O 92 (.mv (T 94)), O 95 (.ext 0 (T 92)), O 96 (.ext 1 (T 92)), O 19 (.mv (T 95)), O 20 (.mv (T 96))]) (.seq (.ops [O 97 (.mv (T 11)), O 98 (.bin .eql .no (T 97) (K (.i .i64 0))), O 99 (.mv (T 98)), G 100 99 true (.mv (T 12)), G 101 99 true (.bin .eql .no (T 100) (K (.i .i64 0))), O 102 (.pick (T 99) (T 101) (K (.b false))), O 103 (.mv (T 102)), G 104 103 true (.mv (T 20)), G 105 103 true (.bin .eql .no (T 104) (K (.i .i64 0))), O 106 (.pick (T 103) (T 105) (K (.b false))), O 107 (.mv (T 106)), G 108 107 true (.mv (T 13)), G 109 107 true (.bin .eql .no (T 108) (K (.i .i64 2))), O 110 (.pick (T 107) (T 109) (K (.b false))), O 111 (.mv (T 110)), G 112 111 true (.mv (T 19)), G 113 111 true (.b2s (T 112)), G 114 111 true (.mv (T 14)), G 115 111 true (.b2s (T 114)), G 116 111 true (.bin .eql .no (T 113) (T 115)), O 117 (.pick (T 111) (T 116) (K (.b false))), O 8 (.mv (T 117))]) .ret)))))))))))) := rfl
theorem ov_get {W t : List UInt8} {off : Nat} (h : off + t.length ≤ W.length) (q : Nat) : (ov W off t)[q]? = if q < off then W[q]? else if q < off + t.length then t[q - off]? else W[q]? := by
  unfold ov
  by_cases h1 : q < off
  · rw [if_pos h1, List.append_assoc, List.getElem?_append_left (by rw [List.length_take]; omega), List.getElem?_take_of_lt h1]
  · rw [if_neg h1, List.append_assoc, List.getElem?_append_right (by rw [List.length_take]; omega), List.length_take, Nat.min_eq_left (by omega)]
    by_cases h2 : q < off + t.length
    · rw [if_pos h2, List.getElem?_append_left (by omega)]
    · rw [if_neg h2, List.getElem?_append_right (by omega), List.getElem?_drop]
      congr 1; omega
theorem ov_step {W s : List UInt8} {off j : Nat} (hj : j < s.length) (h : off + s.length ≤ W.length) : (ov W off (s.take j)).set (off + j) s[j] = ov W off (s.take (j + 1)) := by
  have h1 : (s.take j).length = j := by rw [List.length_take]; omega
  have h2 : (s.take (j + 1)).length = j + 1 := by rw [List.length_take]; omega
  apply List.ext_getElem?
  intro q
  rw [ov_get (by omega)]
  by_cases hq : q = off + j
  · subst hq
    rw [List.getElem?_set_self (by rw [ov_len (by omega)]; omega), if_neg (by omega), if_pos (by omega), Nat.add_sub_cancel_left, List.getElem?_take_of_lt (by omega), List.getElem?_eq_getElem hj]
  · rw [List.getElem?_set_ne (by omega), ov_get (by omega), h1, h2]
    by_cases h3 : q < off
    · rw [if_pos h3, if_pos h3]
    · rw [if_neg h3, if_neg h3]
      by_cases h4 : q < off + j
      · rw [if_pos h4, if_pos (by omega), List.getElem?_take_of_lt (by omega), List.getElem?_take_of_lt (by omega)]
      · rw [if_neg h4, if_neg (by omega)]
theorem ov_undo {t s : List UInt8} {k : Nat} (h : k + s.length ≤ t.length) : ov (ov t k s) k ((t.drop k).take s.length) = t := by
  have hl : ((t.drop k).take s.length).length = s.length := by rw [List.length_take, List.length_drop]; omega
  apply List.ext_getElem?
  intro q
  rw [ov_get (by rw [ov_len h, hl]; exact h), hl, ov_get h]
  by_cases h1 : q < k
  · rw [if_pos h1, if_pos h1]
  · rw [if_neg h1, if_neg h1]
    by_cases h2 : q < k + s.length
    · rw [if_pos h2, List.getElem?_take_of_lt (by omega), List.getElem?_drop]
      congr 1; omega
    · rw [if_neg h2, if_neg h2]
/-- What stands in the slots while the law's loops run. -/
structure F3 (k : Nat) (pv p w rows : AV) (i : Nat) (fr : Tr AV) : Prop where
  f2 : V fr 2 = .i .i64 (k : Int)
  f3 : V fr 3 = pv
  f9 : V fr 9 = p
  f11 : V fr 11 = .i .i64 0
  f12 : V fr 12 = .i .i64 0
  f13 : V fr 13 = .i .i64 2
  f14 : V fr 14 = w
  f15 : V fr 15 = rows
  f16 : V fr 16 = .i .i64 (i : Int)
def Bl (n : Nat) (a : Pa) : Prop := a.toN < n
/-- What stands in memory while they run. -/
structure I3 (n : Nat) (w rw : Pa) (y0 y1 : AV) (s0 s1 : List UInt8) (pv : AV) (zs : List Int) (W : List UInt8) (G0 G : Heap) : Prop where
  r : Row G rw 22 [y0, y1]
  rl : rw.toN < G.next.toN
  wl : w.toN < G.next.toN
  wr : w ≠ rw
  wn : n ≤ w.toN
  h0 : Bys (Bl n) G y0 s0
  h1 : Bys (Bl n) G y1 s1
  hz : Zs (Bl n) G pv zs
  hw : Row G w 5 (bcs W)
  b : GrowBut w G0 G
section
variable {n : Nat} {w rw : Pa} {y0 y1 : AV} {s0 s1 : List UInt8} {pv : AV} {zs : List Int} {W W' : List UInt8} {G0 G G' : Heap}
theorem I3.but (I : I3 n w rw y0 y1 s0 s1 pv zs W G0 G) (g : GrowBut w G G') (h : Row G' w 5 (bcs W')) : I3 n w rw y0 y1 s0 s1 pv zs W' G0 G' := by
  have mv : ∀ a, Bl n a → a.toN < G.next.toN → Bl n a ∧ G'.get a = G.get a := fun a ha hb => ⟨ha, g.get a hb (by intro q; have h1 := I.wn; have h2 : a.toN < n := ha; rw [q] at h2; omega)⟩
  exact ⟨I.r.but g I.rl I.wr.symm, Nat.lt_of_lt_of_le I.rl g.next, Nat.lt_of_lt_of_le I.wl g.next, I.wr, I.wn, I.h0.mv mv g.next, I.h1.mv mv g.next, I.hz.mv mv g.next, h, I.b.trans g⟩
def sel {α : Type} (x y : α) (i : Nat) : α := if i = 0 then x else y
theorem I3.ys (I : I3 n w rw y0 y1 s0 s1 pv zs W G0 G) {i : Nat} (hi : i < 2) : Bys (Bl n) G (sel y0 y1 i) (sel s0 s1 i) ∧ ∀ (R : Type) (k : HK R), ldC false 1 (.p rw i) k G = k (sel y0 y1 i) G := by
  match i, hi with
  | 0, _ => exact ⟨I.h0, I.r.l 0 rfl⟩
  | 1, _ => exact ⟨I.h1, I.r.l 1 rfl⟩
theorem bcs_set {s : List UInt8} {i : Nat} {b : UInt8} : (bcs s).set i (.i .u8 (b.toNat : Int)) = bcs (s.set i b) := by unfold bcs; rw [List.map_set]
theorem ixa_w {R : Type} {a : Pa} {len : Nat} {c : Option Nat} {i : Nat} (h : i < len) (k : HK R) (G : Heap) : ixaC 1 (.sl a 0 len c 1) (.i .i64 (i : Int)) k G = k (.p a i) G := by
  rw [ixa_sl (by omega) (by omega), Nat.zero_add, Nat.mul_one]; rfl
theorem in_loop {k i m : Nat} {p : AV} (hi : i < 2) (hk : k < 100) (hm : m ≤ (sel s0 s1 i).length) (hl : (sel s0 s1 i).length ≤ 200) (hW : W.length = 400) (I : I3 n w rw y0 y1 s0 s1 pv zs W G0 G) :
    ∃ G', I3 n w rw y0 y1 s0 s1 pv zs (ov W (i * k) ((sel s0 s1 i).take m)) G0 G' ∧ ∀ fr, (F3 k pv p (.sl w 0 400 (some 400) 1) (.sl rw 0 2 (some 2) 1) i fr ∧ V fr 17 = .i .i64 (m : Int) ∧ V fr 18 = .i .i64 ((0 : Nat) : Int)) → ∀ M, 100 + m ≤ M → ∀ (R : Type) (kk : XK R) (res : Option R),
      (∀ fr', F3 k pv p (.sl w 0 400 (some 400) 1) (.sl rw 0 2 (some 2) 1) i fr' → kk (.exit 2) fr' G' = res) → runK tbl M R Lp3b fr G kk = res := by
  have hik : i * k ≤ 100 := by
    match i, hi with
    | 0, _ => omega
    | 1, _ => omega
  have hmul : IntKind.i64.wrap ((i : Int) * (k : Int)) = ((i * k : Nat) : Int) := by rw [show (i : Int) * (k : Int) = ((i * k : Nat) : Int) from (Int.natCast_mul i k).symm, wrap_n64 (by omega)]
  obtain ⟨G', _, J, e⟩ := loop_cps (Lp := Lp3b) (ex := 2) (n := m) (c := 100) (St := Unit)
    (fun j G _ => I3 n w rw y0 y1 s0 s1 pv zs (ov W (i * k) ((sel s0 s1 i).take j)) G0 G)
    (fun j _ fr => F3 k pv p (.sl w 0 400 (some 400) 1) (.sl rw 0 2 (some 2) 1) i fr ∧ V fr 17 = .i .i64 (m : Int) ∧ V fr 18 = .i .i64 (j : Int))
    (fun G _ _ fr ⟨f, f17, f18⟩ M hM R kk res hr => by
      obtain ⟨q, rfl⟩ : ∃ q, M = q + 100 := ⟨M - 100, by omega⟩
      unfold Lp3b
      rw [run_loop]
      simp only [EX, reduceIte, Nat.reduceEqDiff, Nat.reduceAdd, Int.reduceEq, Int.reduceLT, Int.reduceLE, reduceCtorEq, Nat.reduceLeDiff, Nat.reduceSub, Nat.reduceLT, f17, f18, Int.lt_irrefl]
      refine hr _ ⟨⟨?_, ?_, ?_, ?_, ?_, ?_, ?_, ?_, ?_⟩, ?_, ?_⟩
      all_goals simp only [V_S, Nat.reduceEqDiff, reduceIte]
      all_goals first | exact f.f2 | exact f.f3 | exact f.f9 | exact f.f11 | exact f.f12 | exact f.f13 | exact f.f14 | exact f.f15 | exact f.f16 | assumption)
    (fun j G _ hj J => by
      obtain ⟨hy, ly⟩ := J.ys hi
      have hjl : j < (sel s0 s1 i).length := by omega
      obtain ⟨ya, yo, eix, hya, hyl, eld⟩ := hy.at hjl
      have hlen : (ov W (i * k) ((sel s0 s1 i).take j)).length = 400 := by rw [ov_len (by rw [List.length_take]; omega), hW]
      obtain ⟨G', r', g', n', est⟩ := J.hw.st_one (off := i * k + j) (v := .i .u8 (((sel s0 s1 i)[j]).toNat : Int)) J.wl (by rw [bcs_len, hlen]; omega) one_i
      rw [bcs_set, ov_step hjl (by omega)] at r'
      refine ⟨G', (), J.but g' r', ?_⟩
      rintro fr ⟨f, f17, f18⟩ M hM R kk res hr
      obtain ⟨q, rfl⟩ : ∃ q, M = q + 100 := ⟨M - 100, by omega⟩
      have hlt : (j : Int) < (m : Int) := by omega
      have eld := eld G rfl
      have hadd : IntKind.i64.wrap (((i * k : Nat) : Int) + (j : Int)) = ((i * k + j : Nat) : Int) := by rw [show ((i * k : Nat) : Int) + (j : Int) = ((i * k + j : Nat) : Int) by omega, wrap_n64 (by omega)]
      have hinc := inc_i (i := j) (by omega)
      have hr : ∀ fr', _ → runK tbl (q + 100) R Lp3b fr' G' kk = res := hr
      unfold Lp3b
      rw [run_loop]
      simp only [EX, reduceIte, Nat.reduceEqDiff, Nat.reduceAdd, Int.reduceEq, Int.reduceLT, Int.reduceLE, reduceCtorEq, Nat.reduceLeDiff, Nat.reduceSub, Nat.reduceLT, f17, f18, f.f14, f.f15, f.f16, f.f2, hlt, i_mul, hmul, i_add, hadd, ixa_w hi, ly, eix, eld, ixa_w (show i * k + j < 400 by omega), est, hinc]
      refine hr _ ⟨⟨?_, ?_, ?_, ?_, ?_, ?_, ?_, ?_, ?_⟩, ?_, ?_⟩
      all_goals simp only [V_S, Nat.reduceEqDiff, reduceIte]
      all_goals first | exact f.f2 | exact f.f3 | exact f.f9 | exact f.f11 | exact f.f12 | exact f.f13 | exact f.f14 | exact f.f15 | exact f.f16 | assumption)
    m 0 G () (Nat.zero_add _) (by rw [List.take_zero, ov_nil]; exact I)
  refine ⟨G', J, fun fr hf M hM R kk res hr => e fr hf M hM R kk res fun fr' h' => hr fr' h'.1⟩
end
end Go.Proofs.Ytnbjicanbihgnaa

/- The law of fronts (TapeFronts): what it reckons. -/
namespace Go.Proofs.Ytnbjicanbihgnaa
open Go Go.Vai
set_option maxRecDepth 100000
set_option maxHeartbeats 3200000
set_option linter.unusedSimpArgs false
def wnt (s0 s1 : List UInt8) (zs : List Int) (k : Nat) : Nat → List UInt8
  | 0 => zeros 400
  | i + 1 => ov (wnt s0 s1 zs k i) (i * k) ((sel s0 s1 i).take (pkk zs i (sel s0 s1 i).length))
section
variable {n : Nat} {w rw : Pa} {y0 y1 : AV} {s0 s1 : List UInt8} {pv : AV} {zs : List Int} {W W' : List UInt8} {G0 G G' : Heap}
theorem out_round {k i : Nat} {p : AV} (hi : i < 2) (hk : k < 100) (hl : (sel s0 s1 i).length ≤ 200) (hW : W.length = 400) (I : I3 n w rw y0 y1 s0 s1 pv zs W G0 G) :
    ∃ G', I3 n w rw y0 y1 s0 s1 pv zs (ov W (i * k) ((sel s0 s1 i).take (pkk zs i (sel s0 s1 i).length))) G0 G' ∧ ∀ fr, F3 k pv p (.sl w 0 400 (some 400) 1) (.sl rw 0 2 (some 2) 1) i fr → ∀ M, 1000 ≤ M → ∀ (R : Type) (kk : XK R) (res : Option R),
      (∀ fr', F3 k pv p (.sl w 0 400 (some 400) 1) (.sl rw 0 2 (some 2) 1) (i + 1) fr' → runK tbl M R Lp3a fr' G' kk = res) → runK tbl (M + 1) R Lp3a fr G kk = res := by
  have hpl := pkk_le (zs := zs) (i := i) (n := (sel s0 s1 i).length)
  obtain ⟨G', J, el⟩ := in_loop (p := p) hi hk hpl hl hW I
  refine ⟨G', J, fun fr f M hM R kk res hr => ?_⟩
  obtain ⟨q, rfl⟩ : ∃ q, M = q + 1000 := ⟨M - 1000, by omega⟩
  have hlt : (i : Int) < 2 := by omega
  have hinc := inc_i (i := i) (by omega)
  obtain ⟨hy, ly⟩ := I.ys hi
  have hyy := hy.cell.2.2
  have fin : ∀ fr', F3 k pv p (.sl w 0 400 (some 400) 1) (.sl rw 0 2 (some 2) 1) i fr' → runK tbl (q + 1000) R Lp3a (S (S (S fr' 56 (.i .i64 (i : Int))) 57 (.i .i64 ((i + 1 : Nat) : Int))) 16 (.i .i64 ((i + 1 : Nat) : Int))) G' kk = res := by
    intro fr' g
    refine hr _ ⟨?_, ?_, ?_, ?_, ?_, ?_, ?_, ?_, ?_⟩
    all_goals simp only [V_S, Nat.reduceEqDiff, reduceIte]
    all_goals first | exact g.f2 | exact g.f3 | exact g.f9 | exact g.f11 | exact g.f12 | exact g.f13 | exact g.f14 | exact g.f15
  by_cases hpi : i < zs.length
  · have hpi' : (i : Int) < (zs.length : Int) := by omega
    obtain ⟨pa, po, epx, _, hpa, epl⟩ := I.hz.at hpi
    have epl := epl G rfl
    have hlen : IntKind.i64.wrap (((sel s0 s1 i).length : Int) + 1) = ((sel s0 s1 i).length : Int) + 1 := by rw [inc_i (by omega)]; omega
    have hpk : zs[i] % (((sel s0 s1 i).length : Int) + 1) = ((pkk zs i (sel s0 s1 i).length : Nat) : Int) := by
      unfold pkk
      rw [dif_pos hpi]
      have h2 := Int.emod_nonneg (zs[i]) (show ((sel s0 s1 i).length : Int) + 1 ≠ 0 by omega)
      omega
    have e8 : ∀ (M : Nat), 20 ≤ M → ∀ (R : Type) (k : HK R) (G : Heap), callK tbl (runK tbl M) R (toPa 8) [.i .i64 zs[i], .i .i64 (((sel s0 s1 i).length : Int) + 1)] G k = k (.i .i64 ((pkk zs i (sel s0 s1 i).length : Nat) : Int)) G := by
      intro M hM R k G
      rw [s8 (by omega) (by omega) hM, hpk]
    unfold Lp3a
    rw [run_loop]
    simp only [EX, reduceIte, Nat.reduceEqDiff, Nat.reduceAdd, Int.reduceEq, Int.reduceLT, Int.reduceLE, reduceCtorEq, Nat.reduceLeDiff, Nat.reduceSub, Nat.reduceLT, f.f16, f.f3, f.f15, hlt, I.hz.len, hpi', epx, epl, ixa_w hi, ly, hy.len, hyy, i_add, hlen, e8 _ (Nat.le_add_left 20 _)]
    refine el _ ⟨⟨?_, ?_, ?_, ?_, ?_, ?_, ?_, ?_, ?_⟩, ?_, ?_⟩ _ (by omega) _ _ _ ?_
    rotate_right
    · intro fr' g
      simp only [EX, reduceIte, Nat.reduceEqDiff, Nat.reduceAdd, Int.reduceEq, Int.reduceLT, Int.reduceLE, reduceCtorEq, Nat.reduceLeDiff, Nat.reduceSub, Nat.reduceLT, g.f16, i_add, hinc]
      exact fin fr' g
    all_goals simp only [V_S, Nat.reduceEqDiff, reduceIte]
    all_goals first | exact f.f2 | exact f.f3 | exact f.f9 | exact f.f11 | exact f.f12 | exact f.f13 | exact f.f14 | exact f.f15 | exact f.f16 | rfl
  · have hpi' : ¬ (i : Int) < (zs.length : Int) := by omega
    have hpk : pkk zs i (sel s0 s1 i).length = 0 := by
      unfold pkk
      rw [dif_neg hpi]
    rw [hpk] at el
    unfold Lp3a
    rw [run_loop]
    simp only [EX, reduceIte, Nat.reduceEqDiff, Nat.reduceAdd, Int.reduceEq, Int.reduceLT, Int.reduceLE, reduceCtorEq, Nat.reduceLeDiff, Nat.reduceSub, Nat.reduceLT, f.f16, f.f3, f.f15, hlt, I.hz.len, hpi']
    refine el _ ⟨⟨?_, ?_, ?_, ?_, ?_, ?_, ?_, ?_, ?_⟩, ?_, ?_⟩ _ (by omega) _ _ _ ?_
    rotate_right
    · intro fr' g
      simp only [EX, reduceIte, Nat.reduceEqDiff, Nat.reduceAdd, Int.reduceEq, Int.reduceLT, Int.reduceLE, reduceCtorEq, Nat.reduceLeDiff, Nat.reduceSub, Nat.reduceLT, g.f16, i_add, hinc]
      exact fin fr' g
    all_goals simp only [V_S, Nat.reduceEqDiff, reduceIte]
    all_goals first | exact f.f2 | exact f.f3 | exact f.f9 | exact f.f11 | exact f.f12 | exact f.f13 | exact f.f14 | exact f.f15 | exact f.f16 | rfl
theorem wnt_len {k : Nat} (hk : k < 100) (h0 : s0.length ≤ 200) (h1 : s1.length ≤ 200) : ∀ i, i ≤ 2 → (wnt s0 s1 zs k i).length = 400
  | 0, _ => zeros_len
  | i + 1, hi => by
    have ih := wnt_len hk h0 h1 i (by omega)
    have hpl := pkk_le (zs := zs) (i := i) (n := (sel s0 s1 i).length)
    have hs : (sel s0 s1 i).length ≤ 200 := by unfold sel; split <;> assumption
    have hik : i * k ≤ 100 := by
      match i, hi with
      | 0, _ => omega
      | 1, _ => omega
    show (ov (wnt s0 s1 zs k i) (i * k) ((sel s0 s1 i).take (pkk zs i (sel s0 s1 i).length))).length = 400
    rw [ov_len (by rw [List.length_take]; omega), ih]
theorem out_loop {k : Nat} {p : AV} (hk : k < 100) (h0 : s0.length ≤ 200) (h1 : s1.length ≤ 200) (I : I3 n w rw y0 y1 s0 s1 pv zs (zeros 400) G0 G) :
    ∃ G', I3 n w rw y0 y1 s0 s1 pv zs (wnt s0 s1 zs k 2) G0 G' ∧ ∀ fr, F3 k pv p (.sl w 0 400 (some 400) 1) (.sl rw 0 2 (some 2) 1) 0 fr → ∀ M, 1002 ≤ M → ∀ (R : Type) (kk : XK R) (res : Option R),
      (∀ fr', F3 k pv p (.sl w 0 400 (some 400) 1) (.sl rw 0 2 (some 2) 1) 2 fr' → kk (.exit 0) fr' G' = res) → runK tbl M R Lp3a fr G kk = res := by
  obtain ⟨G', _, J, e⟩ := loop_cps (Lp := Lp3a) (ex := 0) (n := 2) (c := 1000) (St := Unit)
    (fun i G _ => I3 n w rw y0 y1 s0 s1 pv zs (wnt s0 s1 zs k i) G0 G)
    (fun i _ fr => F3 k pv p (.sl w 0 400 (some 400) 1) (.sl rw 0 2 (some 2) 1) i fr)
    (fun G _ _ fr f M hM R kk res hr => by
      obtain ⟨q, rfl⟩ : ∃ q, M = q + 1000 := ⟨M - 1000, by omega⟩
      have h22 : ¬ (((2 : Nat) : Int) < 2) := by omega
      unfold Lp3a
      rw [run_loop]
      simp only [EX, reduceIte, Nat.reduceEqDiff, Nat.reduceAdd, Int.reduceEq, Int.reduceLT, Int.reduceLE, reduceCtorEq, Nat.reduceLeDiff, Nat.reduceSub, Nat.reduceLT, f.f16, h22]
      refine hr _ ⟨?_, ?_, ?_, ?_, ?_, ?_, ?_, ?_, ?_⟩
      all_goals simp only [V_S, Nat.reduceEqDiff, reduceIte]
      all_goals first | exact f.f2 | exact f.f3 | exact f.f9 | exact f.f11 | exact f.f12 | exact f.f13 | exact f.f14 | exact f.f15 | exact f.f16)
    (fun i G _ hi J => by
      obtain ⟨G', J', e'⟩ := out_round (p := p) hi hk (by unfold sel; split <;> assumption) (wnt_len hk h0 h1 i (by omega)) J
      exact ⟨G', (), J', e'⟩)
    2 0 G () rfl I
  exact ⟨G', J, e⟩
end
end Go.Proofs.Ytnbjicanbihgnaa

/- The law of fronts (TapeFronts), whole. -/
namespace Go.Proofs.Ytnbjicanbihgnaa
open Go Go.Vai
set_option maxRecDepth 100000
set_option maxHeartbeats 3200000
set_option linter.unusedSimpArgs false
def st3 (s0 s1 : List UInt8) (k : Nat) : TS := ((⟨zeros 400, zeros 400, [], 0⟩ : TS).write 0 0 s0).write 0 k s1
/-- THE PLAIN LAW: what a crash leaves. -/
theorem fronts {s0 s1 : List UInt8} {zs : List Int} {k : Nat} (hk : k < 100) (h0 : s0.length ≤ 200) (h1 : s1.length ≤ 200) : ((st3 s0 s1 k).crash zs).a = wnt s0 s1 zs k 2 := by
  have e : ((st3 s0 s1 k).crash zs).a = ov (ov (ov (ov (ov (ov (zeros 400) 0 s0) k s1) k (((ov (zeros 400) 0 s0).drop k).take s1.length)) 0 (((zeros 400).drop 0).take s0.length)) 0 (s0.take (pkk zs 0 s0.length))) k (s1.take (pkk zs 1 s1.length)) := rfl
  have hz := zeros_len (n := 400)
  have hl := ov_len (s := zeros 400) (t := s0) (i := 0) (by omega)
  rw [e, ov_undo (by omega), ov_undo (by omega)]
  show _ = ov (ov (zeros 400) (0 * k) (s0.take (pkk zs 0 s0.length))) (1 * k) (s1.take (pkk zs 1 s1.length))
  rw [Nat.zero_mul, Nat.one_mul]
section
variable {D : TD} {H H' : Heap} {x : AV} {L : List AV} {st : TS}
theorem KeepT.low (k : KeepT D x H H') (T : Tp D H x L st) {a : Pa} (ha : a.toN < D.n0) : H'.get a = H.get a := by
  have o1 := T.o1
  have o2 := T.o2
  have o3 := T.o3
  have o4 := T.o4
  exact k.get a (by omega) (by intro q; rw [q] at ha; omega) (by intro q; rw [q] at ha; omega) (by intro q; rw [q] at ha; omega) (T.xoff (.inl (by omega)))
theorem Tp.low (T : Tp D H x L st) {a : Pa} (ha : a.toN < D.n0) : Ap D x a := by
  have o1 := T.o1
  have o2 := T.o2
  have o3 := T.o3
  have o4 := T.o4
  exact ⟨by intro q; rw [q] at ha; omega, by intro q; rw [q] at ha; omega, by intro q; rw [q] at ha; omega, T.xoff (.inl (by omega))⟩
theorem Tp.off (T : Tp D H .ns [] st) (h0 : st.op = []) {w : Pa} (hw : D.B.toN < w.toN) (g : GrowBut w H H') : Tp D H' .ns [] st := by
  have o2 := T.o2
  have o3 := T.o3
  have o4 := T.o4
  exact ⟨T.o1, o2, o3, Nat.lt_of_lt_of_le o4 g.next, T.rp.but g (by omega) (by intro q; rw [← q] at hw; omega), T.ra.but g (by omega) (by intro q; rw [← q] at hw; omega), T.rb.but g o4 (by intro q; rw [← q] at hw; omega), T.la, T.lb, Or.inl ⟨rfl, h0, rfl⟩, fun j w hj => by rw [h0] at hj; cases hj⟩
end
theorem put_S3 {d : Nat} {v : AV} {t : Tr AV} : put (some (toPa d)) v t = S t d v := id rfl
theorem law3 {H : Heap} {y0 y1 pv : AV} {s0 s1 : List UInt8} {zs : List Int} (at_ : Int) (hy0 : Bys Any H y0 s0) (hy1 : Bys Any H y1 s1) (hz : Zs Any H pv zs) (l0 : s0.length ≤ 1000000000000000) (l1 : s1.length ≤ 1000000000000000) :
    lawK tbl 100000 (toPa 6) (.mk B3 [(.tmp (toPa 8))]) [y0, y1, .i .i64 at_, pv] H = some () := by
  have hw : IntKind.i64.wrap ((s0.length : Int) + (s1.length : Int)) = ((s0.length + s1.length : Nat) : Int) := by rw [show (s0.length : Int) + (s1.length : Int) = ((s0.length + s1.length : Nat) : Int) by omega, wrap_n64 (by omega)]
  unfold lawK
  rw [B3_eq]
  show guardK (Pa.same (toPa 6) (toPa 6)) (restK _ _ _ _ _ _ _ _ _ _) = _
  rw [same_id, guardK_t4]
  unfold restK
  rw [argsK_frame]
  by_cases hb : (200 : Int) < ((s0.length + s1.length : Nat) : Int)
  · simp only [EX, reduceIte, Nat.reduceEqDiff, Nat.reduceAdd, Int.reduceEq, Int.reduceLT, Int.reduceLE, reduceCtorEq, Nat.reduceLeDiff, Nat.reduceSub, Nat.reduceLT, putK_eq, put_S4, evK_eq, vB_b4, hy0.len, hy1.len, i_add, hw, hb]
    exact rfl
  by_cases hb2 : (10 : Int) < (zs.length : Int)
  · simp only [EX, reduceIte, Nat.reduceEqDiff, Nat.reduceAdd, Int.reduceEq, Int.reduceLT, Int.reduceLE, reduceCtorEq, Nat.reduceLeDiff, Nat.reduceSub, Nat.reduceLT, putK_eq, put_S4, evK_eq, vB_b4, hy0.len, hy1.len, hz.len, i_add, hw, hb, hb2]
    exact rfl
  have m0 : s0.length ≤ 200 := by omega
  have m1 : s1.length ≤ 200 := by omega
  obtain ⟨D, H1, d1, d2, T1, g1, e7⟩ := s7 (H := H) (n := 400) (by decide) (by decide)
  have e7 : ∀ (M : Nat), 100 ≤ M → ∀ (R : Type) (k : HK R), callK tbl (runK tbl M) R (toPa 7) [.i .i64 400] H k = k (.tu [.p D.p 0, .i .i64 0]) H1 := e7
  have hr : D.room ≤ 1000000 := by rw [d2]; decide
  obtain ⟨k, hk⟩ := Int.eq_ofNat_of_zero_le (Int.emod_nonneg at_ (show (100 : Int) ≠ 0 by decide))
  have hk100 : k < 100 := by have := Int.emod_lt_of_pos at_ (show (0 : Int) < 100 by decide); omega
  have e8 : ∀ (M : Nat), 20 ≤ M → ∀ (R : Type) (c : HK R) (G : Heap), callK tbl (runK tbl M) R (toPa 8) [.i .i64 at_, .i .i64 100] G c = c (.i .i64 (k : Int)) G := by
    intro M hM R c G
    rw [s8 (by decide) (by decide) hM, hk]
  obtain ⟨H2, x2, L2, T2, k2, f2, e9⟩ := s9 (i := 0) (at_ := 0) (y := y0) (s := s0) T1 hr (by decide) (by decide) (by decide) (by rw [d2]; omega) (hy0.mv (fun a _ hb => ⟨(have := T1.low (a := a) (by omega); ⟨this.1, this.2.2.2⟩), g1.get a hb⟩) g1.next)
  have low2 : ∀ a : Pa, a.toN < H.next.toN → H2.get a = H.get a := fun a ha => by rw [k2.low T1 (by omega), g1.get a ha]
  have hn2 : H.next.toN ≤ H2.next.toN := Nat.le_trans g1.next k2.next
  obtain ⟨H3, x3, L3, T3, k3, f3, e9'⟩ := s9 (i := 0) (at_ := k) (y := y1) (s := s1) T2 hr (show 1 < 1000 by decide) (show 1 < 1000000 by decide) (by decide) (by rw [d2]; omega) (hy1.mv (fun a _ hb => ⟨(have := T2.low (a := a) (by omega); ⟨this.1, this.2.2.2⟩), low2 a hb⟩) hn2)
  have low3 : ∀ a : Pa, a.toN < H.next.toN → H3.get a = H.get a := fun a ha => by rw [k3.low T2 (by omega), low2 a ha]
  have hn3 : H.next.toN ≤ H3.next.toN := Nat.le_trans hn2 k3.next
  have T3 : Tp D H3 x3 L3 (st3 s0 s1 k) := T3
  obtain ⟨H4, T4, k4, e10⟩ := s10 T3 (by rw [d2]; decide) (show 2 < 1000 by decide) (hz.mv (fun a _ hb => ⟨T3.low (by omega), low3 a hb⟩) hn3)
  have low4 : ∀ a : Pa, a.toN < H.next.toN → H4.get a = H.get a := fun a ha => by rw [k4.low T3 (by omega), low3 a ha]
  have hn4 : H.next.toN ≤ H4.next.toN := Nat.le_trans hn3 k4.next
  have g5 := Grow.alloc H4 (.cells false 0 5 (bcs (zeros 400)).length (setCells (bcs (zeros 400)) 0 .leaf))
  have n5 := next_alloc H4 (.cells false 0 5 (bcs (zeros 400)).length (setCells (bcs (zeros 400)) 0 .leaf))
  have r5 := Row.new H4 5 (bcs (zeros 400))
  have mk : ∀ (R : Type) (c : HK R), mksC 5 1 1 [.i .u8 0] (.i .i64 400) (.i .i64 400) c H4 = c (.sl H4.next 0 400 (some 400) 1) (H4.alloc (.cells false 0 5 (bcs (zeros 400)).length (setCells (bcs (zeros 400)) 0 .leaf))) := fun R c => mks_n (n := 400) (by decide) (by decide)
  obtain ⟨H5, h5⟩ : ∃ H5, H5 = H4.alloc (.cells false 0 5 (bcs (zeros 400)).length (setCells (bcs (zeros 400)) 0 .leaf)) := ⟨_, rfl⟩
  rw [← h5] at g5 n5 r5 mk
  have g6 := Grow.alloc H5 (.cells false 0 22 2 (setCells [y0, y1] 0 .leaf))
  have n6 := next_alloc H5 (.cells false 0 22 2 (setCells [y0, y1] 0 .leaf))
  have r6 : Row (H5.alloc (.cells false 0 22 2 (setCells [y0, y1] 0 .leaf))) H5.next 22 [y0, y1] := Row.new H5 22 [y0, y1]
  obtain ⟨H6, h6⟩ : ∃ H6, H6 = H5.alloc (.cells false 0 22 2 (setCells [y0, y1] 0 .leaf)) := ⟨_, rfl⟩
  rw [← h6] at g6 n6 r6
  have low6 : ∀ a : Pa, a.toN < H.next.toN → H6.get a = H.get a := fun a ha => by rw [g6.get a (by omega), g5.get a (by omega), low4 a ha]
  have I : I3 H.next.toN H4.next H5.next y0 y1 s0 s1 pv zs (zeros 400) H6 H6 :=
    ⟨r6, by omega, by omega, (by intro q; rw [q] at n5; omega), hn4, hy0.mv (fun a _ hb => ⟨hb, low6 a hb⟩) (by omega), hy1.mv (fun a _ hb => ⟨hb, low6 a hb⟩) (by omega), hz.mv (fun a _ hb => ⟨hb, low6 a hb⟩) (by omega), r5.grow g6 (by omega), GrowBut.refl _ _⟩
  obtain ⟨H7, J, eloop⟩ := out_loop (p := .p D.p 0) hk100 m0 m1 I
  have T7 := ((T4.grow g5).grow g6).off rfl (w := H4.next) T4.o4 J.b
  obtain ⟨H8, z, g8, hzb, e11⟩ := s11 (i := 0) (at_ := 0) (n := 400) T7 hr (by decide) (by rw [d2]; decide)
  have e11 : ∀ (M : Nat), 100 ≤ M → ∀ (R : Type) (c : HK R), callK tbl (runK tbl M) R (toPa 11) [.p D.p 0, .i .i64 0, .i .i64 0, .i .i64 400] H7 c = c (.tu [z, .i .i64 0]) H8 := e11
  have hza : ((((st3 s0 s1 k).crash zs).get 0).drop 0).take 400 = wnt s0 s1 zs k 2 := by
    have hl := wnt_len (zs := zs) hk100 m0 m1 2 (Nat.le_refl _)
    show ((((st3 s0 s1 k).crash zs).a).drop 0).take 400 = _
    rw [fronts hk100 m0 m1, List.drop_zero, List.take_of_length_le (by omega)]
  rw [hza] at hzb
  have bz := hzb.b2s
  have hwl := wnt_len (zs := zs) hk100 m0 m1 2 (Nat.le_refl _)
  have bw : ∀ (R : Type) (c : HK R), b2sC (.sl H4.next 0 400 (some 400) 1) c H8 = c (str (wnt s0 s1 zs k 2)) H8 := by
    intro R c
    have := (Bys.row (S := Any) (c := some 400) (J.hw.grow g8 J.wl) (Nat.lt_of_lt_of_le J.wl g8.next) (fun q e => by cases e; omega) trivial).b2s R c
    rwa [hwl] at this
  have hop : (((st3 s0 s1 k).op.length : Nat) : Int) = 2 := rfl
  rw [hop] at e10
  have e9 : ∀ (M : Nat), 200 ≤ M → ∀ (R : Type) (c : HK R), callK tbl (runK tbl M) R (toPa 9) [.p D.p 0, .i .i64 0, .i .i64 0, y0] H1 c = c (.i .i64 0) H2 := e9
  have e9' : ∀ (M : Nat), 200 ≤ M → ∀ (R : Type) (c : HK R), callK tbl (runK tbl M) R (toPa 9) [.p D.p 0, .i .i64 0, .i .i64 (k : Int), y1] H2 c = c (.i .i64 0) H3 := e9'
  subst h6
  simp only [EX, reduceIte, Nat.reduceEqDiff, Nat.reduceAdd, Int.reduceEq, Int.reduceLT, Int.reduceLE, reduceCtorEq, Nat.reduceLeDiff, Nat.reduceSub, Nat.reduceLT, putK_eq, put_S4, evK_eq, vB_b4, hy0.len, hy1.len, hz.len, i_add, hw, hb, hb2, e7 _ (Nat.le_add_left 100 _), e8 _ (Nat.le_add_left 20 _), e9 _ (Nat.le_add_left 200 _), e9' _ (Nat.le_add_left 200 _), e10 _ (Nat.le_add_left 2000 _), x_mks, mk, fill_1 hy0.cell.1, fill_1 hy1.cell.1]
  refine eloop _ ⟨?_, ?_, ?_, ?_, ?_, ?_, ?_, ?_, ?_⟩ _ (by omega) _ _ _ ?_
  rotate_right
  · intro fr f
    simp only [EX, reduceIte, Nat.reduceEqDiff, Nat.reduceAdd, Int.reduceEq, Int.reduceLT, Int.reduceLE, reduceCtorEq, Nat.reduceLeDiff, Nat.reduceSub, Nat.reduceLT, f.f9, f.f11, f.f12, f.f13, f.f14, e11 _ (Nat.le_add_left 100 _), bz, bw, s_eql]
    exact rfl
  all_goals simp only [EX, reduceIte, Nat.reduceEqDiff, Nat.reduceAdd, Int.reduceEq, Int.reduceLT, Int.reduceLE, reduceCtorEq, Nat.reduceLeDiff, Nat.reduceSub, Nat.reduceLT]
  all_goals rfl
end Go.Proofs.Ytnbjicanbihgnaa

/- The law of what stays (TapeStays): its parts, and a round of its loop. -/
namespace Go.Proofs.Ytnbjicanbihgnaa
open Go Go.Vai
set_option maxRecDepth 100000
set_option maxHeartbeats 3200000
set_option linter.unusedSimpArgs false
noncomputable def Lp5 : AC := (.loop (.seq (.seq (.ops [O 37 (.mv (T 9)), O 38 (.mv (T 1)), O 39 (.len false (T 38)), O 40 (.bin .lss .no (T 37) (T 39)), O 41 (.mv (T 40)), G 42 41 true (.mv (T 9)), G 43 41 true (.bin .lss .no (T 42) (K (.i .i64 30))), O 44 (.pick (T 41) (T 43) (K (.b false)))]) (.cond (T 44) .skip (.exit 0))) (.seq (.block 1 (.seq (.ops [O 47 (.mv (T 1)), O 48 (.mv (T 9)), O 49 (.ixa 6 (T 47) (T 48)), O 50 (.ld true 6 (T 49)), O 10 (.new 41 [(.i .i64 0), (.i .i64 0), (.i .i64 0), (.i .i64 0), .ns, .ns]), O_ (.st 6 (T 10) (T 50))]) (.seq (.seq (.ops [O 51 (.fa 4 (T 10)), O 52 (.ld false 1 (T 51)), O 53 (.len false (T 52)), O 54 (.bin .gtr .no (T 53) (K (.i .i64 200)))]) (.cond (T 54) (.exit 1) .skip)) (.seq (.ops [O 55 (.fa 2 (T 10)), O 56 (.ld false 1 (T 55)), O 57 (.call (toPa 8) [(T 56), (K (.i .i64 300))]), O 11 (.mv (T 57))]) (.seq (.seq (.draw 0 [(O 58 (.fa 0 (T 10)), ⟨0, 0⟩), (O 59 (.ld false 1 (T 58)), ⟨1, 0⟩), (O 60 (.call (toPa 8) [(T 59), (K (.i .i64 6))]), ⟨3, 0⟩), (O 61 (.bin .lss .no (T 60) (K (.i .i64 4))), ⟨0, 1⟩), (O 62 (.mv (T 61)), ⟨0, 1⟩), (G 64 62 true (.fa 1 (T 10)), ⟨0, 1⟩), (G 65 62 true (.ld false 1 (T 64)), ⟨1, 1⟩), (G 66 62 true (.call (toPa 8) [(T 65), (K (.i .i64 2))]), ⟨3, 1⟩), (G 63 62 true (.mv (T 7)), ⟨0, 1⟩), (G 67 62 true (.mv (T 11)), ⟨0, 1⟩), (G 68 62 true (.fa 4 (T 10)), ⟨0, 1⟩), (G 69 62 true (.ld false 1 (T 68)), ⟨1, 1⟩), (G 70 62 true (.call (toPa 9) [(T 63), (T 66), (T 67), (T 69)]), ⟨3, 2⟩), (G 71 62 true (.bin .neq .no (T 70) (K (.i .i64 0))), ⟨0, 3⟩), (O 72 (.pick (T 62) (T 71) (K (.b false))), ⟨0, 3⟩), (O 73 (.mv (T 72)), ⟨0, 3⟩), (G 74 73 false (.fa 0 (T 10)), ⟨0, 3⟩), (G 75 73 false (.ld false 1 (T 74)), ⟨1, 3⟩), (G 76 73 false (.call (toPa 8) [(T 75), (K (.i .i64 6))]), ⟨3, 3⟩), (G 77 73 false (.bin .eql .no (T 76) (K (.i .i64 4))), ⟨0, 4⟩), (G 78 73 false (.mv (T 77)), ⟨0, 4⟩), (G 79 78 true (.mv (T 7)), ⟨0, 4⟩), (G 80 78 true (.call (toPa 13) [(T 79)]), ⟨3, 4⟩), (G 81 78 true (.bin .neq .no (T 80) (K (.i .i64 0))), ⟨0, 5⟩), (G 82 73 false (.pick (T 78) (T 81) (K (.b false))), ⟨0, 5⟩), (O 83 (.pick (T 73) (K (.b true)) (T 82)), ⟨0, 5⟩)]) (.cond (T 83) (.seq (.ops [O 6 (.mv (K (.b false)))]) .ret) .skip)) (.seq (.seq (.ops [O 84 (.fa 0 (T 10)), O 85 (.ld false 1 (T 84)), O 86 (.call (toPa 8) [(T 85), (K (.i .i64 6))]), O 87 (.bin .eql .no (T 86) (K (.i .i64 5)))]) (.cond (T 87) (.ops [O 88 (.mv (T 7)), O 89 (.mv (T 2)), O 90 (.call (toPa 10) [(T 88), (T 89)])]) .skip)) (.seq (.ops [O 92 (.mv (T 7)), O 93 (.mv (T 0)), O 94 (.len false (T 93)), O 95 (.call (toPa 11) [(T 92), (K (.i .i64 1)), (K (.i .i64 500)), (T 94)]), O 91 (.mv (T 95)), O 96 (.ext 0 (T 91)), O 97 (.ext 1 (T 91)), O 12 (.mv (T 96)), O 13 (.mv (T 97))]) (.seq (.ops [O 98 (.mv (T 13)), O 99 (.bin .neq .no (T 98) (K (.i .i64 0))), O 100 (.mv (T 99)), G 101 100 false (.mv (T 12)), G 102 100 false (.b2s (T 101)), G 103 100 false (.mv (T 0)), G 104 100 false (.b2s (T 103)), G 105 100 false (.bin .neq .no (T 102) (T 104)), O 106 (.pick (T 100) (K (.b true)) (T 105))]) (.cond (T 106) (.seq (.ops [O 6 (.mv (K (.b false)))]) .ret) .skip))))))))) (.ops [O 45 (.mv (T 9)), O 46 (.bin .add .no (T 45) (K (.i .i64 1))), O 9 (.mv (T 46))]))))
theorem B5_eq : B5 = (.seq (.ops [O 6 (.mv (K (.b false)))]) (.seq (.seq (.ops [O 14 (.call (toPa 6) []), O 15 (.not (T 14))]) (.cond (T 15) (.seq (.ops [O 6 (.mv (K (.b false)))]) .ret) .skip)) (.seq (.seq (.ops [O 16 (.mv (T 0)), O 17 (.len false (T 16)), O 18 (.bin .gtr .no (T 17) (K (.i .i64 200))), O 19 (.mv (T 18)), G 20 19 false (.mv (T 2)), G 21 19 false (.len false (T 20)), G 22 19 false (.bin .gtr .no (T 21) (K (.i .i64 50))), O 23 (.pick (T 19) (K (.b true)) (T 22))]) (.cond (T 23) (.seq (.ops [O 6 (.mv (K (.b true)))]) .ret) .skip)) (.seq (.ops [O 25 (.call (toPa 7) [(K (.i .i64 1000))]), O 24 (.mv (T 25)), O 26 (.ext 0 (T 24)), O 27 (.ext 1 (T 24)), O 7 (.mv (T 26)), O 8 (.mv (T 27))]) (.seq (.seq (.ops [O 28 (.mv (T 7)), O 29 (.mv (T 0)), O 30 (.call (toPa 9) [(T 28), (K (.i .i64 1)), (K (.i .i64 500)), (T 29)]), O 31 (.bin .neq .no (T 30) (K (.i .i64 0))), O 32 (.mv (T 31)), G 33 32 false (.mv (T 7)), G 34 32 false (.call (toPa 13) [(T 33)]), G 35 32 false (.bin .neq .no (T 34) (K (.i .i64 0))), O 36 (.pick (T 32) (K (.b true)) (T 35))]) (.cond (T 36) (.seq (.ops [O 6 (.mv (K (.b false)))]) .ret) .skip)) (.seq (.seq (.ops [O 9 (.mv (K (.i .i64 0)))]) (.block 0 Lp5)) (.seq (.ops [O 6 (.mv (K (.b true)))]) .ret))))))) := rfl
/-- A call in memory. -/
def CallIn (S : Pa → Prop) (H : Heap) (bs : List AV) : Prop := ∃ (kd ar at_ n : Int) (y p : AV) (s : List UInt8), bs = [.i .i64 kd, .i .i64 ar, .i .i64 at_, .i .i64 n, y, p] ∧ Bys S H y s ∧ oneC p = true
/-- A row of calls. -/
def Cs (S : Pa → Prop) (H : Heap) (x : AV) (m : Nat) : Prop :=
  (x = .ns ∧ m = 0) ∨ ∃ a o c ro fz e size t, x = .sl a o m c 6 ∧ S a ∧ a.toN < H.next.toN ∧ H.get a = .cells ro fz e size t ∧ o + m * 6 ≤ size ∧ ∀ j, j < m → CallIn S H (getCells 6 (o + j * 6) t)
section
variable {S S' : Pa → Prop} {H H' : Heap} {x : AV} {m : Nat}
theorem CallIn.mv {bs : List AV} (h : CallIn S H bs) (hs : ∀ a, S a → a.toN < H.next.toN → S' a ∧ H'.get a = H.get a) (hn : H.next.toN ≤ H'.next.toN) : CallIn S' H' bs := by
  obtain ⟨kd, ar, at_, n, y, p, s, e, h1, h2⟩ := h
  exact ⟨kd, ar, at_, n, y, p, s, e, h1.mv hs hn, h2⟩
theorem Cs.mv (h : Cs S H x m) (hs : ∀ a, S a → a.toN < H.next.toN → S' a ∧ H'.get a = H.get a) (hn : H.next.toN ≤ H'.next.toN) : Cs S' H' x m := by
  obtain h | ⟨a, o, c, ro, fz, e, size, t, h1, h2, h3, h4, h5, h6⟩ := h
  · exact Or.inl h
  · exact Or.inr ⟨a, o, c, ro, fz, e, size, t, h1, (hs a h2 h3).1, by omega, by rw [(hs a h2 h3).2, h4], h5, fun j hj => (h6 j hj).mv hs hn⟩
theorem Cs.len (h : Cs S H x m) : ∀ (R : Type) (k : HK R) (G : Heap), lenC false x k G = k (.i .i64 (m : Int)) G := by
  intro R k G
  obtain ⟨rfl, rfl⟩ | ⟨a, o, c, ro, fz, e, size, t, rfl, _⟩ := h <;> rfl
theorem Cs.at (h : Cs S H x m) {i : Nat} (hi : i < m) : ∃ a o bs, CallIn S H bs ∧ (∀ (R : Type) (k : HK R) (G : Heap), ixaC 6 x (.i .i64 (i : Int)) k G = k (.p a o) G) ∧ a.toN < H.next.toN ∧ ∀ (H' : Heap), H'.get a = H.get a → ∀ (R : Type) (k : HK R), ldC true 6 (.p a o) k H' = k (.ag bs) H' := by
  obtain ⟨rfl, rfl⟩ | ⟨a, o, c, ro, fz, e, size, t, rfl, h2, h3, h4, h5, h6⟩ := h
  · exact absurd hi (Nat.not_lt_zero _)
  · refine ⟨a, o + i * 6, _, h6 i hi, fun R k G => ixa_sl (by omega) (by omega), h3, fun H' hg R k => ?_⟩
    rw [ld_ag (by rw [hg, h4]) (by omega)]
end
theorem call_box {H : Heap} {l : List AV} (hl : l.length = 6) (ho : ∀ v ∈ l, oneC v = true) :
    ∃ H2, Grow H H2 ∧ H.next.toN < H2.next.toN ∧ Row H2 H.next 41 l ∧ ∀ (R : Type) (k : HK R), stC 6 (.p H.next 0) (.ag l) k (H.alloc (.cells false 0 41 6 (setCells [.i .i64 0, .i .i64 0, .i .i64 0, .i .i64 0, .ns, .ns] 0 .leaf))) = k un H2 := by
  have g1 := Grow.alloc H (.cells false 0 41 6 (setCells [.i .i64 0, .i .i64 0, .i .i64 0, .i .i64 0, .ns, .ns] 0 .leaf))
  have n1 := next_alloc H (.cells false 0 41 6 (setCells [.i .i64 0, .i .i64 0, .i .i64 0, .i .i64 0, .ns, .ns] 0 .leaf))
  have r1 : Row (H.alloc (.cells false 0 41 6 (setCells [.i .i64 0, .i .i64 0, .i .i64 0, .i .i64 0, .ns, .ns] 0 .leaf))) H.next 41 [.i .i64 0, .i .i64 0, .i .i64 0, .i .i64 0, .ns, .ns] := Row.new H 41 [.i .i64 0, .i .i64 0, .i .i64 0, .i .i64 0, .ns, .ns]
  obtain ⟨H2, r2, b2, n2, e⟩ := r1.st_all (by omega) hl rfl ho
  exact ⟨H2, b2.of g1 (Nat.le_refl _), by rw [n2]; omega, r2, e⟩
/-- What stands where it was synced. -/
def seg (n : Nat) (st : TS) : List UInt8 := (st.b.drop 500).take n
theorem ov_seg {s t : List UInt8} {i n : Nat} (h : i + t.length ≤ 500) (hl : i + t.length ≤ s.length) : ((ov s i t).drop 500).take n = (s.drop 500).take n := by
  congr 1
  apply List.ext_getElem?
  intro q
  rw [List.getElem?_drop, List.getElem?_drop, ov_get hl, if_neg (by omega), if_neg (by omega)]
def Okw (w : Wr) : Prop := (w.ar = 0 ∨ w.at_ + w.put.length ≤ 500) ∧ w.was.length = w.put.length ∧ w.at_ + w.put.length ≤ 1000
/-- Nothing has touched it. -/
def Stay (a : List UInt8) (st : TS) : Prop := st.b.length = 1000 ∧ seg a.length st = a ∧ ∀ w ∈ st.op, Okw w
theorem lay_seg {st : TS} {i at_ : Nat} {s : List UInt8} {n : Nat} (h : i = 0 ∨ at_ + s.length ≤ 500) (hl : at_ + s.length ≤ 1000) (hb : st.b.length = 1000) : (st.lay i at_ s).b.length = 1000 ∧ seg n (st.lay i at_ s) = seg n st := by
  unfold TS.lay
  by_cases q : i = 0
  · rw [if_pos q]; exact ⟨hb, rfl⟩
  · rw [if_neg q]
    have h := h.resolve_left q
    exact ⟨(ov_len (by omega)).trans hb, ov_seg h (by omega)⟩
theorem undo_seg {n : Nat} : ∀ (l : List Wr) (st : TS), (∀ w ∈ l, Okw w) → st.b.length = 1000 → (TS.undo l st).b.length = 1000 ∧ seg n (TS.undo l st) = seg n st
  | [], st, _, hb => ⟨hb, rfl⟩
  | w :: l, st, h, hb => by
    obtain ⟨h1, h2⟩ := undo_seg (n := n) l st (fun x hx => h x (List.mem_cons_of_mem _ hx)) hb
    obtain ⟨k1, k2, k3⟩ := h w (List.mem_cons_self ..)
    obtain ⟨q1, q2⟩ := lay_seg (st := TS.undo l st) (i := w.ar) (at_ := w.at_) (s := w.was) (n := n) (by rw [k2]; exact k1) (by rw [k2]; exact k3) h1
    exact ⟨q1, q2.trans h2⟩
theorem redo_seg {n : Nat} {zs : List Int} : ∀ (l : List Wr) (i : Nat) (st : TS), (∀ w ∈ l, Okw w) → st.b.length = 1000 → (TS.redo zs l i st).b.length = 1000 ∧ seg n (TS.redo zs l i st) = seg n st
  | [], _, st, _, hb => ⟨hb, rfl⟩
  | w :: l, i, st, h, hb => by
    obtain ⟨k1, k2, k3⟩ := h w (List.mem_cons_self ..)
    have hpl := pkk_le (zs := zs) (i := i) (n := w.put.length)
    have hpl2 : (w.put.take (pkk zs i w.put.length)).length ≤ w.put.length := by rw [List.length_take]; omega
    obtain ⟨q1, q2⟩ := lay_seg (st := st) (i := w.ar) (at_ := w.at_) (s := w.put.take (pkk zs i w.put.length)) (n := n) (k1.imp id fun k1 => by omega) (by omega) hb
    obtain ⟨h1, h2⟩ := redo_seg (n := n) (zs := zs) l (i + 1) _ (fun x hx => h x (List.mem_cons_of_mem _ hx)) q1
    exact ⟨h1, h2.trans q2⟩
theorem Stay.crash {a : List UInt8} {st : TS} (h : Stay a st) (zs : List Int) : Stay a (st.crash zs) := by
  obtain ⟨h1, h2, h3⟩ := h
  obtain ⟨u1, u2⟩ := undo_seg (n := a.length) st.op st h3 h1
  obtain ⟨r1, r2⟩ := redo_seg (n := a.length) (zs := zs) st.op 0 _ h3 u1
  exact ⟨r1, (r2.trans u2).trans h2, fun w hw => by cases hw⟩
theorem Stay.sync {a : List UInt8} {st : TS} (h : Stay a st) {n : Nat} : Stay a { st with op := [], n := n } := ⟨h.1, h.2.1, fun w hw => by cases hw⟩
theorem write_op {st : TS} {i at_ : Nat} {s : List UInt8} : (st.write i at_ s).op = st.op ++ [⟨i, at_, s, ((st.get i).drop at_).take s.length⟩] ∧ (st.write i at_ s).n = st.n + 1 := by
  unfold TS.write
  exact ⟨lay_op.1, lay_op.2⟩
theorem Stay.write {a : List UInt8} {st : TS} (h : Stay a st) {i at_ : Nat} {s : List UInt8} (hg : (st.get i).length = 1000) (hs : at_ + s.length ≤ 500) : Stay a (st.write i at_ s) := by
  obtain ⟨h1, h2, h3⟩ := h
  obtain ⟨q1, q2⟩ := lay_seg (st := { st with op := st.op ++ [⟨i, at_, s, ((st.get i).drop at_).take s.length⟩], n := st.n + 1 }) (i := i) (at_ := at_) (s := s) (n := a.length) (Or.inr hs) (by omega) h1
  refine ⟨q1, q2.trans h2, fun w hw => ?_⟩
  rw [write_op.1] at hw
  rcases List.mem_append.mp hw with hw | hw
  · exact h3 w hw
  · rw [List.mem_singleton] at hw
    subst hw
    exact ⟨Or.inr hs, (by show (((st.get i).drop at_).take s.length).length = s.length; rw [List.length_take, List.length_drop]; omega), (by show at_ + s.length ≤ 1000; omega)⟩
/-- What stands in the slots while the law's loop runs. -/
structure F5 (y c pv p : AV) (i : Nat) (fr : Tr AV) : Prop where
  f0 : V fr 0 = y
  f1 : V fr 1 = c
  f2 : V fr 2 = pv
  f7 : V fr 7 = p
  f9 : V fr 9 = .i .i64 (i : Int)
/-- What stands in memory while it runs. -/
structure I5 (D : TD) (y c pv : AV) (a : List UInt8) (m : Nat) (zs : List Int) (i : Nat) (G : Heap) : Prop where
  rm : D.room = 1000
  la : a.length ≤ 200
  hy : Bys (Bl D.n0) G y a
  hc : Cs (Bl D.n0) G c m
  hz : Zs (Bl D.n0) G pv zs
  st : ∃ x L st, Tp D G x L st ∧ st.op.length ≤ i ∧ st.n ≤ i + 10 ∧ Stay a st
section
variable {D : TD} {y c pv : AV} {a : List UInt8} {m : Nat} {zs : List Int} {i : Nat} {G G' : Heap}
theorem I5.of (I : I5 D y c pv a m zs i G) {j : Nat} (hlow : ∀ b : Pa, b.toN < D.n0 → b.toN < G.next.toN → G'.get b = G.get b) (hn : G.next.toN ≤ G'.next.toN) (h : ∃ x L st, Tp D G' x L st ∧ st.op.length ≤ j ∧ st.n ≤ j + 10 ∧ Stay a st) : I5 D y c pv a m zs j G' :=
  have mv : ∀ b, Bl D.n0 b → b.toN < G.next.toN → Bl D.n0 b ∧ G'.get b = G.get b := fun b hb hb2 => ⟨hb, hlow b hb hb2⟩
  ⟨I.rm, I.la, I.hy.mv mv hn, I.hc.mv mv hn, I.hz.mv mv hn, h⟩
theorem e8_of {z n : Int} (hn : 0 < n) (hb : n ≤ 9223372036854775807) : ∃ k : Nat, (k : Int) = z % n ∧ (k : Int) < n ∧ ∀ (M : Nat), 20 ≤ M → ∀ (R : Type) (c : HK R) (G : Heap), callK tbl (runK tbl M) R (toPa 8) [.i .i64 z, .i .i64 n] G c = c (.i .i64 (k : Int)) G := by
  obtain ⟨k, hk⟩ := Int.eq_ofNat_of_zero_le (Int.emod_nonneg z (show n ≠ 0 by omega))
  have := Int.emod_lt_of_pos z hn
  exact ⟨k, hk.symm, by omega, fun M hM R c G => by rw [s8 hn hb hM, hk]⟩
theorem redo_op {zs : List Int} : ∀ {l : List Wr} {i : Nat} {st : TS}, (TS.redo zs l i st).n = st.n
  | [], _, _ => rfl
  | w :: l, i, st => (redo_op (l := l)).trans lay_op.2
theorem stay_round (hi : i < m) (hi2 : i < 30) (I : I5 D y c pv a m zs i G) :
    ∃ G', I5 D y c pv a m zs (i + 1) G' ∧ ∀ fr, F5 y c pv (.p D.p 0) i fr → ∀ M, 3000 ≤ M → ∀ (R : Type) (kk : XK R) (res : Option R),
      (∀ fr', F5 y c pv (.p D.p 0) (i + 1) fr' → runK tbl M R Lp5 fr' G' kk = res) → runK tbl (M + 1) R Lp5 fr G kk = res := by
  obtain ⟨x, L, st, T, hop, hn, hst⟩ := I.st
  obtain ⟨ca, co, bs, ⟨kd, ar, at_, n, yB, yP, s, rfl, hyB, hyP⟩, eix, hca, eld⟩ := I.hc.at hi
  have eld := eld G rfl
  have o2 := T.o2
  have o3 := T.o3
  have o4 := T.o4
  have o1 := T.o1
  have hrm := I.rm
  have hr : D.room ≤ 1000000 := by omega
  have hlt : (i : Int) < (m : Int) := by omega
  have hlt2 : (i : Int) < 30 := by omega
  have hinc := inc_i (i := i) (by omega)
  obtain ⟨H2, g2, n2, r2, est⟩ := call_box (H := G) (l := [.i .i64 kd, .i .i64 ar, .i .i64 at_, .i .i64 n, yB, yP]) rfl (by
    intro v hv
    simp only [List.mem_cons, List.not_mem_nil, or_false] at hv
    rcases hv with rfl | rfl | rfl | rfl | rfl | rfl
    · exact one_i
    · exact one_i
    · exact one_i
    · exact one_i
    · exact hyB.cell.1
    · exact hyP)
  have T2 := T.grow g2
  have l0 := r2.l 0 (v := .i .i64 kd) rfl
  have l1 := r2.l 1 (v := .i .i64 ar) rfl
  have l2 := r2.l 2 (v := .i .i64 at_) rfl
  have l4 := r2.l 4 (v := yB) rfl
  have hxG : Off x G.next := T.xoff (.inr (Nat.le_refl _))
  by_cases hsl : s.length ≤ 200
  · have hsl1 : ¬ ((200 : Int) < (s.length : Int)) := by omega
    obtain ⟨k, hk1, hk, e300⟩ := e8_of (z := at_) (n := 300) (by decide) (by decide)
    obtain ⟨q, hq1, hq, e6⟩ := e8_of (z := kd) (n := 6) (by decide) (by decide)
    obtain ⟨r, hr1, hr2, e2⟩ := e8_of (z := ar) (n := 2) (by decide) (by decide)
    -- what comes behind the writing: the crash is told apart
    have fin : ∀ (H3 : Heap) (x3 : AV) (L3 : List AV) (st3 : TS), Tp D H3 x3 L3 st3 → st3.op.length ≤ i + 1 → st3.n ≤ i + 1 + 10 → Stay a st3 → (∀ b : Pa, b.toN < D.n0 → b.toN < G.next.toN → H3.get b = G.get b) → G.next.toN ≤ H3.next.toN →
        ∃ G' z, I5 D y c pv a m zs (i + 1) G' ∧ (∀ (M : Nat), 100 ≤ M → ∀ (R : Type) (k : HK R), callK tbl (runK tbl M) R (toPa 11) [.p D.p 0, .i .i64 1, .i .i64 500, .i .i64 (a.length : Int)] H3 k = k (.tu [z, .i .i64 0]) G') ∧ (∀ (R : Type) (k : HK R), b2sC z k G' = k (str a) G') ∧ (∀ (R : Type) (k : HK R), b2sC y k G' = k (str a) G') := by
      intro H3 x3 L3 st3 T3 h1 h2 h3 hlow hnx
      have la := I.la
      obtain ⟨G', z, g', hz, e11⟩ := s11 (i := 1) (at_ := 500) (n := a.length) T3 hr (by decide) (by omega)
      have hseg : ((st3.get 1).drop 500).take a.length = a := h3.2.1
      rw [hseg] at hz
      have J : I5 D y c pv a m zs (i + 1) G' := I.of (fun b hb hb2 => by rw [g'.get b (by omega), hlow b hb hb2]) (by have := g'.next; omega) ⟨x3, L3, st3, T3.grow g', h1, h2, h3⟩
      exact ⟨G', z, J, e11, hz.b2s, J.hy.b2s⟩
    by_cases hq4 : (q : Int) < 4
    · -- a write
      have hyB2 : Bys (fun a => a ≠ D.p ∧ Off x a) H2 yB s := hyB.mv (fun b hb hb2 => ⟨⟨(by intro w; rw [w] at hb; have hb : D.p.toN < D.n0 := hb; omega), T.xoff (.inl (by have hb : b.toN < D.n0 := hb; omega))⟩, g2.get b hb2⟩) (by omega)
      obtain ⟨H3, x3, L3, T3, k3, f3, e9⟩ := s9 (i := r) (at_ := k) T2 hr (by omega) (by omega) (by omega) (by omega) hyB2
      have low3 : ∀ b : Pa, b.toN < D.n0 → b.toN < G.next.toN → H3.get b = G.get b := fun b hb hb2 => by rw [k3.low T2 hb, g2.get b hb2]
      have hn3 := k3.next
      have hgl := T.get_len r
      obtain ⟨G', z, J, e11, bz, by_⟩ := fin H3 x3 L3 _ T3 (by rw [write_op.1, List.length_append, List.length_singleton]; omega) (by rw [write_op.2]; omega) (hst.write (by omega) (by omega)) low3 (by omega)
      have r3 := k3.row r2 n2 (by omega) hxG T2
      have l0' := r3.l 0 (v := .i .i64 kd) rfl
      have hne4 : ((q : Int) = 4) = False := eq_false (by omega)
      have hne5 : ((q : Int) = 5) = False := eq_false (by omega)
      refine ⟨G', J, fun fr f M hM R kk res hres => ?_⟩
      obtain ⟨M, rfl⟩ : ∃ q, M = q + 3000 := ⟨M - 3000, by omega⟩
      unfold Lp5
      rw [run_loop]
      simp only [EX, reduceIte, Nat.reduceEqDiff, Nat.reduceAdd, Int.reduceEq, Int.reduceLT, Int.reduceLE, reduceCtorEq, Nat.reduceLeDiff, Nat.reduceSub, Nat.reduceLT, f.f0, f.f1, f.f2, f.f7, f.f9, I.hc.len, hlt, hlt2, eix, eld, est, l0, l1, l2, l4, l0', hyB.len, hyB.cell.2.2, hsl1, e300 _ (Nat.le_add_left 20 _), e6 _ (Nat.le_add_left 20 _), e2 _ (Nat.le_add_left 20 _), hq4, e9 _ (Nat.le_add_left 200 _), hne4, hne5, I.hy.len, e11 _ (Nat.le_add_left 100 _), bz, by_, s_neq, i_add, hinc]
      refine hres _ ⟨?_, ?_, ?_, ?_, ?_⟩
      all_goals simp only [V_S, Nat.reduceEqDiff, reduceIte]
      all_goals first | exact f.f0 | exact f.f1 | exact f.f2 | exact f.f7
    · by_cases hq4e : (q : Int) = 4
      · -- synced
        obtain ⟨H3, T3, g3, n3, e13⟩ := s13 T2 (by omega)
        have low3 : ∀ b : Pa, b.toN < D.n0 → b.toN < G.next.toN → H3.get b = G.get b := fun b hb hb2 => by rw [g3.get b (by omega) (by intro w; rw [w] at hb; omega), g2.get b hb2]
        obtain ⟨G', z, J, e11, bz, by_⟩ := fin H3 .ns [] _ T3 (Nat.zero_le _) (by show st.n + 1 ≤ _; omega) hst.sync low3 (by rw [n3]; omega)
        have r3 := r2.but g3 n2 (by intro w; rw [← w] at o2; omega)
        have l0' := r3.l 0 (v := .i .i64 kd) rfl
        rw [hq4e] at e6 hq4
        refine ⟨G', J, fun fr f M hM R kk res hres => ?_⟩
        obtain ⟨M, rfl⟩ : ∃ q, M = q + 3000 := ⟨M - 3000, by omega⟩
        unfold Lp5
        rw [run_loop]
        simp only [EX, reduceIte, Nat.reduceEqDiff, Nat.reduceAdd, Int.reduceEq, Int.reduceLT, Int.reduceLE, reduceCtorEq, Nat.reduceLeDiff, Nat.reduceSub, Nat.reduceLT, f.f0, f.f1, f.f2, f.f7, f.f9, I.hc.len, hlt, hlt2, eix, eld, est, l0, l1, l2, l4, l0', hyB.len, hyB.cell.2.2, hsl1, e300 _ (Nat.le_add_left 20 _), e6 _ (Nat.le_add_left 20 _), e13 _ (Nat.le_add_left 100 _), I.hy.len, e11 _ (Nat.le_add_left 100 _), bz, by_, s_neq, i_add, hinc]
        refine hres _ ⟨?_, ?_, ?_, ?_, ?_⟩
        all_goals simp only [V_S, Nat.reduceEqDiff, reduceIte]
        all_goals first | exact f.f0 | exact f.f1 | exact f.f2 | exact f.f7
      · -- a crash
        have hq5 : (q : Int) = 5 := by omega
        obtain ⟨H3, T3, k3, e10⟩ := s10 T2 (by omega) (by omega) (zs := zs) (pv := pv) (I.hz.mv (fun b hb hb2 => ⟨T2.low hb, g2.get b hb2⟩) (by omega))
        have low3 : ∀ b : Pa, b.toN < D.n0 → b.toN < G.next.toN → H3.get b = G.get b := fun b hb hb2 => by rw [k3.low T2 hb, g2.get b hb2]
        have hn3 := k3.next
        have hcn : (st.crash zs).n = st.n := (redo_op (l := st.op) (i := 0)).trans undo_op.2
        obtain ⟨G', z, J, e11, bz, by_⟩ := fin H3 .ns [] _ T3 (Nat.zero_le _) (by rw [hcn]; omega) (hst.crash zs) low3 (by omega)
        rw [hq5] at e6
        refine ⟨G', J, fun fr f M hM R kk res hres => ?_⟩
        obtain ⟨M, rfl⟩ : ∃ q, M = q + 3000 := ⟨M - 3000, by omega⟩
        unfold Lp5
        rw [run_loop]
        simp only [EX, reduceIte, Nat.reduceEqDiff, Nat.reduceAdd, Int.reduceEq, Int.reduceLT, Int.reduceLE, reduceCtorEq, Nat.reduceLeDiff, Nat.reduceSub, Nat.reduceLT, f.f0, f.f1, f.f2, f.f7, f.f9, I.hc.len, hlt, hlt2, eix, eld, est, l0, l1, l2, l4, hyB.len, hyB.cell.2.2, hsl1, e300 _ (Nat.le_add_left 20 _), e6 _ (Nat.le_add_left 20 _), e10 _ (Nat.le_add_left 2000 _), I.hy.len, e11 _ (Nat.le_add_left 100 _), bz, by_, s_neq, i_add, hinc]
        refine hres _ ⟨?_, ?_, ?_, ?_, ?_⟩
        all_goals simp only [V_S, Nat.reduceEqDiff, reduceIte]
        all_goals first | exact f.f0 | exact f.f1 | exact f.f2 | exact f.f7
  · have hsl1 : (200 : Int) < (s.length : Int) := by omega
    refine ⟨H2, I.of (fun b hb hb2 => g2.get b hb2) (by omega) ⟨x, L, st, T2, by omega, by omega, hst⟩, fun fr f M hM R kk res hres => ?_⟩
    obtain ⟨M, rfl⟩ : ∃ q, M = q + 3000 := ⟨M - 3000, by omega⟩
    unfold Lp5
    rw [run_loop]
    simp only [EX, reduceIte, Nat.reduceEqDiff, Nat.reduceAdd, Int.reduceEq, Int.reduceLT, Int.reduceLE, reduceCtorEq, Nat.reduceLeDiff, Nat.reduceSub, Nat.reduceLT, f.f0, f.f1, f.f2, f.f7, f.f9, I.hc.len, hlt, hlt2, eix, eld, est, l4, hyB.len, hsl1, i_add, hinc]
    refine hres _ ⟨?_, ?_, ?_, ?_, ?_⟩
    all_goals simp only [V_S, Nat.reduceEqDiff, reduceIte]
    all_goals first | exact f.f0 | exact f.f1 | exact f.f2 | exact f.f7
end
end Go.Proofs.Ytnbjicanbihgnaa

/- What is handed to the laws of a tape, laid as blocks that are read alone. -/
namespace Go.Proofs.Ytnbjicanbihgnaa
open Go Go.Vai
set_option maxRecDepth 100000
set_option maxHeartbeats 1600000
set_option linter.unusedSimpArgs false
theorem cells3 : Try.prog.cellsOf 3 = 1 := by kernel_rfl
theorem cells5 : Try.prog.cellsOf 5 = 1 := by kernel_rfl
theorem cells22 : Try.prog.cellsOf 22 = 1 := by kernel_rfl
theorem cells23 : Try.prog.cellsOf 23 = 1 := by kernel_rfl
theorem cells41 : Try.prog.cellsOf 41 = 6 := by kernel_rfl
section
variable {HT : Type} {enc : TypeId × Value → HT} {W : World} {sp : Nat → Bool}
/-- What is had when some of the input is laid. -/
structure Laid (W : World) (ng : Nat) (ι ι' : Emb) (H H' : Heap) : Prop where
  ext : Ext ι ι'
  g : Grow H H'
  nw : NoWr H'
  r : Rel (keepAll W) ng ι' H' W.heap
theorem Laid.refl {ng : Nat} {ι : Emb} {H : Heap} (R : Rel (keepAll W) ng ι H W.heap) (hw : NoWr H) : Laid W ng ι ι H H := ⟨Ext.refl _, Grow.refl _, hw, R⟩
theorem Laid.trans {ng : Nat} {ι ι' ι'' : Emb} {H H' H'' : Heap} (h : Laid W ng ι ι' H H') (h' : Laid W ng ι' ι'' H' H'') : Laid W ng ι ι'' H H'' := ⟨h.ext.trans h'.ext, h.g.trans h'.g, h'.nw, h'.r⟩
def SomeCells (W : World) : Prop := ∃ (b e : Nat) (cs : Array Value) (f : Nat × Nat), W.heap[b]? = some (.cells cs e f)
/-- All places of a slice that is read, its spare ones too. -/
theorem all_read {e : TypeId} {a : Addr} {len cap n : Nat} {elems rest : List (DataW HT × List MemPlace)} (hl : elems.length = len)
    (h1 : ∀ i, i < len → (W.cells? 0 (a.add (i * Try.prog.cellsOf e)) (Try.prog.cellsOf e)).bind (DataW.trod enc Try.prog W 0 (fun _ => true) true n e) = elems[i]?)
    (h2 : rest.length = cap - len ∧ ∀ j, j < cap - len → (W.cells? 0 (a.add ((len + j) * Try.prog.cellsOf e)) (Try.prog.cellsOf e)).bind (DataW.trod enc Try.prog W 0 (fun _ => true) true n e) = rest[j]?) :
    (∀ i, i < cap → ∃ l, W.cells? 0 (a.add (i * Try.prog.cellsOf e)) (Try.prog.cellsOf e) = some l) ∧ ∀ i, i < len → ∃ l x, W.cells? 0 (a.add (i * Try.prog.cellsOf e)) (Try.prog.cellsOf e) = some l ∧ DataW.trod enc Try.prog W 0 (fun _ => true) true n e l = some x := by
  have q1 : ∀ i, i < len → ∃ l x, W.cells? 0 (a.add (i * Try.prog.cellsOf e)) (Try.prog.cellsOf e) = some l ∧ DataW.trod enc Try.prog W 0 (fun _ => true) true n e l = some x := by
    intro i hi
    have := h1 i hi
    rw [List.getElem?_eq_getElem (by omega), Option.bind_eq_some_iff] at this
    obtain ⟨l, e1, e2⟩ := this
    exact ⟨l, _, e1, e2⟩
  refine ⟨fun i hi => ?_, q1⟩
  by_cases hlt : i < len
  · obtain ⟨l, x, e1, _⟩ := q1 i hlt; exact ⟨l, e1⟩
  · have := h2.2 (i - len) (by omega)
    rw [show len + (i - len) = i by omega, List.getElem?_eq_getElem (by omega), Option.bind_eq_some_iff] at this
    obtain ⟨l, e1, _⟩ := this
    exact ⟨l, e1⟩
/-- Numbers. -/
theorem ints_of {n : Nat} : ∀ (ls : List (List Value)), (∀ l ∈ ls, ∃ x, DataW.trod enc Try.prog W 0 (fun _ => true) true n 3 l = some x) → ∃ zs : List Int, zs.length = ls.length ∧ ∀ (i : Nat) (l : List Value), ls[i]? = some l → ∃ z, zs[i]? = some z ∧ l = [Value.int .i64 z]
  | [], _ => ⟨[], rfl, fun i l h => by cases h⟩
  | l :: ls, h => by
    obtain ⟨zs, h1, h2⟩ := ints_of ls fun x hx => h x (List.mem_cons_of_mem _ hx)
    obtain ⟨x, hx⟩ := h l (List.mem_cons_self ..)
    obtain ⟨z, hz, _⟩ := DataW.trod_int Try.underlying3 hx
    refine ⟨z :: zs, by rw [List.length_cons, List.length_cons, h1], fun i l' hi => ?_⟩
    cases i with
    | zero => cases hi; exact ⟨z, rfl, hz⟩
    | succ i => exact h2 i l' hi
/-- The places' cells, in a list. -/
theorem list_of {n : Nat} {f : Nat → Option (List Value)} (h : ∀ i, i < n → ∃ l, f i = some l) : ∃ ls : List (List Value), ls.length = n ∧ ∀ (i : Nat) (l : List Value), i < n → f i = some l → ls[i]? = some l := by
  refine ⟨(List.range n).map fun i => (f i).getD [], by rw [List.length_map, List.length_range], fun i l hi hf => ?_⟩
  rw [List.getElem?_map, List.getElem?_range hi]
  show some ((f i).getD []) = some l
  rw [hf]; rfl
theorem lit_u8 {n : Int} (h : (Lit.int .u8 n).wf = true) : 0 ≤ n ∧ n ≤ 255 := by
  have h : (decide (IntKind.u8.min ≤ n) && decide (n ≤ IntKind.u8.max)) = true := h
  rw [Bool.and_eq_true, decide_eq_true_eq, decide_eq_true_eq] at h
  have h1 : (0 : Int) ≤ n := h.1
  have h2 : n ≤ (255 : Int) := h.2
  exact ⟨h1, h2⟩
/-- Bytes. -/
theorem bytes_of {n : Nat} : ∀ (ls : List (List Value)), (∀ l ∈ ls, ∃ x, DataW.trod enc Try.prog W 0 (fun _ => true) true n 5 l = some x) → ∃ bs : List UInt8, bs.length = ls.length ∧ ∀ (i : Nat) (l : List Value), ls[i]? = some l → ∃ b : UInt8, bs[i]? = some b ∧ l = [Value.int .u8 (b.toNat : Int)]
  | [], _ => ⟨[], rfl, fun i l h => by cases h⟩
  | l :: ls, h => by
    obtain ⟨bs, h1, h2⟩ := bytes_of ls fun x hx => h x (List.mem_cons_of_mem _ hx)
    obtain ⟨x, hx⟩ := h l (List.mem_cons_self ..)
    obtain ⟨z, hz, _, hw⟩ := DataW.trod_int Try.underlying5 hx
    obtain ⟨w1, w2⟩ := lit_u8 hw
    refine ⟨UInt8.ofNat z.toNat :: bs, by rw [List.length_cons, List.length_cons, h1], fun i l' hi => ?_⟩
    cases i with
    | zero =>
      cases hi
      have e : (((UInt8.ofNat z.toNat).toNat : Nat) : Int) = z := by
        rw [UInt8.toNat_ofNat', Nat.mod_eq_of_lt (by omega)]; omega
      exact ⟨_, rfl, by rw [e]; exact hz⟩
    | succ i => exact h2 i l' hi
def OrCells (W : World) (cs : List Value) : Prop := cs = [.slice none 0 0] ∨ SomeCells W
theorem OrCells.get {cs : List Value} (h : OrCells W cs) {a : Addr} {l c : Nat} (e : cs = [.slice (some a) l c]) : SomeCells W := h.resolve_left (by rw [e]; intro q; cases q)
theorem ints_in {ng fuel : Nat} {cs : List Value} {x : DataW HT × List MemPlace} (h : DataW.trod enc Try.prog W 0 (fun _ => true) true fuel 23 cs = some x) (hk : OrCells W cs) {ι : Emb} {H : Heap} (R : Rel (keepAll W) ng ι H W.heap) (hw : NoWr H) :
    ∃ (H' : Heap) (ι' : Emb) (xs : AV) (v : Value) (s : List Int), Laid W ng ι ι' H H' ∧ cs = [v] ∧ VR ι' xs v ∧ Zs Any H' xs s ∧ oneC xs = true := by
  rcases DataW.trod_slice Try.underlying23 h with ⟨hc, _⟩ | ⟨a, len, cap, elems, rest, n, _, hc, _, _, hlc, _, hl, h1, h2, _⟩
  · exact ⟨H, ι, .ns, _, [], Laid.refl R hw, hc, rfl, Or.inl ⟨rfl, rfl⟩, rfl⟩
  · have hk := hk.get hc
    obtain ⟨r1, r2⟩ := all_read hl h1 (h2 rfl)
    rw [cells3] at r1 r2
    obtain ⟨ls, k1, k2⟩ := list_of (n := len) fun i hi => by obtain ⟨l, x, e1, _⟩ := r2 i hi; exact ⟨l, e1⟩
    obtain ⟨zs, z1, z2⟩ := ints_of (n := n) (enc := enc) (W := W) ls fun l hl2 => by
      obtain ⟨i, hi⟩ := List.mem_iff_getElem?.mp hl2
      have hil : i < len := by rw [← k1]; exact (List.getElem?_eq_some_iff.mp hi).1
      obtain ⟨l', x, e1, e2⟩ := r2 i hil
      have := k2 i l' hil e1
      rw [this] at hi; cases hi
      exact ⟨x, e2⟩
    have zz := fun (l : List AV) (hl3 : l ∈ zs.map fun z => ([.i .i64 z] : List AV)) => (show l.length = 1 by obtain ⟨z, _, rfl⟩ := List.mem_map.mp hl3; rfl)
    have hzl : (zs.map fun z => ([.i .i64 z] : List AV)).length = len := by rw [List.length_map, z1, k1]
    obtain ⟨ι', x1, x2, x3, x4⟩ := R.slice hw hk (z := 1) (by decide) hlc r1 (ass := zs.map fun z => [.i .i64 z]) hzl (fun i l bs hi hl3 hb => by
      obtain ⟨z, e1, e2⟩ := z2 i l (k2 i l hi hl3)
      rw [List.getElem?_map, e1] at hb
      cases hb
      subst e2
      exact ⟨_, [], rfl, rfl, rfl⟩) zz
    obtain ⟨f1, f2⟩ := flat_at zz
    have hnx := next_alloc H (.cells true 0 0 (zs.map fun z => ([.i .i64 z] : List AV)).flatten.length (setCells (zs.map fun z => ([.i .i64 z] : List AV)).flatten 0 .leaf))
    refine ⟨_, ι', _, _, zs, ⟨x1, Grow.alloc H _, x2, x3⟩, hc, x4, Or.inr ⟨H.next, 0, none, true, 0, 0, _, _, by rw [z1, k1], trivial, by omega, get_alloc H _, by rw [f1, hzl, z1, k1]; omega, fun j hj => ?_⟩, one_sl⟩
    rw [Nat.zero_add, cell_at]
    have := f2 j 0 (by decide)
    rw [Nat.mul_one, Nat.add_zero, List.getElem?_map] at this
    rw [this, List.getElem?_eq_getElem hj]; rfl
theorem bytes_in {ng fuel : Nat} {cs : List Value} {x : DataW HT × List MemPlace} (h : DataW.trod enc Try.prog W 0 (fun _ => true) true fuel 22 cs = some x) (hk : OrCells W cs) {ι : Emb} {H : Heap} (R : Rel (keepAll W) ng ι H W.heap) (hw : NoWr H) :
    ∃ (H' : Heap) (ι' : Emb) (xs : AV) (v : Value) (s : List UInt8), Laid W ng ι ι' H H' ∧ cs = [v] ∧ VR ι' xs v ∧ Bys Any H' xs s ∧ (s.length = 0 ∨ ∃ el sp, x.1 = .slice el sp ∧ s.length = el.length) := by
  rcases DataW.trod_slice Try.underlying22 h with ⟨hc, _⟩ | ⟨a, len, cap, elems, rest, n, _, hc, hx, _, hlc, _, hl, h1, h2, _⟩
  · exact ⟨H, ι, .ns, _, [], Laid.refl R hw, hc, rfl, Or.inl ⟨rfl, rfl⟩, Or.inl rfl⟩
  · have hk := hk.get hc
    obtain ⟨r1, r2⟩ := all_read hl h1 (h2 rfl)
    rw [cells5] at r1 r2
    obtain ⟨ls, k1, k2⟩ := list_of (n := len) fun i hi => by obtain ⟨l, x, e1, _⟩ := r2 i hi; exact ⟨l, e1⟩
    obtain ⟨zs, z1, z2⟩ := bytes_of (n := n) (enc := enc) (W := W) ls fun l hl2 => by
      obtain ⟨i, hi⟩ := List.mem_iff_getElem?.mp hl2
      have hil : i < len := by rw [← k1]; exact (List.getElem?_eq_some_iff.mp hi).1
      obtain ⟨l', x, e1, e2⟩ := r2 i hil
      have := k2 i l' hil e1
      rw [this] at hi; cases hi
      exact ⟨x, e2⟩
    have zz := fun (l : List AV) (hl3 : l ∈ zs.map fun z => ([.i .u8 (z.toNat : Int)] : List AV)) => (show l.length = 1 by obtain ⟨z, _, rfl⟩ := List.mem_map.mp hl3; rfl)
    have hzl : (zs.map fun z => ([.i .u8 (z.toNat : Int)] : List AV)).length = len := by rw [List.length_map, z1, k1]
    obtain ⟨ι', x1, x2, x3, x4⟩ := R.slice hw hk (z := 1) (by decide) hlc r1 (ass := zs.map fun z => [.i .u8 (z.toNat : Int)]) hzl (fun i l bs hi hl3 hb => by
      obtain ⟨z, e1, e2⟩ := z2 i l (k2 i l hi hl3)
      rw [List.getElem?_map, e1] at hb
      cases hb
      subst e2
      exact ⟨_, [], rfl, rfl, rfl⟩) zz
    obtain ⟨f1, f2⟩ := flat_at zz
    have hnx := next_alloc H (.cells true 0 0 (zs.map fun z => ([.i .u8 (z.toNat : Int)] : List AV)).flatten.length (setCells (zs.map fun z => ([.i .u8 (z.toNat : Int)] : List AV)).flatten 0 .leaf))
    refine ⟨_, ι', _, _, zs, ⟨x1, Grow.alloc H _, x2, x3⟩, hc, x4, Or.inr ⟨H.next, 0, none, true, 0, 0, _, _, by rw [z1, k1], trivial, by omega, get_alloc H _, by rw [f1, hzl, z1, k1]; omega, (fun k q => by cases q), fun j hj => ?_⟩, Or.inr ⟨_, _, (by rw [hx]), by rw [List.length_map, hl, z1, k1]⟩⟩
    rw [Nat.zero_add, cell_at]
    have := f2 j 0 (by decide)
    rw [Nat.mul_one, Nat.add_zero, List.getElem?_map] at this
    rw [this, List.getElem?_eq_getElem hj]; rfl
theorem in41 (hk : SomeCells W) {ng : Nat} (n0 : Nat) (cs : List Value) (x : DataW HT × List MemPlace) (h : DataW.trod enc Try.prog W 0 (fun _ => true) true n0 41 cs = some x) (ι : Emb) (H : Heap) (R : Rel (keepAll W) ng ι H W.heap) (hw : NoWr H) :
    ∃ (H' : Heap) (ι' : Emb) (bs : List AV), Laid W ng ι ι' H H' ∧ VRs ι' bs cs ∧ CallIn Any H' bs := by
  obtain ⟨xs, n, hfn, _, hcl, hxl, hf⟩ := DataW.trod_struct Try.underlying41 h
  rw [cells41] at hcl
  obtain ⟨c0, c1, c2, c3, c4, c5, rfl⟩ : ∃ c0 c1 c2 c3 c4 c5, cs = [c0, c1, c2, c3, c4, c5] := by
    match cs, hcl with
    | [c0, c1, c2, c3, c4, c5], _ => exact ⟨c0, c1, c2, c3, c4, c5, rfl⟩
  have hx6 : xs.length = 6 := hxl
  have f0 := hf 0 _ rfl
  have f1 := hf 1 _ rfl
  have f2 := hf 2 _ rfl
  have f3 := hf 3 _ rfl
  have f4 := hf 4 _ rfl
  have f5 := hf 5 _ rfl
  rw [List.getElem?_eq_getElem (by omega)] at f0 f1 f2 f3 f4 f5
  have f0 : DataW.trod enc Try.prog W 0 (fun _ => true) true n 3 (([c0, c1, c2, c3, c4, c5].drop 0).take (Try.prog.cellsOf 3)) = _ := f0
  have f1 : DataW.trod enc Try.prog W 0 (fun _ => true) true n 3 (([c0, c1, c2, c3, c4, c5].drop 1).take (Try.prog.cellsOf 3)) = _ := f1
  have f2 : DataW.trod enc Try.prog W 0 (fun _ => true) true n 3 (([c0, c1, c2, c3, c4, c5].drop 2).take (Try.prog.cellsOf 3)) = _ := f2
  have f3 : DataW.trod enc Try.prog W 0 (fun _ => true) true n 3 (([c0, c1, c2, c3, c4, c5].drop 3).take (Try.prog.cellsOf 3)) = _ := f3
  have f4 : DataW.trod enc Try.prog W 0 (fun _ => true) true n 22 (([c0, c1, c2, c3, c4, c5].drop 4).take (Try.prog.cellsOf 22)) = _ := f4
  have f5 : DataW.trod enc Try.prog W 0 (fun _ => true) true n 23 (([c0, c1, c2, c3, c4, c5].drop 5).take (Try.prog.cellsOf 23)) = _ := f5
  rw [cells3] at f0
  rw [cells3] at f1
  rw [cells3] at f2
  rw [cells3] at f3
  rw [cells22] at f4
  rw [cells23] at f5
  obtain ⟨z0, h0, _⟩ := DataW.trod_int Try.underlying3 f0
  have h0 : [c0] = [.int .i64 z0] := h0
  cases h0
  obtain ⟨z1, h1, _⟩ := DataW.trod_int Try.underlying3 f1
  have h1 : [c1] = [.int .i64 z1] := h1
  cases h1
  obtain ⟨z2, h2, _⟩ := DataW.trod_int Try.underlying3 f2
  have h2 : [c2] = [.int .i64 z2] := h2
  cases h2
  obtain ⟨z3, h3, _⟩ := DataW.trod_int Try.underlying3 f3
  have h3 : [c3] = [.int .i64 z3] := h3
  cases h3
  obtain ⟨H1, ι1, vs, v, s, L1, hv, vr, hi, _⟩ := bytes_in f4 (Or.inr hk) R hw
  have hv : [c4] = [v] := hv
  cases hv
  obtain ⟨H2, ι2, ws, u, s2, L2, hu, ur, hj, one⟩ := ints_in f5 (Or.inr hk) L1.r L1.nw
  have hu : [c5] = [u] := hu
  cases hu
  exact ⟨H2, ι2, [.i .i64 z0, .i .i64 z1, .i .i64 z2, .i .i64 z3, vs, ws], L1.trans L2, ⟨_, _, rfl, rfl, _, _, rfl, rfl, _, _, rfl, rfl, _, _, rfl, rfl, _, _, rfl, VR_mono L2.ext _ _ vr, _, _, rfl, ur, rfl⟩,
    z0, z1, z2, z3, vs, ws, s, rfl, hi.grow L2.g, one⟩
theorem row_in (hk : SomeCells W) {ng n : Nat} :
    ∀ (ls : List (List Value)), (∀ l ∈ ls, ∃ x, DataW.trod enc Try.prog W 0 (fun _ => true) true n 41 l = some x) → ∀ ι H, Rel (keepAll W) ng ι H W.heap → NoWr H →
    ∃ (H' : Heap) (ι' : Emb) (ass : List (List AV)), Laid W ng ι ι' H H' ∧ ass.length = ls.length ∧ ∀ (i : Nat) (l : List Value), ls[i]? = some l → ∃ (bs : List AV), ass[i]? = some bs ∧ VRs ι' bs l ∧ CallIn Any H' bs
  | [], _, ι, H, R, hw => ⟨H, ι, [], Laid.refl R hw, rfl, fun i l h => by cases h⟩
  | l :: ls, h, ι, H, R, hw => by
    obtain ⟨x, hx⟩ := h l (List.mem_cons_self ..)
    obtain ⟨H1, ι1, bs, L1, v1, q1⟩ := in41 hk n l x hx ι H R hw
    obtain ⟨H2, ι2, ass, L2, a1, a3⟩ := row_in hk ls (fun y hy => h y (List.mem_cons_of_mem _ hy)) ι1 H1 L1.r L1.nw
    refine ⟨H2, ι2, bs :: ass, L1.trans L2, by rw [List.length_cons, List.length_cons, a1], fun i l' hi => ?_⟩
    cases i with
    | zero => cases hi; exact ⟨bs, rfl, VRs_mono L2.ext _ _ v1, q1.mv (fun a ha hb => ⟨ha, L2.g.get a hb⟩) L2.g.next⟩
    | succ i => exact a3 i l' hi
theorem CallIn.len {S : Pa → Prop} {H : Heap} {bs : List AV} (h : CallIn S H bs) : bs.length = 6 := by
  obtain ⟨_, _, _, _, _, _, _, rfl, _⟩ := h; rfl
theorem calls_in {ng fuel : Nat} {cs : List Value} {x : DataW HT × List MemPlace} (h : DataW.trod enc Try.prog W 0 (fun _ => true) true fuel 38 cs = some x) (hk : OrCells W cs) {ι : Emb} {H : Heap} (R : Rel (keepAll W) ng ι H W.heap) (hw : NoWr H) :
    ∃ (H' : Heap) (ι' : Emb) (xs : AV) (v : Value) (m : Nat), Laid W ng ι ι' H H' ∧ cs = [v] ∧ VR ι' xs v ∧ Cs Any H' xs m := by
  rcases DataW.trod_slice Try.underlying38 h with ⟨hc, _⟩ | ⟨a, len, cap, elems, rest, m, hnm, hc, _, _, hlc, _, hl, k1, k2, _⟩
  · exact ⟨H, ι, .ns, _, 0, Laid.refl R hw, hc, rfl, Or.inl ⟨rfl, rfl⟩⟩
  · have hk := hk.get hc
    obtain ⟨r1, r2⟩ := all_read hl k1 (k2 rfl)
    rw [cells41] at r1 r2
    obtain ⟨ls, l1, l2⟩ := list_of (n := len) fun i hi => by obtain ⟨l, x, e1, _⟩ := r2 i hi; exact ⟨l, e1⟩
    obtain ⟨H2, ι2, ass, L2, a1, a3⟩ := row_in hk (n := m) ls (fun l hl2 => by
      obtain ⟨i, hi⟩ := List.mem_iff_getElem?.mp hl2
      have hil : i < len := by rw [← l1]; exact (List.getElem?_eq_some_iff.mp hi).1
      obtain ⟨l', x, e1, e2⟩ := r2 i hil
      have := l2 i l' hil e1
      rw [this] at hi; cases hi
      exact ⟨x, e2⟩) ι H R hw
    have a4 : ∀ i, i < len → ∃ l bs, W.cells? 0 (a.add (i * 6)) 6 = some l ∧ ass[i]? = some bs ∧ VRs ι2 bs l ∧ CallIn Any H2 bs := by
      intro i hi
      obtain ⟨l, x, e1, _⟩ := r2 i hi
      obtain ⟨bs, b1, b3, b4⟩ := a3 i l (l2 i l hi e1)
      exact ⟨l, bs, e1, b1, b3, b4⟩
    have a5 : ∀ bs ∈ ass, bs.length = 6 := by
      intro bs hbs
      obtain ⟨i, hi⟩ := List.mem_iff_getElem?.mp hbs
      have hil : i < len := by rw [← l1, ← a1]; exact (List.getElem?_eq_some_iff.mp hi).1
      obtain ⟨l, bs', e1, e2, e4, e5⟩ := a4 i hil
      rw [hi] at e2; cases e2
      exact e5.len
    obtain ⟨ι3, x1, x2, x3, x4⟩ := L2.r.slice L2.nw hk (z := 6) (by decide) hlc r1 (ass := ass) (by rw [a1, l1]) (fun i l bs hi hl3 hb => by
      obtain ⟨l', bs', e1, e2, e4, e5⟩ := a4 i hi
      rw [hl3] at e1; cases e1
      rw [hb] at e2; cases e2
      exact e4) a5
    have L3 : Laid W ng ι2 ι3 H2 (H2.alloc (.cells true 0 0 ass.flatten.length (setCells ass.flatten 0 .leaf))) := ⟨x1, Grow.alloc H2 _, x2, x3⟩
    obtain ⟨f1, f2⟩ := flat_at a5
    have hnx := next_alloc H2 (.cells true 0 0 ass.flatten.length (setCells ass.flatten 0 .leaf))
    refine ⟨_, ι3, .sl H2.next 0 len none 6, _, len, L2.trans L3, hc, x4, Or.inr ⟨H2.next, 0, none, true, 0, 0, _, _, rfl, trivial, by omega, get_alloc H2 _, by rw [f1, a1, l1]; omega, fun j hjl => ?_⟩⟩
    obtain ⟨l, bs, e1, e2, e4, e5⟩ := a4 j hjl
    have hp : getCells 6 (0 + j * 6) (setCells ass.flatten 0 .leaf) = bs := by
      have h4 : (j + 1) * 6 ≤ ass.flatten.length := by rw [f1, a1, l1]; exact Nat.mul_le_mul_right 6 hjl
      rw [Nat.add_mul, Nat.one_mul] at h4
      rw [getCells_part (fun i _ => cell_at ass.flatten i) (by omega), Nat.zero_add]
      exact flat_part a5 e2
    rw [hp]
    exact e5.mv (fun a ha hb => ⟨ha, (Grow.alloc H2 _).get a hb⟩) (Grow.alloc H2 _).next
end
end Go.Proofs.Ytnbjicanbihgnaa

/- The law of what stays (TapeStays), whole; the walks of TapeFronts and TapeStays. -/
namespace Go.Proofs.Ytnbjicanbihgnaa
open Go Go.Vai
set_option maxRecDepth 100000
set_option maxHeartbeats 3200000
set_option linter.unusedSimpArgs false
section
variable {D : TD} {y c pv : AV} {a : List UInt8} {m : Nat} {zs : List Int} {G : Heap}
theorem stay_loop (I : I5 D y c pv a m zs 0 G) :
    ∃ G', I5 D y c pv a m zs (min m 30) G' ∧ ∀ fr, F5 y c pv (.p D.p 0) 0 fr → ∀ M, 3100 ≤ M → ∀ (R : Type) (kk : XK R) (res : Option R),
      (∀ fr', F5 y c pv (.p D.p 0) (min m 30) fr' → kk (.exit 0) fr' G' = res) → runK tbl M R Lp5 fr G kk = res := by
  obtain ⟨G', _, J, e⟩ := loop_cps (Lp := Lp5) (ex := 0) (n := min m 30) (c := 3000) (St := Unit)
    (fun i G _ => I5 D y c pv a m zs i G)
    (fun i _ fr => F5 y c pv (.p D.p 0) i fr)
    (fun G _ I fr f M hM R kk res hr => by
      obtain ⟨q, rfl⟩ : ∃ q, M = q + 3000 := ⟨M - 3000, by omega⟩
      unfold Lp5
      rw [run_loop]
      by_cases h : ((min m 30 : Nat) : Int) < (m : Int)
      · have h2 : ¬ (((min m 30 : Nat) : Int) < 30) := by omega
        simp only [EX, reduceIte, Nat.reduceEqDiff, Nat.reduceAdd, Int.reduceEq, Int.reduceLT, Int.reduceLE, reduceCtorEq, Nat.reduceLeDiff, Nat.reduceSub, Nat.reduceLT, f.f1, f.f9, I.hc.len, h, h2]
        refine hr _ ⟨?_, ?_, ?_, ?_, ?_⟩
        all_goals simp only [V_S, Nat.reduceEqDiff, reduceIte]
        all_goals first | exact f.f0 | exact f.f1 | exact f.f2 | exact f.f7 | exact f.f9
      · simp only [EX, reduceIte, Nat.reduceEqDiff, Nat.reduceAdd, Int.reduceEq, Int.reduceLT, Int.reduceLE, reduceCtorEq, Nat.reduceLeDiff, Nat.reduceSub, Nat.reduceLT, f.f1, f.f9, I.hc.len, h]
        refine hr _ ⟨?_, ?_, ?_, ?_, ?_⟩
        all_goals simp only [V_S, Nat.reduceEqDiff, reduceIte]
        all_goals first | exact f.f0 | exact f.f1 | exact f.f2 | exact f.f7 | exact f.f9)
    (fun i G _ hi J => by
      obtain ⟨G', J', e'⟩ := stay_round (by omega) (by omega) J
      exact ⟨G', (), J', e'⟩)
    (min m 30) 0 G () (Nat.zero_add _) I
  exact ⟨G', J, fun fr f M hM => e fr f M (by omega)⟩
end
theorem stay_first {a : List UInt8} (ha : a.length ≤ 200) {n : Nat} : Stay a { (⟨zeros 1000, zeros 1000, [], 0⟩ : TS).write 1 500 a with op := [], n := n } := by
  have hz := zeros_len (n := 1000)
  have hl := ov_len (s := zeros 1000) (t := a) (i := 500) (by omega)
  have e : ((⟨zeros 1000, zeros 1000, [], 0⟩ : TS).write 1 500 a).b = ov (zeros 1000) 500 a := rfl
  refine ⟨(by show ((⟨zeros 1000, zeros 1000, [], 0⟩ : TS).write 1 500 a).b.length = 1000; rw [e, hl, hz]), ?_, fun w hw => by cases hw⟩
  show (((⟨zeros 1000, zeros 1000, [], 0⟩ : TS).write 1 500 a).b.drop 500).take a.length = a
  rw [e]
  apply List.ext_getElem?
  intro q
  by_cases hq : q < a.length
  · rw [List.getElem?_take_of_lt hq, List.getElem?_drop, ov_get (by omega), if_neg (by omega), if_pos (by omega), Nat.add_sub_cancel_left]
  · rw [List.getElem?_eq_none (by rw [List.length_take]; omega), List.getElem?_eq_none (by omega)]
theorem law5 {H : Heap} {y c pv : AV} {a : List UInt8} {m : Nat} {zs : List Int} (hy : Bys Any H y a) (hc : Cs Any H c m) (hz : Zs Any H pv zs) :
    lawK tbl 100000 (toPa 6) (.mk B5 [(.tmp (toPa 6))]) [y, c, pv] H = some () := by
  unfold lawK
  rw [B5_eq]
  show guardK (Pa.same (toPa 6) (toPa 6)) (restK _ _ _ _ _ _ _ _ _ _) = _
  rw [same_id, guardK_t4]
  unfold restK
  rw [argsK_frame]
  by_cases hb : (200 : Int) < (a.length : Int)
  · simp only [EX, reduceIte, Nat.reduceEqDiff, Nat.reduceAdd, Int.reduceEq, Int.reduceLT, Int.reduceLE, reduceCtorEq, Nat.reduceLeDiff, Nat.reduceSub, Nat.reduceLT, putK_eq, put_S4, evK_eq, vB_b4, hy.len, hb]
    exact rfl
  by_cases hb2 : (50 : Int) < (zs.length : Int)
  · simp only [EX, reduceIte, Nat.reduceEqDiff, Nat.reduceAdd, Int.reduceEq, Int.reduceLT, Int.reduceLE, reduceCtorEq, Nat.reduceLeDiff, Nat.reduceSub, Nat.reduceLT, putK_eq, put_S4, evK_eq, vB_b4, hy.len, hz.len, hb, hb2]
    exact rfl
  have m0 : a.length ≤ 200 := by omega
  obtain ⟨D, H1, d1, d2, T1, g1, e7⟩ := s7 (H := H) (n := 1000) (by decide) (by decide)
  have e7 : ∀ (M : Nat), 100 ≤ M → ∀ (R : Type) (k : HK R), callK tbl (runK tbl M) R (toPa 7) [.i .i64 1000] H k = k (.tu [.p D.p 0, .i .i64 0]) H1 := e7
  have hr : D.room ≤ 1000000 := by rw [d2]; decide
  have o1 := T1.o1
  have o2 := T1.o2
  obtain ⟨H2, x2, L2, T2, k2, f2, e9⟩ := s9 (i := 1) (at_ := 500) (y := y) (s := a) T1 hr (by decide) (by decide) (by decide) (by rw [d2]; omega) (hy.mv (fun b _ hb => ⟨(have := T1.low (a := b) (by omega); ⟨this.1, this.2.2.2⟩), g1.get b hb⟩) g1.next)
  obtain ⟨H3, T3, g3, n3, e13⟩ := s13 T2 (show 1 < 1000000 by decide)
  have low3 : ∀ b : Pa, b.toN < H.next.toN → H3.get b = H.get b := fun b hb => by
    have hn := g1.next
    have hn2 := k2.next
    rw [g3.get b (by omega) (by intro w; rw [w] at hb; omega), k2.low T1 (by omega), g1.get b hb]
  have hn3 : H.next.toN ≤ H3.next.toN := by rw [n3]; exact Nat.le_trans g1.next k2.next
  have mv : ∀ b, Any b → b.toN < H.next.toN → Bl D.n0 b ∧ H3.get b = H.get b := fun b _ hb => ⟨(by show b.toN < D.n0; omega), low3 b hb⟩
  have I : I5 D y c pv a m zs 0 H3 := ⟨d2, m0, hy.mv mv hn3, hc.mv mv hn3, hz.mv mv hn3, .ns, [], _, T3, Nat.le_refl _, (by show 1 + 1 ≤ 0 + 10; decide), stay_first m0⟩
  obtain ⟨H4, _, eloop⟩ := stay_loop I
  have e9 : ∀ (M : Nat), 200 ≤ M → ∀ (R : Type) (k : HK R), callK tbl (runK tbl M) R (toPa 9) [.p D.p 0, .i .i64 1, .i .i64 500, y] H1 k = k (.i .i64 0) H2 := e9
  simp only [EX, reduceIte, Nat.reduceEqDiff, Nat.reduceAdd, Int.reduceEq, Int.reduceLT, Int.reduceLE, reduceCtorEq, Nat.reduceLeDiff, Nat.reduceSub, Nat.reduceLT, putK_eq, put_S4, evK_eq, vB_b4, hy.len, hz.len, hb, hb2, e7 _ (Nat.le_add_left 100 _), e9 _ (Nat.le_add_left 200 _), e13 _ (Nat.le_add_left 100 _)]
  refine eloop _ ⟨?_, ?_, ?_, ?_, ?_⟩ _ (by omega) _ _ _ ?_
  rotate_right
  · intro fr f
    simp only [EX, reduceIte, Nat.reduceEqDiff, Nat.reduceAdd, Int.reduceEq, Int.reduceLT, Int.reduceLE, reduceCtorEq, Nat.reduceLeDiff, Nat.reduceSub, Nat.reduceLT]
    exact rfl
  all_goals simp only [EX, reduceIte, Nat.reduceEqDiff, Nat.reduceAdd, Int.reduceEq, Int.reduceLT, Int.reduceLE, reduceCtorEq, Nat.reduceLeDiff, Nat.reduceSub, Nat.reduceLT]
  all_goals rfl
theorem or_cells {W : World} {r : Reach} {base : Nat} {t e : TypeId} {v : Value} (ht : Try.prog.underlying t = some (.slice e)) (h : Value.okWide Try.prog W r base t v) : OrCells W [v] := by
  obtain ⟨a, l, c, rfl⟩ := Go.WideShapes.okWide_slice ht h
  simp only [Value.okWide, ht, Cell.okWide, Cell.ok] at h
  cases a with
  | none =>
    split at h <;> simp_all [OrCells]
  | some a =>
    refine Or.inr ?_
    obtain ⟨_, _, _, _, row, cells, h1, _⟩ := (show l ≤ c ∧ (c : Int) ≤ IntKind.i64.max ∧ W.has Try.prog r base a e c from h)
    unfold World.shape? at h1
    split at h1
    · rename_i cs el f q
      exact ⟨_, _, _, _, q⟩
    · cases h1
theorem nw0 : NoWr H0 := by
  intro p
  rcases begin_get ([] : List (Nat × List AV)) .leaf p with h | ⟨x, hx, _⟩
  · rw [Tr.get_leaf] at h
    rw [show H0.get p = .dead from h]; rfl
  · cases hx
theorem c3_eq : c3 = .mk B3 [(.tmp (toPa 8))] := by kernel_rfl
theorem c5_eq : c5 = .mk B5 [(.tmp (toPa 6))] := by kernel_rfl
/-- THE WALK of TapeFronts. -/
theorem walk3 {HT : Type} {enc : TypeId × Value → HT} (W : World) {fu0 fu1 fu3 : Nat} {v0 v1 v3 : Value} (n : Int) {d0 d1 d3 : DataW HT × List MemPlace}
    (k0 : OrCells W [v0]) (k1 : OrCells W [v1]) (k3 : OrCells W [v3])
    (h0 : DataW.trod enc Try.prog W 0 (fun _ => true) true fu0 22 [v0] = some d0) (h1 : DataW.trod enc Try.prog W 0 (fun _ => true) true fu1 22 [v1] = some d1) (h3 : DataW.trod enc Try.prog W 0 (fun _ => true) true fu3 23 [v3] = some d3)
    (q0 : ∀ el sp, d0.1 = .slice el sp → el.length ≤ 1000000000000000) (q1 : ∀ el sp, d1.1 = .slice el sp → el.length ≤ 1000000000000000) :
    Calls Try.prog 3 #[v0, v1, .int .i64 n, v3] W fun e w' => e = .returned (.bool true) ∧ Go.RowKit.Below W.heap.size W w' := by
  have hn : Try.prog.globals.size ≤ W.heap.size := by rw [gsz]; exact Nat.zero_le _
  obtain ⟨H1, ι1, x0, w0, s0, L1, e0, r0, b0, z0⟩ := bytes_in h0 k0 (h0_rel W) nw0
  cases e0
  obtain ⟨H2, ι2, x1, w1, s1, L2, e1, r1, b1, z1⟩ := bytes_in h1 k1 L1.r L1.nw
  cases e1
  obtain ⟨H3, ι3, x3, w3, zs, L3, e3, r3, b3, _⟩ := ints_in h3 k3 L2.r L2.nw
  cases e3
  have l0 : s0.length ≤ 1000000000000000 := by
    rcases z0 with z | ⟨el, sp, z, z'⟩
    · omega
    · have := q0 el sp z; omega
  have l1 : s1.length ≤ 1000000000000000 := by
    rcases z1 with z | ⟨el, sp, z, z'⟩
    · omega
    · have := q1 el sp z; omega
  have hv : VRs ι3 [x0, x1, .i .i64 n, x3] (#[v0, v1, .int .i64 n, v3] : Array Value).toList :=
    ⟨_, _, rfl, VR_mono (L2.ext.trans L3.ext) _ _ r0, _, _, rfl, VR_mono L3.ext _ _ r1, _, _, rfl, rfl, _, _, rfl, r3, rfl⟩
  refine law_on tbl_ok (fuel := 100000) (kn := 6) (args := [x0, x1, .i .i64 n, x3]) Try.func3 L3.r hn (l := []) (fun x hx => by cases hx) hv known_ok ?_
  have e : (compF Try.prog Try.f3).getD dfl = .mk B3 [(.tmp (toPa 8))] := c3_eq
  rw [e]
  exact law3 n ((b0.grow L2.g).grow L3.g) (b1.grow L3.g) b3 l0 l1
/-- THE WALK of TapeStays. -/
theorem walk5 {HT : Type} {enc : TypeId × Value → HT} (W : World) {fu0 fu1 fu2 : Nat} {v0 v1 v2 : Value} {d0 d1 d2 : DataW HT × List MemPlace}
    (k0 : OrCells W [v0]) (k1 : OrCells W [v1]) (k2 : OrCells W [v2])
    (h0 : DataW.trod enc Try.prog W 0 (fun _ => true) true fu0 22 [v0] = some d0) (h1 : DataW.trod enc Try.prog W 0 (fun _ => true) true fu1 38 [v1] = some d1) (h2 : DataW.trod enc Try.prog W 0 (fun _ => true) true fu2 23 [v2] = some d2) :
    Calls Try.prog 5 #[v0, v1, v2] W fun e w' => e = .returned (.bool true) ∧ Go.RowKit.Below W.heap.size W w' := by
  have hn : Try.prog.globals.size ≤ W.heap.size := by rw [gsz]; exact Nat.zero_le _
  obtain ⟨H1, ι1, x0, w0, s0, L1, e0, r0, b0, _⟩ := bytes_in h0 k0 (h0_rel W) nw0
  cases e0
  obtain ⟨H2, ι2, x1, w1, m, L2, e1, r1, b1⟩ := calls_in h1 k1 L1.r L1.nw
  cases e1
  obtain ⟨H3, ι3, x2, w2, zs, L3, e2, r2, b2, _⟩ := ints_in h2 k2 L2.r L2.nw
  cases e2
  have hv : VRs ι3 [x0, x1, x2] (#[v0, v1, v2] : Array Value).toList :=
    ⟨_, _, rfl, VR_mono (L2.ext.trans L3.ext) _ _ r0, _, _, rfl, VR_mono L3.ext _ _ r1, _, _, rfl, r2, rfl⟩
  refine law_on tbl_ok (fuel := 100000) (kn := 6) (args := [x0, x1, x2]) Try.func5 L3.r hn (l := []) (fun x hx => by cases hx) hv known_ok ?_
  have e : (compF Try.prog Try.f5).getD dfl = .mk B5 [(.tmp (toPa 6))] := c5_eq
  rw [e]
  exact law5 ((b0.grow L2.g).grow L3.g) (b1.mv (fun a ha hb => ⟨ha, L3.g.get a hb⟩) L3.g.next) b2
end Go.Proofs.Ytnbjicanbihgnaa
