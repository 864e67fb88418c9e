/- A verified interpreter of the model's code, and what the functions of a tape tell by it: part 9 (T12, T13). No condition but those that each statement bears. -/
import Derived.Test.YtnbjicanbihgnaaK08
import Derived.Test.YtnbjicanbihgnaaRows
set_option linter.unusedVariables false
set_option linter.unusedSimpArgs false
set_option linter.unusedSectionVars false
set_option linter.constructorNameAsVariable false
set_option linter.unnecessarySimpa false
/- The law of areas (TapeAreas): what it reckons. -/
namespace Go.Proofs.Ytnbjicanbihgnaa
open Go Go.Vai
set_option maxRecDepth 100000
set_option maxHeartbeats 3200000
set_option linter.unusedSimpArgs false
theorem put_S4 {d : Nat} {v : AV} {t : Tr AV} : put (some (toPa d)) v t = S t d v := id rfl
theorem guardK_t4 {R : Type} {x : Option R} : guardK true x = x := rfl
theorem vB_b4 {R : Type} {t : Bool} {f : Bool → Option R} : vB (.b t) f = f t := id rfl
noncomputable def Ok4 : List AI := [O 31 (.mv (T 0)), O 32 (.bin .eql .no (T 31) (K (.i .i64 0))), O 33 (.mv (T 32)), G 34 33 false (.mv (T 0)), G 35 33 false (.bin .eql .no (T 34) (K (.i .i64 1))), O 36 (.pick (T 33) (K (.b true)) (T 35)), O 37 (.mv (T 36)), G 38 37 true (.mv (T 1)), G 39 37 true (.bin .geq .no (T 38) (K (.i .i64 0))), O 40 (.pick (T 37) (T 39) (K (.b false))), O 41 (.mv (T 40)), G 42 41 true (.mv (T 1)), G 43 41 true (.bin .leq .no (T 42) (K (.i .i64 50))), O 44 (.pick (T 41) (T 43) (K (.b false))), O 45 (.mv (T 44)), G 46 45 true (.mv (T 2)), G 47 45 true (.bin .geq .no (T 46) (K (.i .i64 0))), O 48 (.pick (T 45) (T 47) (K (.b false))), O 49 (.mv (T 48)), G 50 49 true (.mv (T 2)), G 51 49 true (.mv (T 1)), G 52 49 true (.bin .sub .no (K (.i .i64 50)) (T 51)), G 53 49 true (.bin .leq .no (T 50) (T 52)), O 54 (.pick (T 49) (T 53) (K (.b false))), O 9 (.mv (T 54))]
theorem B4_eq : B4 = (.seq (.ops [O 6 (.mv (K (.b false)))]) (.seq (.seq (.ops [O 17 (.call (toPa 6) []), O 18 (.not (T 17))]) (.cond (T 18) (.seq (.ops [O 6 (.mv (K (.b false)))]) .ret) .skip)) (.seq (.ops [O 20 (.call (toPa 7) [(K (.i .i64 50))]), O 19 (.mv (T 20)), O 21 (.ext 0 (T 19)), O 22 (.ext 1 (T 19)), O 7 (.mv (T 21)), O 8 (.mv (T 22))]) (.seq (.ops [O 23 (.mv (T 7)), O 24 (.bsl 5 1 4 [(.i .u8 0), (.i .u8 0), (.i .u8 0), (.i .u8 0)] [(0, 1, (K (.i .u8 122))), (1, 1, (K (.i .u8 101))), (2, 1, (K (.i .u8 114))), (3, 1, (K (.i .u8 111)))]), O 25 (.frz (T 24)), O 26 (.call (toPa 9) [(T 23), (K (.i .i64 0)), (K (.i .i64 0)), (T 25)])]) (.seq (.ops [O 27 (.mv (T 7)), O 28 (.bsl 5 1 4 [(.i .u8 0), (.i .u8 0), (.i .u8 0), (.i .u8 0)] [(0, 1, (K (.i .u8 111))), (1, 1, (K (.i .u8 110))), (2, 1, (K (.i .u8 101))), (3, 1, (K (.i .u8 33)))]), O 29 (.frz (T 28)), O 30 (.call (toPa 9) [(T 27), (K (.i .i64 1)), (K (.i .i64 0)), (T 29)])]) (.seq (.ops Ok4) (.seq (.ops [O 56 (.mv (T 7)), O 57 (.mv (T 0)), O 58 (.mv (T 1)), O 59 (.mv (T 2)), O 60 (.call (toPa 11) [(T 56), (T 57), (T 58), (T 59)]), O 55 (.mv (T 60)), O 61 (.ext 0 (T 55)), O 62 (.ext 1 (T 55)), O 10 (.mv (T 61)), O 11 (.mv (T 62))]) (.seq (.ops [O 12 (.mv (K (.i .i64 0)))]) (.seq (.seq (.ops [O 63 (.mv (T 2)), O 64 (.bin .geq .no (T 63) (K (.i .i64 0))), O 65 (.mv (T 64)), G 66 65 true (.mv (T 2)), G 67 65 true (.bin .leq .no (T 66) (K (.i .i64 100))), O 68 (.pick (T 65) (T 67) (K (.b false)))]) (.cond (T 68) (.seq (.ops [O 69 (.mv (T 7)), O 70 (.mv (T 0)), O 71 (.mv (T 1)), O 72 (.mv (T 2)), O 73 (.mks 5 1 1 [(.i .u8 0)] (T 72) (T 72)), O 74 (.call (toPa 9) [(T 69), (T 70), (T 71), (T 73)]), O 12 (.mv (T 74))]) (.seq (.ops [O 75 (.mv (T 12)), O 76 (.bin .eql .no (T 75) (K (.i .i64 0))), O 77 (.mv (T 9)), O 78 (.bin .neq .bool (T 76) (T 77))]) (.cond (T 78) (.seq (.ops [O 6 (.mv (K (.b false)))]) .ret) .skip))) .skip)) (.seq (.seq (.ops [O 79 (.mv (T 11)), O 80 (.bin .eql .no (T 79) (K (.i .i64 0))), O 81 (.mv (T 9)), O 82 (.bin .neq .bool (T 80) (T 81)), O 83 (.mv (T 82)), G 84 83 false (.mv (T 11)), G 85 83 false (.bin .neq .no (T 84) (K (.i .i64 0))), G 86 83 false (.mv (T 85)), G 87 86 true (.mv (T 11)), G 88 86 true (.bin .neq .no (T 87) (K (.i .i64 1))), G 89 83 false (.pick (T 86) (T 88) (K (.b false))), O 90 (.pick (T 83) (K (.b true)) (T 89)), O 91 (.mv (T 90)), G 92 91 false (.mv (T 12)), G 93 91 false (.bin .neq .no (T 92) (K (.i .i64 0))), G 94 91 false (.mv (T 93)), G 95 94 true (.mv (T 12)), G 96 94 true (.bin .neq .no (T 95) (K (.i .i64 1))), G 97 91 false (.pick (T 94) (T 96) (K (.b false))), O 98 (.pick (T 91) (K (.b true)) (T 97))]) (.cond (T 98) (.seq (.ops [O 6 (.mv (K (.b false)))]) .ret) .skip)) (.seq (.ops [O 100 (.mv (T 7)), O 101 (.call (toPa 11) [(T 100), (K (.i .i64 0)), (K (.i .i64 0)), (K (.i .i64 4))]), O 99 (.mv (T 101)), O 102 (.ext 0 (T 99)), O 103 (.ext 1 (T 99)), O 13 (.mv (T 102)), O 14 (.mv (T 103))]) (.seq (.ops [O 105 (.mv (T 7)), O 106 (.call (toPa 11) [(T 105), (K (.i .i64 1)), (K (.i .i64 0)), (K (.i .i64 4))]), O 104 (.mv (T 106)), O 107 (.ext 0 (T 104)), O 108 (.ext 1 (T 104)), O 15 (.mv (T 107)), O 16 (.mv (T 108))]) (.seq (.ops [O 109 (.mv (T 9)), O 110 (.mv (T 109)), G 111 110 false (.mv (T 13)), G 112 110 false (.b2s (T 111)), G 113 110 false (.bin .eql .no (T 112) (K (str [122, 101, 114, 111]))), G 114 110 false (.mv (T 113)), G 115 114 true (.mv (T 15)), G 116 114 true (.b2s (T 115)), G 117 114 true (.bin .eql .no (T 116) (K (str [111, 110, 101, 33]))), G 118 110 false (.pick (T 114) (T 117) (K (.b false))), G 119 110 false (.mv (T 118)), G 120 119 true (.mv (T 7)), G 121 119 true (.call (toPa 12) [(T 120)]), G 122 119 true (.bin .eql .no (T 121) (K (.i .i64 2))), G 123 110 false (.pick (T 119) (T 122) (K (.b false))), O 124 (.pick (T 110) (K (.b true)) (T 123)), O 6 (.mv (T 124))]) .ret))))))))))))) := rfl
theorem bne_tt {R : Type} {k : HK R} {H : Heap} : binC .neq .bool (.b true) (.b true) k H = k (.b false) H := id rfl
theorem bne_ff {R : Type} {k : HK R} {H : Heap} : binC .neq .bool (.b false) (.b false) k H = k (.b false) H := id rfl
noncomputable def frzC {R : Type} (x : AV) (k : HK R) (H : Heap) : Option R := vL x none fun a off len cap sz => guardK (Nat.blt 0 len) (guardK (Nat.blt 0 sz) (H.getK a fun b => bC b fun ro fz e size c => Bool.casesOn ro (H.putK a (.cells true fz e size c) fun H => k (.sl a off len cap sz) H) none))
theorem x_frz {R : Type} {call : CallK R} {fr : Tr AV} {H : Heap} {k : HK R} {x : Opd} : xopK (.frz x) call fr H k = frzC (ev fr x) k H := evK_eq _ _ _
/-- A literal's bytes, marked. -/
noncomputable def Hl (H : Heap) (s : List UInt8) : Heap := (H.alloc (.cells false 0 5 s.length (setCells (bcs s) 0 .leaf))).put H.next (.cells true 0 5 s.length (setCells (bcs s) 0 .leaf))
theorem hl_grow {H : Heap} {s : List UInt8} : Grow H (Hl H s) := by
  have g := Grow.alloc H (.cells false 0 5 s.length (setCells (bcs s) 0 .leaf))
  have n := next_alloc H (.cells false 0 5 s.length (setCells (bcs s) 0 .leaf))
  exact g.put (Nat.le_refl _) (by omega) _
theorem hl_bys {H : Heap} {s : List UInt8} {S : Pa → Prop} (hS : S H.next) : Bys S (Hl H s) (.sl H.next 0 s.length (some s.length) 1) s := by
  have n := next_alloc H (.cells false 0 5 s.length (setCells (bcs s) 0 .leaf))
  refine Or.inr ⟨H.next, 0, some s.length, true, 0, 5, s.length, _, rfl, hS, ?_, by unfold Hl; exact get_put, by omega, fun k q => by cases q; exact Nat.le_refl _, fun j hj => ?_⟩
  · have e : (Hl H s).next = (H.alloc (.cells false 0 5 s.length (setCells (bcs s) 0 .leaf))).next := next_put
    rw [e, n]; exact Nat.lt_succ_self _
  · rw [Nat.zero_add, cell_at, bcs_at hj]; rfl
theorem frz_lit {R : Type} {H : Heap} {k : HK R} {s : List UInt8} (h : 0 < s.length) : frzC (.sl H.next 0 s.length (some s.length) 1) k (H.alloc (.cells false 0 5 s.length (setCells (bcs s) 0 .leaf))) = k (.sl H.next 0 s.length (some s.length) 1) (Hl H s) := by
  show guardK (Nat.blt 0 s.length) (guardK (Nat.blt 0 1) ((H.alloc (.cells false 0 5 s.length (setCells (bcs s) 0 .leaf))).getK H.next fun b => bC b fun ro fz e size c => Bool.casesOn ro ((H.alloc (.cells false 0 5 s.length (setCells (bcs s) 0 .leaf))).putK H.next (.cells true fz e size c) fun H' => k (.sl H.next 0 s.length (some s.length) 1) H') none)) = _
  rw [Nat.blt_eq.mpr h, Heap.getK_eq, get_alloc]
  show (H.alloc (.cells false 0 5 s.length (setCells (bcs s) 0 .leaf))).putK H.next (.cells true 0 5 s.length (setCells (bcs s) 0 .leaf)) (fun H' => k (.sl H.next 0 s.length (some s.length) 1) H') = _
  rw [Heap.putK_eq]; rfl
/-- The law's own test. -/
theorem ok4 {R : Type} {call : CallK R} {H : Heap} {ar at_ n : Int} {p : AV} {fr : Tr AV} {kk : Tr AV → Heap → Option R} {res : Option R} (f0 : V fr 0 = .i .i64 ar) (f1 : V fr 1 = .i .i64 at_) (f2 : V fr 2 = .i .i64 n) (f7 : V fr 7 = p)
    (h : ∀ fr', V fr' 0 = .i .i64 ar → V fr' 1 = .i .i64 at_ → V fr' 2 = .i .i64 n → V fr' 7 = p → V fr' 9 = .b (decide (okA 50 ar at_ n)) → kk fr' H = res) : opsK call Ok4 fr H kk = res := by
  by_cases h0 : ar = 0 ∨ ar = 1
  · by_cases h1 : 0 ≤ at_
    · by_cases h2 : at_ ≤ 50
      · by_cases h3 : 0 ≤ n
        · have hw : IntKind.i64.wrap (50 - at_) = 50 - at_ := wrap_i64 (by omega) (by omega)
          have hd : decide (okA 50 ar at_ n) = decide (n ≤ 50 - at_) := by
            apply decide_eq_decide.mpr
            unfold okA
            constructor
            · intro q; omega
            · intro q; omega
          rw [hd] at h
          rcases h0 with rfl | rfl
          · unfold Ok4
            simp only [EX, reduceIte, Nat.reduceEqDiff, Nat.reduceAdd, Int.reduceEq, Int.reduceLT, Int.reduceLE, reduceCtorEq, Nat.reduceLeDiff, Nat.reduceSub, Nat.reduceLT, f0, f1, f2, h1, h2, h3, i_sub, hw]
            refine h _ ?_ ?_ ?_ ?_ ?_
            all_goals simp only [V_S, Nat.reduceEqDiff, reduceIte]
            all_goals assumption
          · unfold Ok4
            simp only [EX, reduceIte, Nat.reduceEqDiff, Nat.reduceAdd, Int.reduceEq, Int.reduceLT, Int.reduceLE, reduceCtorEq, Nat.reduceLeDiff, Nat.reduceSub, Nat.reduceLT, f0, f1, f2, h1, h2, h3, i_sub, hw]
            refine h _ ?_ ?_ ?_ ?_ ?_
            all_goals simp only [V_S, Nat.reduceEqDiff, reduceIte]
            all_goals assumption
        · have hd : decide (okA 50 ar at_ n) = false := decide_eq_false (by unfold okA; omega)
          rw [hd] at h
          rcases h0 with rfl | rfl
          · unfold Ok4
            simp only [EX, reduceIte, Nat.reduceEqDiff, Nat.reduceAdd, Int.reduceEq, Int.reduceLT, Int.reduceLE, reduceCtorEq, Nat.reduceLeDiff, Nat.reduceSub, Nat.reduceLT, f0, f1, f2, h1, h2, h3]
            refine h _ ?_ ?_ ?_ ?_ ?_
            all_goals simp only [V_S, Nat.reduceEqDiff, reduceIte]
            all_goals assumption
          · unfold Ok4
            simp only [EX, reduceIte, Nat.reduceEqDiff, Nat.reduceAdd, Int.reduceEq, Int.reduceLT, Int.reduceLE, reduceCtorEq, Nat.reduceLeDiff, Nat.reduceSub, Nat.reduceLT, f0, f1, f2, h1, h2, h3]
            refine h _ ?_ ?_ ?_ ?_ ?_
            all_goals simp only [V_S, Nat.reduceEqDiff, reduceIte]
            all_goals assumption
      · have hd : decide (okA 50 ar at_ n) = false := decide_eq_false (by unfold okA; omega)
        rw [hd] at h
        rcases h0 with rfl | rfl
        · unfold Ok4
          simp only [EX, reduceIte, Nat.reduceEqDiff, Nat.reduceAdd, Int.reduceEq, Int.reduceLT, Int.reduceLE, reduceCtorEq, Nat.reduceLeDiff, Nat.reduceSub, Nat.reduceLT, f0, f1, f2, h1, h2]
          refine h _ ?_ ?_ ?_ ?_ ?_
          all_goals simp only [V_S, Nat.reduceEqDiff, reduceIte]
          all_goals assumption
        · unfold Ok4
          simp only [EX, reduceIte, Nat.reduceEqDiff, Nat.reduceAdd, Int.reduceEq, Int.reduceLT, Int.reduceLE, reduceCtorEq, Nat.reduceLeDiff, Nat.reduceSub, Nat.reduceLT, f0, f1, f2, h1, h2]
          refine h _ ?_ ?_ ?_ ?_ ?_
          all_goals simp only [V_S, Nat.reduceEqDiff, reduceIte]
          all_goals assumption
    · have hd : decide (okA 50 ar at_ n) = false := decide_eq_false (by unfold okA; omega)
      rw [hd] at h
      rcases h0 with rfl | rfl
      · unfold Ok4
        simp only [EX, reduceIte, Nat.reduceEqDiff, Nat.reduceAdd, Int.reduceEq, Int.reduceLT, Int.reduceLE, reduceCtorEq, Nat.reduceLeDiff, Nat.reduceSub, Nat.reduceLT, f0, f1, f2, h1]
        refine h _ ?_ ?_ ?_ ?_ ?_
        all_goals simp only [V_S, Nat.reduceEqDiff, reduceIte]
        all_goals assumption
      · unfold Ok4
        simp only [EX, reduceIte, Nat.reduceEqDiff, Nat.reduceAdd, Int.reduceEq, Int.reduceLT, Int.reduceLE, reduceCtorEq, Nat.reduceLeDiff, Nat.reduceSub, Nat.reduceLT, f0, f1, f2, h1]
        refine h _ ?_ ?_ ?_ ?_ ?_
        all_goals simp only [V_S, Nat.reduceEqDiff, reduceIte]
        all_goals assumption
  · have hd : decide (okA 50 ar at_ n) = false := decide_eq_false (by unfold okA; omega)
    rw [hd] at h
    have h00 : ¬ ar = 0 := fun q => h0 (.inl q)
    have h01 : ¬ ar = 1 := fun q => h0 (.inr q)
    unfold Ok4
    simp only [EX, reduceIte, Nat.reduceEqDiff, Nat.reduceAdd, Int.reduceEq, Int.reduceLT, Int.reduceLE, reduceCtorEq, Nat.reduceLeDiff, Nat.reduceSub, Nat.reduceLT, f0, f1, f2, h00, h01]
    refine h _ ?_ ?_ ?_ ?_ ?_
    all_goals simp only [V_S, Nat.reduceEqDiff, reduceIte]
    all_goals assumption
def sZ : List UInt8 := [122, 101, 114, 111]
def sO : List UInt8 := [111, 110, 101, 33]
def st4 : TS := ((⟨zeros 50, zeros 50, [], 0⟩ : TS).write 0 0 sZ).write 1 0 sO
theorem law4 {H : Heap} (ar at_ n : Int) : lawK tbl 100000 (toPa 6) (.mk B4 [(.tmp (toPa 6))]) [.i .i64 ar, .i .i64 at_, .i .i64 n] H = some () := by
  obtain ⟨D, H1, d1, d2, T1, g1, e7⟩ := s7 (H := H) (n := 50) (by decide) (by decide)
  have hr : D.room ≤ 1000000 := by rw [d2]; decide
  have T2 := T1.grow (hl_grow (H := H1) (s := sZ))
  have o4 := T1.o4
  have np : ∀ (G : Heap), D.B.toN < G.next.toN → G.next ≠ D.p := fun G h q => by rw [q] at h; have := T1.o2; have := T1.o3; omega
  obtain ⟨H3, x3, L3, T3, k3, f3, e9⟩ := s9 (i := 0) (at_ := 0) T2 hr (by decide) (by decide) (by decide) (by rw [d2]; decide) (hl_bys (s := sZ) ⟨np H1 T1.o4, T1.xoff (.inr (Nat.le_refl _))⟩)
  have T4 := T3.grow (hl_grow (H := H3) (s := sO))
  obtain ⟨H5, x5, L5, T5, k5, f5, e9'⟩ := s9 (i := 1) (at_ := 0) T4 hr (by decide) (by decide) (by decide) (by rw [d2]; decide) (hl_bys (s := sO) ⟨np H3 T3.o4, T3.xoff (.inr (Nat.le_refl _))⟩)
  have T5 : Tp D H5 x5 L5 st4 := T5
  have e7 : ∀ (M : Nat), 100 ≤ M → ∀ (R : Type) (k : HK R), callK tbl (runK tbl M) R (toPa 7) [.i .i64 50] H k = k (.tu [.p D.p 0, .i .i64 0]) H1 := e7
  have e9 : ∀ (M : Nat), 200 ≤ M → ∀ (R : Type) (k : HK R), callK tbl (runK tbl M) R (toPa 9) [.p D.p 0, .i .i64 0, .i .i64 0, .sl H1.next 0 4 (some 4) 1] (Hl H1 sZ) k = k (.i .i64 0) H3 := e9
  have e9' : ∀ (M : Nat), 200 ≤ M → ∀ (R : Type) (k : HK R), callK tbl (runK tbl M) R (toPa 9) [.p D.p 0, .i .i64 1, .i .i64 0, .sl H3.next 0 4 (some 4) 1] (Hl H3 sO) k = k (.i .i64 0) H5 := e9'
  have fz : ∀ (R : Type) (k : HK R), frzC (.sl H1.next 0 4 (some 4) 1) k (H1.alloc (.cells false 0 5 4 (setCells [.i .u8 122, .i .u8 101, .i .u8 114, .i .u8 111] 0 .leaf))) = k (.sl H1.next 0 4 (some 4) 1) (Hl H1 sZ) := fun R k => frz_lit (s := sZ) (by decide)
  have fz' : ∀ (R : Type) (k : HK R), frzC (.sl H3.next 0 4 (some 4) 1) k (H3.alloc (.cells false 0 5 4 (setCells [.i .u8 111, .i .u8 110, .i .u8 101, .i .u8 33] 0 .leaf))) = k (.sl H3.next 0 4 (some 4) 1) (Hl H3 sO) := fun R k => frz_lit (s := sO) (by decide)
  unfold lawK
  rw [B4_eq]
  show guardK (Pa.same (toPa 6) (toPa 6)) (restK _ _ _ _ _ _ _ _ _ _) = _
  rw [same_id, guardK_t4]
  unfold restK
  rw [argsK_frame]
  simp only [EX, reduceIte, Nat.reduceEqDiff, Nat.reduceAdd, Int.reduceEq, Int.reduceLT, Int.reduceLE, reduceCtorEq, Nat.reduceLeDiff, Nat.reduceSub, Nat.reduceLT, putK_eq, put_S4, evK_eq, vB_b4, e7 _ (Nat.le_add_left 100 _), x_frz, fz, fz', e9 _ (Nat.le_add_left 200 _), e9' _ (Nat.le_add_left 200 _)]
  have zz : ∀ (G : Heap), Grow H5 G → ∃ H' z, Grow G H' ∧ Bys (fun b => G.next.toN ≤ b.toN) H' z sZ ∧ ∀ (M : Nat), 100 ≤ M → ∀ (R : Type) (k : HK R), callK tbl (runK tbl M) R (toPa 11) [.p D.p 0, .i .i64 0, .i .i64 0, .i .i64 4] G k = k (.tu [z, .i .i64 0]) H' :=
    fun G g => s11 (i := 0) (at_ := 0) (n := 4) (T5.grow g) hr (by decide) (by rw [d2]; decide)
  have zo : ∀ (G : Heap), Grow H5 G → ∃ H' z, Grow G H' ∧ Bys (fun b => G.next.toN ≤ b.toN) H' z sO ∧ ∀ (M : Nat), 100 ≤ M → ∀ (R : Type) (k : HK R), callK tbl (runK tbl M) R (toPa 11) [.p D.p 0, .i .i64 1, .i .i64 0, .i .i64 4] G k = k (.tu [z, .i .i64 0]) H' :=
    fun G g => s11 (i := 1) (at_ := 0) (n := 4) (T5.grow g) hr (by decide) (by rw [d2]; decide)
  refine ok4 (ar := ar) (at_ := at_) (n := n) (p := .p D.p 0) (by simp only [EX, reduceIte, Nat.reduceEqDiff, Nat.reduceAdd, Int.reduceEq, Int.reduceLT, Int.reduceLE, reduceCtorEq, Nat.reduceLeDiff, Nat.reduceSub, Nat.reduceLT]) (by simp only [EX, reduceIte, Nat.reduceEqDiff, Nat.reduceAdd, Int.reduceEq, Int.reduceLT, Int.reduceLE, reduceCtorEq, Nat.reduceLeDiff, Nat.reduceSub, Nat.reduceLT]) (by simp only [EX, reduceIte, Nat.reduceEqDiff, Nat.reduceAdd, Int.reduceEq, Int.reduceLT, Int.reduceLE, reduceCtorEq, Nat.reduceLeDiff, Nat.reduceSub, Nat.reduceLT]) (by simp only [EX, reduceIte, Nat.reduceEqDiff, Nat.reduceAdd, Int.reduceEq, Int.reduceLT, Int.reduceLE, reduceCtorEq, Nat.reduceLeDiff, Nat.reduceSub, Nat.reduceLT]) ?_
  intro fr f0 f1 f2 f7 f9
  by_cases hok : okA 50 ar at_ n
  · rw [decide_eq_true hok] at f9
    obtain ⟨q1, q2, q3, q4, q5, q6⟩ := hok
    obtain ⟨ai, rfl⟩ := Int.eq_ofNat_of_zero_le q1
    obtain ⟨ti, rfl⟩ := Int.eq_ofNat_of_zero_le q3
    obtain ⟨nn, rfl⟩ := Int.eq_ofNat_of_zero_le q4
    have hnn : nn ≤ 50 := by omega
    have hn1 : (nn : Int) ≤ 100 := by omega
    obtain ⟨H6, z0, g6, hz0, e11⟩ := s11 T5 hr (i := ai) (at_ := ti) (n := nn) (by omega) (by rw [d2]; omega)
    have g7 := Grow.alloc H6 (.cells false 0 5 (bcs (zeros nn)).length (setCells (bcs (zeros nn)) 0 .leaf))
    have n7 := next_alloc H6 (.cells false 0 5 (bcs (zeros nn)).length (setCells (bcs (zeros nn)) 0 .leaf))
    have T6 := T5.grow g6
    have by7 : Bys (fun a => a ≠ D.p ∧ Off x5 a) _ (.sl H6.next 0 (zeros nn).length (some nn) 1) (zeros nn) := Bys.row (Row.new H6 5 (bcs (zeros nn))) (by omega) (fun k q => by cases q; rw [zeros_len]; exact Nat.le_refl _) ⟨np H6 T6.o4, T6.xoff (.inr (Nat.le_refl _))⟩
    rw [show (zeros nn).length = nn from zeros_len] at by7
    obtain ⟨H8, x8, L8, T8, k8, f8, e9n⟩ := s9 (T6.grow g7) hr (i := ai) (at_ := ti) (by decide) (by decide) (by omega) (by rw [d2, zeros_len]; omega) by7
    obtain ⟨H9, z1, g9, hz1, e1⟩ := s11 (i := 0) (at_ := 0) (n := 4) T8 hr (by decide) (by rw [d2]; decide)
    obtain ⟨Ha, z2, ga, hz2, e2⟩ := s11 (i := 1) (at_ := 0) (n := 4) (T8.grow g9) hr (by decide) (by rw [d2]; decide)
    have e1 : ∀ (M : Nat), 100 ≤ M → ∀ (R : Type) (k : HK R), callK tbl (runK tbl M) R (toPa 11) [.p D.p 0, .i .i64 0, .i .i64 0, .i .i64 4] H8 k = k (.tu [z1, .i .i64 0]) H9 := e1
    have e2 : ∀ (M : Nat), 100 ≤ M → ∀ (R : Type) (k : HK R), callK tbl (runK tbl M) R (toPa 11) [.p D.p 0, .i .i64 1, .i .i64 0, .i .i64 4] H9 k = k (.tu [z2, .i .i64 0]) Ha := e2
    have mk := fun (R : Type) (k : HK R) (G : Heap) => mks_n (R := R) (H := G) (k := k) (n := nn) (show nn ≤ roomN by have : (100 : Nat) ≤ roomN := (by decide); omega) (show nn ≤ sMax by have : (100 : Nat) ≤ sMax := (by decide); omega)
    simp only [EX, reduceIte, Nat.reduceEqDiff, Nat.reduceAdd, Int.reduceEq, Int.reduceLT, Int.reduceLE, reduceCtorEq, Nat.reduceLeDiff, Nat.reduceSub, Nat.reduceLT, f0, f1, f2, f7, f9, e11 _ (Nat.le_add_left 100 _), q4, hn1, x_mks, mk, e9n _ (Nat.le_add_left 200 _), bne_tt, bne_ff, e1 _ (Nat.le_add_left 100 _), e2 _ (Nat.le_add_left 100 _)]
    exact rfl
  · rw [decide_eq_false hok] at f9
    have e11 := s11_no T5 hr (ar := ar) (at_ := at_) (n := n) (by rw [d2]; exact hok)
    have hq1 : (sZ = [122, 101, 114, 111]) = True := eq_true rfl
    have hq2 : (sO = [111, 110, 101, 33]) = True := eq_true rfl
    have hq3 : ((st4.n : Nat) : Int) = 2 := rfl
    by_cases hn0 : 0 ≤ n
    · by_cases hn1 : n ≤ 100
      · obtain ⟨nn, rfl⟩ := Int.eq_ofNat_of_zero_le hn0
        have hnn : nn ≤ 100 := by omega
        have g6 := Grow.alloc H5 (.cells false 0 5 (bcs (zeros nn)).length (setCells (bcs (zeros nn)) 0 .leaf))
        have n6 := next_alloc H5 (.cells false 0 5 (bcs (zeros nn)).length (setCells (bcs (zeros nn)) 0 .leaf))
        have by6 : Bys Any _ (.sl H5.next 0 (zeros nn).length (some nn) 1) (zeros nn) := Bys.row (Row.new H5 5 (bcs (zeros nn))) (by omega) (fun k q => by cases q; rw [zeros_len]; exact Nat.le_refl _) trivial
        rw [show (zeros nn).length = nn from zeros_len] at by6
        have e9n := s9_no (T5.grow g6) hr by6 (ar := ar) (at_ := at_) (by rw [d2, zeros_len]; exact hok)
        obtain ⟨H7, z1, g7, hz1, e1⟩ := zz _ g6
        obtain ⟨H8, z2, g8, hz2, e2⟩ := zo _ (g6.trans g7)
        have e12 := s12 ((T5.grow (g6.trans g7)).grow g8)
        have b1 := (hz1.grow g8).b2s
        have b2 := hz2.b2s
        have mk := fun (R : Type) (k : HK R) (G : Heap) => mks_n (R := R) (H := G) (k := k) (n := nn) (show nn ≤ roomN by have : (100 : Nat) ≤ roomN := (by decide); omega) (show nn ≤ sMax by have : (100 : Nat) ≤ sMax := (by decide); omega)
        simp only [EX, reduceIte, Nat.reduceEqDiff, Nat.reduceAdd, Int.reduceEq, Int.reduceLT, Int.reduceLE, reduceCtorEq, Nat.reduceLeDiff, Nat.reduceSub, Nat.reduceLT, f0, f1, f2, f7, f9, e11 _ (Nat.le_add_left 100 _), hn0, hn1, x_mks, mk, e9n _ (Nat.le_add_left 200 _), bne_ff, e1 _ (Nat.le_add_left 100 _), e2 _ (Nat.le_add_left 100 _), e12 _ (Nat.le_add_left 20 _), b1, b2, s_eql, hq1, hq2, hq3]
        exact rfl
      · obtain ⟨H7, z1, g7, hz1, e1⟩ := zz _ (Grow.refl _)
        obtain ⟨H8, z2, g8, hz2, e2⟩ := zo _ g7
        have e12 := s12 ((T5.grow g7).grow g8)
        have b1 := (hz1.grow g8).b2s
        have b2 := hz2.b2s
        simp only [EX, reduceIte, Nat.reduceEqDiff, Nat.reduceAdd, Int.reduceEq, Int.reduceLT, Int.reduceLE, reduceCtorEq, Nat.reduceLeDiff, Nat.reduceSub, Nat.reduceLT, f0, f1, f2, f7, f9, e11 _ (Nat.le_add_left 100 _), hn0, hn1, bne_ff, e1 _ (Nat.le_add_left 100 _), e2 _ (Nat.le_add_left 100 _), e12 _ (Nat.le_add_left 20 _), b1, b2, s_eql, hq1, hq2, hq3]
        exact rfl
    · obtain ⟨H7, z1, g7, hz1, e1⟩ := zz _ (Grow.refl _)
      obtain ⟨H8, z2, g8, hz2, e2⟩ := zo _ g7
      have e12 := s12 ((T5.grow g7).grow g8)
      have b1 := (hz1.grow g8).b2s
      have b2 := hz2.b2s
      simp only [EX, reduceIte, Nat.reduceEqDiff, Nat.reduceAdd, Int.reduceEq, Int.reduceLT, Int.reduceLE, reduceCtorEq, Nat.reduceLeDiff, Nat.reduceSub, Nat.reduceLT, f0, f1, f2, f7, f9, e11 _ (Nat.le_add_left 100 _), hn0, bne_ff, e1 _ (Nat.le_add_left 100 _), e2 _ (Nat.le_add_left 100 _), e12 _ (Nat.le_add_left 20 _), b1, b2, s_eql, hq1, hq2, hq3]
      exact rfl
end Go.Proofs.Ytnbjicanbihgnaa

/- The chapter's example, in every world; the walk of TapeAreas. -/
namespace Go.Proofs.Ytnbjicanbihgnaa
open Go Go.Vai
set_option maxRecDepth 100000
set_option maxHeartbeats 1600000
theorem gsz : Try.prog.globals.size = 0 := by kernel_rfl
noncomputable def H0 : Heap := begin_ 0 []
theorem H0_eq : begin_ Try.prog.globals.size [] = H0 := by rw [gsz]; rfl
set_option maxRecDepth 1000000 in
theorem known_run : goK tbl 100000 (toPa 6) [] H0 yesK = some () := by kernel_rfl
/-- The chapter's example. -/
theorem known_ok (w : World) (hn : Try.prog.globals.size ≤ w.heap.size) (_ : ∀ x ∈ ([] : List (Nat × List AV)), Knows w x) : Calls Try.prog 6 #[] w fun e w' => e = .returned (.bool true) ∧ Go.RowKit.Below w.heap.size w w' :=
  walk_of tbl_ok (args := []) (l := []) hn (fun x hx => by cases hx) (fun _ => rfl) (by rw [H0_eq]; exact known_run)
theorem h0_rel (W : World) : Rel (keepAll W) Try.prog.globals.size (emb0 Try.prog.globals.size W) H0 W.heap := by
  have := begin_rel (l := []) (W := W) (n := Try.prog.globals.size) (by rw [gsz]; exact Nat.zero_le _) fun x hx => by cases hx
  rwa [H0_eq] at this
theorem c4_eq : c4 = .mk B4 [(.tmp (toPa 6))] := by kernel_rfl
/-- THE WALK of TapeAreas. -/
theorem walk4 (W : World) (a b c : Int) : Calls Try.prog 4 #[.int .i64 a, .int .i64 b, .int .i64 c] W fun e w' => e = .returned (.bool true) ∧ Go.RowKit.Below W.heap.size W w' := by
  have hn : Try.prog.globals.size ≤ W.heap.size := by rw [gsz]; exact Nat.zero_le _
  refine law_on tbl_ok (fuel := 100000) (kn := 6) (args := [.i .i64 a, .i .i64 b, .i .i64 c]) Try.func4 (h0_rel W) hn (l := []) (fun x hx => by cases hx) ⟨_, _, rfl, rfl, _, _, rfl, rfl, _, _, rfl, rfl, rfl⟩ known_ok ?_
  have e : (compF Try.prog Try.f4).getD dfl = .mk B4 [(.tmp (toPa 6))] := c4_eq
  rw [e]
  exact law4 a b c
end Go.Proofs.Ytnbjicanbihgnaa
