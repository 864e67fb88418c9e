/- A verified interpreter of the model's code, and what the functions of a tape tell by it: part 8 (T00, T01, T02, T03, T04, T05, T06, T07, T08, T09, T10, T11). No condition but those that each statement bears. -/
import Derived.Test.YtnbjicanbihgnaaFK07
import Derived.RangeFuncBox
import Derived.RangeFuncLeaves
import Derived.WalkKit
import Derived.OwnWalkIn
import Derived.TacticsInMore
import Derived.LoopNIn
import Derived.LoopIn
import Derived.Test.YtnbjicanbihgnaaProg
import Derived.KernelRfl
set_option linter.unusedVariables false
set_option linter.unusedSimpArgs false
set_option linter.unusedSectionVars false
set_option linter.constructorNameAsVariable false
set_option linter.unnecessarySimpa false
/- The closure of slices.Backward over writes: it yields the things of its slice, the last one first. -/
namespace Go.Proofs.Ytnbjicanbihgnaa
open Go.RowKit Go.Vai
theorem list_load {n : Nat} {P : Program} {ops : Array Oper} {Q : Exit → Act → World → Prop} {a : Act} {w : World} {rest : List Oper} {d : Tmp} {t : TypeId} {x : Operand} {ty : TypeId} {pos : String} {after : Array Edge} {ad : Addr} {v : Value}
    (hx : a.eval x = .pointer (some ad)) (hr : (loadVar t ad).run P w = .ok v w) (h : wpListIn Fence.wide n P ops Q rest (a.put (some d) v) w) : wpListIn Fence.wide n P ops Q ({ dst := some d, op := Op.load t x, type := ty, pos := pos, after := after, guard := none } :: rest) a w := by
  refine wpListIn_plain rfl fun K hK => ⟨fun _ _ => trivial, ?_⟩
  have e : (Oper.semAt Fence.wide.round a.eval { dst := some d, op := Op.load t x, type := ty, pos := pos, after := after, guard := none }).run P w = .ok (.value v) w := by
    simp only [Fence.wide_round, Oper.semAt_none]
    show ((do pure (Next.value (← Instr.loadAt t (a.eval x)))) : Sem Next).run P w = _
    rw [hx]
    simp only [Instr.loadAt, Instr.sureAddr, Sem.run_bind, Sem.run_pure, Result.andThen_ok, hr]
  rw [e]
  exact hK _ _ h
set_option maxRecDepth 100000 in
set_option maxHeartbeats 2000000 in
theorem back19 (l : Nat) (ad : Addr) (n : Nat) (J : Nat → World → Prop) (w : World) (s0 : Value) (hl : (loadVar 44 ad).run Try.prog w = .ok s0 w) (hs : lenIs s0 n) (hn : n < 1152921504606846976)
    (hY : ∀ i W, i < n → J (i + 1) W → ∃ sa len cap v, (loadVar 44 ad).run Try.prog W = .ok (.slice (some sa) len cap) W ∧ i < len ∧ (loadVar 50 (sa.add (i * 4))).run Try.prog W = .ok v W ∧
        ∀ m, YieldAt Fence.wide m Try.prog l #[.int .i64 (i : Int), v] W fun e W' => e = .returned (.bool true) ∧ J i W') (h0 : J n w) :
    CallsIn Fence.wide 0 Try.prog 19 (#[.func (.yield l) #[] #[]] ++ #[.pointer (some ad)]) w fun e W' => (∃ v, e = .returned v) ∧ J 0 W' := by
  refine callsIn_of_wp Try.func19 rfl trivial ?_ rfl
  simp only [Try.ntmps19, List.size_toArray, List.length_cons, List.length_nil, Nat.reduceAdd, Nat.reduceSub, Array.replicate_succ, Array.replicate_zero, List.push_toArray, List.append_toArray, List.nil_append, List.cons_append]
  have hlen : ∃ a cap, s0 = .slice a n cap := by
    rcases hs with ⟨rfl, rfl⟩ | ⟨sa, cap, rfl⟩
    · exact ⟨none, 0, rfl⟩
    · exact ⟨some sa, cap, rfl⟩
  obtain ⟨a0, c0, rfl⟩ := hlen
  gi_wp2_with (refine list_load rfl ‹_› ?_)
  gi_loopw [3] (fun i wr => ∃ k : Nat, k ≤ n ∧ i = .int .i64 ((k : Int) - 1) ∧ J k wr) (fun i _ => (intOf i + 1).toNat)
  case atStart => exact ⟨n, Nat.le_refl _, rfl, h0⟩
  case round =>
    obtain ⟨k, hk, rfl, hJs⟩ := hrel
    cases k with
    | zero =>
      gi_wp2
      go_end0
      exact ⟨⟨_, rfl⟩, hJs⟩
    | succ k =>
      obtain ⟨sa, len, cap, v, hsl, hlt, hld, hy⟩ := hY k wr (by omega) hJs
      obtain ⟨fn, tmps, assign, body, hy, hR⟩ := hy 0
      gi_wp2_with (refine list_load rfl ‹_› ?_)
      refine ⟨rfl, hR.mono ?_⟩
      rintro e W3 ⟨rfl, hJ3⟩
      gi_wp2
      go_roundw
      case rel => exact ⟨k, by omega, rfl, hJ3⟩
      case measure => simp [intOf]
theorem iter19 : IterOK Try.prog 19 4 true :=
  ⟨⟨Try.f19, _, Try.func19, rfl, by decide⟩, .inl rfl, 44, 50, by kernel_rfl, by kernel_rfl, by kernel_rfl, by kernel_rfl, back19⟩
end Go.Proofs.Ytnbjicanbihgnaa

/- The functions that the laws reach, as abstract code: a table, and each one's code written out. -/
namespace Go.Proofs.Ytnbjicanbihgnaa
open Go Go.Vai
set_option maxRecDepth 100000
noncomputable def c3 : AF := (compF Try.prog Try.f3).getD dfl
noncomputable def c4 : AF := (compF Try.prog Try.f4).getD dfl
noncomputable def c5 : AF := (compF Try.prog Try.f5).getD dfl
noncomputable def c6 : AF := (compF Try.prog Try.f6).getD dfl
noncomputable def c7 : AF := (compF Try.prog Try.f7).getD dfl
noncomputable def c8 : AF := (compF Try.prog Try.f8).getD dfl
noncomputable def c9 : AF := (compF Try.prog Try.f9).getD dfl
noncomputable def c10 : AF := (compF Try.prog Try.f10).getD dfl
noncomputable def c11 : AF := (compF Try.prog Try.f11).getD dfl
noncomputable def c12 : AF := (compF Try.prog Try.f12).getD dfl
noncomputable def c13 : AF := (compF Try.prog Try.f13).getD dfl
noncomputable def c14 : AF := (compF Try.prog Try.f14).getD dfl
noncomputable def c15 : AF := (compF Try.prog Try.f15).getD dfl
noncomputable def c16 : AF := (compF Try.prog Try.f16).getD dfl
noncomputable def c17 : AF := (compF Try.prog Try.f17).getD dfl
noncomputable def c18 : AF := (compF Try.prog Try.f18).getD dfl
noncomputable def c19 : AF := .iter 4 true
noncomputable def tbl : Tr AF := (.node (.node (.node (.node (.node .leaf c15 .leaf) c7 .leaf) c3 (.node (.node .leaf c19 .leaf) c11 .leaf)) dfl (.node (.node (.node .leaf c17 .leaf) c9 .leaf) c5 (.node .leaf c13 .leaf))) dfl (.node (.node (.node (.node .leaf c16 .leaf) c8 .leaf) c4 (.node .leaf c12 .leaf)) dfl (.node (.node (.node .leaf c18 .leaf) c10 .leaf) c6 (.node .leaf c14 .leaf))))
theorem tbl_ok : TblOK Try.prog tbl := tblOK_of (show Tr.Forall (EntryOK Try.prog) tbl from
  ⟨.inl rfl, ⟨.inl rfl, ⟨entry_ok Try.func3, ⟨entry_ok Try.func7, ⟨entry_ok Try.func15, trivial, trivial⟩, trivial⟩, ⟨entry_ok Try.func11, ⟨.inr (.inr (.inr ⟨4, true, rfl, iter19⟩)), trivial, trivial⟩, trivial⟩⟩, ⟨entry_ok Try.func5, ⟨entry_ok Try.func9, ⟨entry_ok Try.func17, trivial, trivial⟩, trivial⟩, ⟨entry_ok Try.func13, trivial, trivial⟩⟩⟩, ⟨.inl rfl, ⟨entry_ok Try.func4, ⟨entry_ok Try.func8, ⟨entry_ok Try.func16, trivial, trivial⟩, trivial⟩, ⟨entry_ok Try.func12, trivial, trivial⟩⟩, ⟨entry_ok Try.func6, ⟨entry_ok Try.func10, ⟨entry_ok Try.func18, trivial, trivial⟩, trivial⟩, ⟨entry_ok Try.func14, trivial, trivial⟩⟩⟩⟩)
/-- chancel/chancellaw18.TapeFronts -/
noncomputable def B3 : AC := (.seq (.ops [O 8 (.mv (K (.b false)))]) (.seq (.seq (.ops [O 21 (.call (toPa 6) []), O 22 (.not (T 21))]) (.cond (T 22) (.seq (.ops [O 8 (.mv (K (.b false)))]) .ret) .skip)) (.seq (.seq (.ops [O 23 (.mv (T 0)), O 24 (.len false (T 23)), O 25 (.mv (T 1)), O 26 (.len false (T 25)), O 27 (.bin .add .no (T 24) (T 26)), O 28 (.bin .gtr .no (T 27) (K (.i .i64 200))), O 29 (.mv (T 28)), G 30 29 false (.mv (T 3)), G 31 29 false (.len false (T 30)), G 32 29 false (.bin .gtr .no (T 31) (K (.i .i64 10))), O 33 (.pick (T 29) (K (.b true)) (T 32))]) (.cond (T 33) (.seq (.ops [O 8 (.mv (K (.b true)))]) .ret) .skip)) (.seq (.ops [O 35 (.call (toPa 7) [(K (.i .i64 400))]), O 34 (.mv (T 35)), O 36 (.ext 0 (T 34)), O 37 (.ext 1 (T 34)), O 9 (.mv (T 36)), O 10 (.mv (T 37))]) (.seq (.ops [O 38 (.mv (T 2)), O 39 (.call (toPa 8) [(T 38), (K (.i .i64 100))]), O 2 (.mv (T 39))]) (.seq (.ops [O 40 (.mv (T 9)), O 41 (.mv (T 0)), O 42 (.call (toPa 9) [(T 40), (K (.i .i64 0)), (K (.i .i64 0)), (T 41)]), O 43 (.mv (T 9)), O 44 (.mv (T 2)), O 45 (.mv (T 1)), O 46 (.call (toPa 9) [(T 43), (K (.i .i64 0)), (T 44), (T 45)]), O 11 (.mv (T 42)), O 12 (.mv (T 46))]) (.seq (.ops [O 47 (.mv (T 9)), O 48 (.mv (T 3)), O 49 (.call (toPa 10) [(T 47), (T 48)]), O 13 (.mv (T 49))]) (.seq (.ops [O 50 (.mks 5 1 1 [(.i .u8 0)] (K (.i .i64 400)) (K (.i .i64 400))), O 14 (.mv (T 50))]) (.seq (.ops [O 51 (.mv (T 0)), O 52 (.mv (T 1)), O 53 (.bsl 22 1 2 [.ns, .ns] [(0, 1, (T 51)), (1, 1, (T 52))]), O 15 (.mv (T 53))]) (.seq (.seq (.ops [O 16 (.mv (K (.i .i64 0)))]) (.block 0 (.loop (.seq (.seq (.ops [O 54 (.mv (T 16)), O 55 (.bin .lss .no (T 54) (K (.i .i64 2)))]) (.cond (T 55) .skip (.exit 0))) (.seq (.block 1 (.seq (.ops [O 17 (.mv (K (.i .i64 0)))]) (.seq (.seq (.ops [O 58 (.mv (T 16)), O 59 (.mv (T 3)), O 60 (.len false (T 59)), O 61 (.bin .lss .no (T 58) (T 60))]) (.cond (T 61) (.draw 0 [(O 62 (.mv (T 3)), ⟨0, 0⟩), (O 63 (.mv (T 16)), ⟨0, 0⟩), (O 64 (.ixa 1 (T 62) (T 63)), ⟨0, 0⟩), (O 65 (.ld false 1 (T 64)), ⟨1, 0⟩), (O 66 (.mv (T 15)), ⟨0, 0⟩), (O 67 (.mv (T 16)), ⟨0, 0⟩), (O 68 (.ixa 1 (T 66) (T 67)), ⟨0, 0⟩), (O 69 (.ld false 1 (T 68)), ⟨1, 0⟩), (O 70 (.len false (T 69)), ⟨0, 0⟩), (O 71 (.bin .add .no (T 70) (K (.i .i64 1))), ⟨0, 0⟩), (O 72 (.call (toPa 8) [(T 65), (T 71)]), ⟨3, 0⟩), (O 17 (.mv (T 72)), ⟨0, 1⟩)]) .skip)) (.seq (.ops [O 18 (.mv (K (.i .i64 0)))]) (.block 2 (.loop (.seq (.seq (.ops [O 73 (.mv (T 18)), O 74 (.mv (T 17)), O 75 (.bin .lss .no (T 73) (T 74))]) (.cond (T 75) .skip (.exit 2))) (.seq (.block 3 (.ops [O 78 (.mv (T 14)), O 79 (.mv (T 16)), O 80 (.mv (T 2)), O 81 (.bin .mul .no (T 79) (T 80)), O 82 (.mv (T 18)), O 83 (.bin .add .no (T 81) (T 82)), O 84 (.mv (T 15)), O 85 (.mv (T 16)), O 86 (.ixa 1 (T 84) (T 85)), O 87 (.ld false 1 (T 86)), O 88 (.mv (T 18)), O 89 (.ixa 1 (T 87) (T 88)), O 90 (.ld false 1 (T 89)), O 91 (.ixa 1 (T 78) (T 83)), O_ (.st 1 (T 91) (T 90))])) (.ops [O 76 (.mv (T 18)), O 77 (.bin .add .no (T 76) (K (.i .i64 1))), O 18 (.mv (T 77))]))))))))) (.ops [O 56 (.mv (T 16)), O 57 (.bin .add .no (T 56) (K (.i .i64 1))), O 16 (.mv (T 57))])))))) (.seq (.ops [O 93 (.mv (T 9)), O 94 (.call (toPa 11) [(T 93), (K (.i .i64 0)), (K (.i .i64 0)), (K (.i .i64 400))]), O 92 (.mv (T 94)), O 95 (.ext 0 (T 92)), O 96 (.ext 1 (T 92)), O 19 (.mv (T 95)), O 20 (.mv (T 96))]) (.seq (.ops [O 97 (.mv (T 11)), O 98 (.bin .eql .no (T 97) (K (.i .i64 0))), O 99 (.mv (T 98)), G 100 99 true (.mv (T 12)), G 101 99 true (.bin .eql .no (T 100) (K (.i .i64 0))), O 102 (.pick (T 99) (T 101) (K (.b false))), O 103 (.mv (T 102)), G 104 103 true (.mv (T 20)), G 105 103 true (.bin .eql .no (T 104) (K (.i .i64 0))), O 106 (.pick (T 103) (T 105) (K (.b false))), O 107 (.mv (T 106)), G 108 107 true (.mv (T 13)), G 109 107 true (.bin .eql .no (T 108) (K (.i .i64 2))), O 110 (.pick (T 107) (T 109) (K (.b false))), O 111 (.mv (T 110)), G 112 111 true (.mv (T 19)), G 113 111 true (.b2s (T 112)), G 114 111 true (.mv (T 14)), G 115 111 true (.b2s (T 114)), G 116 111 true (.bin .eql .no (T 113) (T 115)), O 117 (.pick (T 111) (T 116) (K (.b false))), O 8 (.mv (T 117))]) .ret))))))))))))
theorem L3 : Tr.get dfl tbl (toPa 3) = .mk B3 [(.tmp (toPa 8))] := by kernel_rfl
/-- chancel/chancellaw18.TapeAreas -/
noncomputable def B4 : AC := (.seq (.ops [O 6 (.mv (K (.b false)))]) (.seq (.seq (.ops [O 17 (.call (toPa 6) []), O 18 (.not (T 17))]) (.cond (T 18) (.seq (.ops [O 6 (.mv (K (.b false)))]) .ret) .skip)) (.seq (.ops [O 20 (.call (toPa 7) [(K (.i .i64 50))]), O 19 (.mv (T 20)), O 21 (.ext 0 (T 19)), O 22 (.ext 1 (T 19)), O 7 (.mv (T 21)), O 8 (.mv (T 22))]) (.seq (.ops [O 23 (.mv (T 7)), O 24 (.bsl 5 1 4 [(.i .u8 0), (.i .u8 0), (.i .u8 0), (.i .u8 0)] [(0, 1, (K (.i .u8 122))), (1, 1, (K (.i .u8 101))), (2, 1, (K (.i .u8 114))), (3, 1, (K (.i .u8 111)))]), O 25 (.frz (T 24)), O 26 (.call (toPa 9) [(T 23), (K (.i .i64 0)), (K (.i .i64 0)), (T 25)])]) (.seq (.ops [O 27 (.mv (T 7)), O 28 (.bsl 5 1 4 [(.i .u8 0), (.i .u8 0), (.i .u8 0), (.i .u8 0)] [(0, 1, (K (.i .u8 111))), (1, 1, (K (.i .u8 110))), (2, 1, (K (.i .u8 101))), (3, 1, (K (.i .u8 33)))]), O 29 (.frz (T 28)), O 30 (.call (toPa 9) [(T 27), (K (.i .i64 1)), (K (.i .i64 0)), (T 29)])]) (.seq (.ops [O 31 (.mv (T 0)), O 32 (.bin .eql .no (T 31) (K (.i .i64 0))), O 33 (.mv (T 32)), G 34 33 false (.mv (T 0)), G 35 33 false (.bin .eql .no (T 34) (K (.i .i64 1))), O 36 (.pick (T 33) (K (.b true)) (T 35)), O 37 (.mv (T 36)), G 38 37 true (.mv (T 1)), G 39 37 true (.bin .geq .no (T 38) (K (.i .i64 0))), O 40 (.pick (T 37) (T 39) (K (.b false))), O 41 (.mv (T 40)), G 42 41 true (.mv (T 1)), G 43 41 true (.bin .leq .no (T 42) (K (.i .i64 50))), O 44 (.pick (T 41) (T 43) (K (.b false))), O 45 (.mv (T 44)), G 46 45 true (.mv (T 2)), G 47 45 true (.bin .geq .no (T 46) (K (.i .i64 0))), O 48 (.pick (T 45) (T 47) (K (.b false))), O 49 (.mv (T 48)), G 50 49 true (.mv (T 2)), G 51 49 true (.mv (T 1)), G 52 49 true (.bin .sub .no (K (.i .i64 50)) (T 51)), G 53 49 true (.bin .leq .no (T 50) (T 52)), O 54 (.pick (T 49) (T 53) (K (.b false))), O 9 (.mv (T 54))]) (.seq (.ops [O 56 (.mv (T 7)), O 57 (.mv (T 0)), O 58 (.mv (T 1)), O 59 (.mv (T 2)), O 60 (.call (toPa 11) [(T 56), (T 57), (T 58), (T 59)]), O 55 (.mv (T 60)), O 61 (.ext 0 (T 55)), O 62 (.ext 1 (T 55)), O 10 (.mv (T 61)), O 11 (.mv (T 62))]) (.seq (.ops [O 12 (.mv (K (.i .i64 0)))]) (.seq (.seq (.ops [O 63 (.mv (T 2)), O 64 (.bin .geq .no (T 63) (K (.i .i64 0))), O 65 (.mv (T 64)), G 66 65 true (.mv (T 2)), G 67 65 true (.bin .leq .no (T 66) (K (.i .i64 100))), O 68 (.pick (T 65) (T 67) (K (.b false)))]) (.cond (T 68) (.seq (.ops [O 69 (.mv (T 7)), O 70 (.mv (T 0)), O 71 (.mv (T 1)), O 72 (.mv (T 2)), O 73 (.mks 5 1 1 [(.i .u8 0)] (T 72) (T 72)), O 74 (.call (toPa 9) [(T 69), (T 70), (T 71), (T 73)]), O 12 (.mv (T 74))]) (.seq (.ops [O 75 (.mv (T 12)), O 76 (.bin .eql .no (T 75) (K (.i .i64 0))), O 77 (.mv (T 9)), O 78 (.bin .neq .bool (T 76) (T 77))]) (.cond (T 78) (.seq (.ops [O 6 (.mv (K (.b false)))]) .ret) .skip))) .skip)) (.seq (.seq (.ops [O 79 (.mv (T 11)), O 80 (.bin .eql .no (T 79) (K (.i .i64 0))), O 81 (.mv (T 9)), O 82 (.bin .neq .bool (T 80) (T 81)), O 83 (.mv (T 82)), G 84 83 false (.mv (T 11)), G 85 83 false (.bin .neq .no (T 84) (K (.i .i64 0))), G 86 83 false (.mv (T 85)), G 87 86 true (.mv (T 11)), G 88 86 true (.bin .neq .no (T 87) (K (.i .i64 1))), G 89 83 false (.pick (T 86) (T 88) (K (.b false))), O 90 (.pick (T 83) (K (.b true)) (T 89)), O 91 (.mv (T 90)), G 92 91 false (.mv (T 12)), G 93 91 false (.bin .neq .no (T 92) (K (.i .i64 0))), G 94 91 false (.mv (T 93)), G 95 94 true (.mv (T 12)), G 96 94 true (.bin .neq .no (T 95) (K (.i .i64 1))), G 97 91 false (.pick (T 94) (T 96) (K (.b false))), O 98 (.pick (T 91) (K (.b true)) (T 97))]) (.cond (T 98) (.seq (.ops [O 6 (.mv (K (.b false)))]) .ret) .skip)) (.seq (.ops [O 100 (.mv (T 7)), O 101 (.call (toPa 11) [(T 100), (K (.i .i64 0)), (K (.i .i64 0)), (K (.i .i64 4))]), O 99 (.mv (T 101)), O 102 (.ext 0 (T 99)), O 103 (.ext 1 (T 99)), O 13 (.mv (T 102)), O 14 (.mv (T 103))]) (.seq (.ops [O 105 (.mv (T 7)), O 106 (.call (toPa 11) [(T 105), (K (.i .i64 1)), (K (.i .i64 0)), (K (.i .i64 4))]), O 104 (.mv (T 106)), O 107 (.ext 0 (T 104)), O 108 (.ext 1 (T 104)), O 15 (.mv (T 107)), O 16 (.mv (T 108))]) (.seq (.ops [O 109 (.mv (T 9)), O 110 (.mv (T 109)), G 111 110 false (.mv (T 13)), G 112 110 false (.b2s (T 111)), G 113 110 false (.bin .eql .no (T 112) (K (str [122, 101, 114, 111]))), G 114 110 false (.mv (T 113)), G 115 114 true (.mv (T 15)), G 116 114 true (.b2s (T 115)), G 117 114 true (.bin .eql .no (T 116) (K (str [111, 110, 101, 33]))), G 118 110 false (.pick (T 114) (T 117) (K (.b false))), G 119 110 false (.mv (T 118)), G 120 119 true (.mv (T 7)), G 121 119 true (.call (toPa 12) [(T 120)]), G 122 119 true (.bin .eql .no (T 121) (K (.i .i64 2))), G 123 110 false (.pick (T 119) (T 122) (K (.b false))), O 124 (.pick (T 110) (K (.b true)) (T 123)), O 6 (.mv (T 124))]) .ret)))))))))))))
theorem L4 : Tr.get dfl tbl (toPa 4) = .mk B4 [(.tmp (toPa 6))] := by kernel_rfl
/-- chancel/chancellaw18.TapeStays -/
noncomputable def B5 : AC := (.seq (.ops [O 6 (.mv (K (.b false)))]) (.seq (.seq (.ops [O 14 (.call (toPa 6) []), O 15 (.not (T 14))]) (.cond (T 15) (.seq (.ops [O 6 (.mv (K (.b false)))]) .ret) .skip)) (.seq (.seq (.ops [O 16 (.mv (T 0)), O 17 (.len false (T 16)), O 18 (.bin .gtr .no (T 17) (K (.i .i64 200))), O 19 (.mv (T 18)), G 20 19 false (.mv (T 2)), G 21 19 false (.len false (T 20)), G 22 19 false (.bin .gtr .no (T 21) (K (.i .i64 50))), O 23 (.pick (T 19) (K (.b true)) (T 22))]) (.cond (T 23) (.seq (.ops [O 6 (.mv (K (.b true)))]) .ret) .skip)) (.seq (.ops [O 25 (.call (toPa 7) [(K (.i .i64 1000))]), O 24 (.mv (T 25)), O 26 (.ext 0 (T 24)), O 27 (.ext 1 (T 24)), O 7 (.mv (T 26)), O 8 (.mv (T 27))]) (.seq (.seq (.ops [O 28 (.mv (T 7)), O 29 (.mv (T 0)), O 30 (.call (toPa 9) [(T 28), (K (.i .i64 1)), (K (.i .i64 500)), (T 29)]), O 31 (.bin .neq .no (T 30) (K (.i .i64 0))), O 32 (.mv (T 31)), G 33 32 false (.mv (T 7)), G 34 32 false (.call (toPa 13) [(T 33)]), G 35 32 false (.bin .neq .no (T 34) (K (.i .i64 0))), O 36 (.pick (T 32) (K (.b true)) (T 35))]) (.cond (T 36) (.seq (.ops [O 6 (.mv (K (.b false)))]) .ret) .skip)) (.seq (.seq (.ops [O 9 (.mv (K (.i .i64 0)))]) (.block 0 (.loop (.seq (.seq (.ops [O 37 (.mv (T 9)), O 38 (.mv (T 1)), O 39 (.len false (T 38)), O 40 (.bin .lss .no (T 37) (T 39)), O 41 (.mv (T 40)), G 42 41 true (.mv (T 9)), G 43 41 true (.bin .lss .no (T 42) (K (.i .i64 30))), O 44 (.pick (T 41) (T 43) (K (.b false)))]) (.cond (T 44) .skip (.exit 0))) (.seq (.block 1 (.seq (.ops [O 47 (.mv (T 1)), O 48 (.mv (T 9)), O 49 (.ixa 6 (T 47) (T 48)), O 50 (.ld true 6 (T 49)), O 10 (.new 41 [(.i .i64 0), (.i .i64 0), (.i .i64 0), (.i .i64 0), .ns, .ns]), O_ (.st 6 (T 10) (T 50))]) (.seq (.seq (.ops [O 51 (.fa 4 (T 10)), O 52 (.ld false 1 (T 51)), O 53 (.len false (T 52)), O 54 (.bin .gtr .no (T 53) (K (.i .i64 200)))]) (.cond (T 54) (.exit 1) .skip)) (.seq (.ops [O 55 (.fa 2 (T 10)), O 56 (.ld false 1 (T 55)), O 57 (.call (toPa 8) [(T 56), (K (.i .i64 300))]), O 11 (.mv (T 57))]) (.seq (.seq (.draw 0 [(O 58 (.fa 0 (T 10)), ⟨0, 0⟩), (O 59 (.ld false 1 (T 58)), ⟨1, 0⟩), (O 60 (.call (toPa 8) [(T 59), (K (.i .i64 6))]), ⟨3, 0⟩), (O 61 (.bin .lss .no (T 60) (K (.i .i64 4))), ⟨0, 1⟩), (O 62 (.mv (T 61)), ⟨0, 1⟩), (G 64 62 true (.fa 1 (T 10)), ⟨0, 1⟩), (G 65 62 true (.ld false 1 (T 64)), ⟨1, 1⟩), (G 66 62 true (.call (toPa 8) [(T 65), (K (.i .i64 2))]), ⟨3, 1⟩), (G 63 62 true (.mv (T 7)), ⟨0, 1⟩), (G 67 62 true (.mv (T 11)), ⟨0, 1⟩), (G 68 62 true (.fa 4 (T 10)), ⟨0, 1⟩), (G 69 62 true (.ld false 1 (T 68)), ⟨1, 1⟩), (G 70 62 true (.call (toPa 9) [(T 63), (T 66), (T 67), (T 69)]), ⟨3, 2⟩), (G 71 62 true (.bin .neq .no (T 70) (K (.i .i64 0))), ⟨0, 3⟩), (O 72 (.pick (T 62) (T 71) (K (.b false))), ⟨0, 3⟩), (O 73 (.mv (T 72)), ⟨0, 3⟩), (G 74 73 false (.fa 0 (T 10)), ⟨0, 3⟩), (G 75 73 false (.ld false 1 (T 74)), ⟨1, 3⟩), (G 76 73 false (.call (toPa 8) [(T 75), (K (.i .i64 6))]), ⟨3, 3⟩), (G 77 73 false (.bin .eql .no (T 76) (K (.i .i64 4))), ⟨0, 4⟩), (G 78 73 false (.mv (T 77)), ⟨0, 4⟩), (G 79 78 true (.mv (T 7)), ⟨0, 4⟩), (G 80 78 true (.call (toPa 13) [(T 79)]), ⟨3, 4⟩), (G 81 78 true (.bin .neq .no (T 80) (K (.i .i64 0))), ⟨0, 5⟩), (G 82 73 false (.pick (T 78) (T 81) (K (.b false))), ⟨0, 5⟩), (O 83 (.pick (T 73) (K (.b true)) (T 82)), ⟨0, 5⟩)]) (.cond (T 83) (.seq (.ops [O 6 (.mv (K (.b false)))]) .ret) .skip)) (.seq (.seq (.ops [O 84 (.fa 0 (T 10)), O 85 (.ld false 1 (T 84)), O 86 (.call (toPa 8) [(T 85), (K (.i .i64 6))]), O 87 (.bin .eql .no (T 86) (K (.i .i64 5)))]) (.cond (T 87) (.ops [O 88 (.mv (T 7)), O 89 (.mv (T 2)), O 90 (.call (toPa 10) [(T 88), (T 89)])]) .skip)) (.seq (.ops [O 92 (.mv (T 7)), O 93 (.mv (T 0)), O 94 (.len false (T 93)), O 95 (.call (toPa 11) [(T 92), (K (.i .i64 1)), (K (.i .i64 500)), (T 94)]), O 91 (.mv (T 95)), O 96 (.ext 0 (T 91)), O 97 (.ext 1 (T 91)), O 12 (.mv (T 96)), O 13 (.mv (T 97))]) (.seq (.ops [O 98 (.mv (T 13)), O 99 (.bin .neq .no (T 98) (K (.i .i64 0))), O 100 (.mv (T 99)), G 101 100 false (.mv (T 12)), G 102 100 false (.b2s (T 101)), G 103 100 false (.mv (T 0)), G 104 100 false (.b2s (T 103)), G 105 100 false (.bin .neq .no (T 102) (T 104)), O 106 (.pick (T 100) (K (.b true)) (T 105))]) (.cond (T 106) (.seq (.ops [O 6 (.mv (K (.b false)))]) .ret) .skip))))))))) (.ops [O 45 (.mv (T 9)), O 46 (.bin .add .no (T 45) (K (.i .i64 1))), O 9 (.mv (T 46))])))))) (.seq (.ops [O 6 (.mv (K (.b true)))]) .ret)))))))
theorem L5 : Tr.get dfl tbl (toPa 5) = .mk B5 [(.tmp (toPa 6))] := by kernel_rfl
/-- chancel/chancellaw18.known -/
noncomputable def B6 : AC := (.seq (.ops [O 0 (.mv (K (.b false)))]) (.seq (.ops [O 8 (.call (toPa 7) [(K (.i .i64 10))]), O 7 (.mv (T 8)), O 9 (.ext 0 (T 7)), O 10 (.ext 1 (T 7)), O 1 (.mv (T 9)), O 2 (.mv (T 10))]) (.seq (.seq (.ops [O 11 (.mv (T 2)), O 12 (.bin .neq .no (T 11) (K (.i .i64 0))), O 13 (.mv (T 12)), G 14 13 false (.mv (T 1)), G 15 13 false (.bin .eql .ptr (T 14) (K .np)), O 16 (.pick (T 13) (K (.b true)) (T 15))]) (.cond (T 16) (.seq (.ops [O 0 (.mv (K (.b false)))]) .ret) .skip)) (.seq (.ops [O 17 (.mv (T 1)), O 18 (.bsl 5 1 3 [(.i .u8 0), (.i .u8 0), (.i .u8 0)] [(0, 1, (K (.i .u8 97))), (1, 1, (K (.i .u8 98))), (2, 1, (K (.i .u8 99)))]), O 19 (.frz (T 18)), O 20 (.call (toPa 9) [(T 17), (K (.i .i64 0)), (K (.i .i64 0)), (T 19)]), O 3 (.mv (T 20))]) (.seq (.ops [O 21 (.mv (T 1)), O 22 (.bsl 3 1 1 [(.i .i64 0)] [(0, 1, (K (.i .i64 2)))]), O 23 (.call (toPa 10) [(T 21), (T 22)]), O 4 (.mv (T 23))]) (.seq (.ops [O 25 (.mv (T 1)), O 26 (.call (toPa 11) [(T 25), (K (.i .i64 0)), (K (.i .i64 0)), (K (.i .i64 3))]), O 24 (.mv (T 26)), O 27 (.ext 0 (T 24)), O 28 (.ext 1 (T 24)), O 5 (.mv (T 27)), O 6 (.mv (T 28))]) (.seq (.ops [O 29 (.mv (T 3)), O 30 (.bin .eql .no (T 29) (K (.i .i64 0))), O 31 (.mv (T 30)), G 32 31 true (.mv (T 4)), G 33 31 true (.bin .eql .no (T 32) (K (.i .i64 1))), O 34 (.pick (T 31) (T 33) (K (.b false))), O 35 (.mv (T 34)), G 36 35 true (.mv (T 6)), G 37 35 true (.bin .eql .no (T 36) (K (.i .i64 0))), O 38 (.pick (T 35) (T 37) (K (.b false))), O 39 (.mv (T 38)), G 40 39 true (.mv (T 5)), G 41 39 true (.b2s (T 40)), G 42 39 true (.bin .eql .no (T 41) (K (str [97, 98, 0]))), O 43 (.pick (T 39) (T 42) (K (.b false))), O 0 (.mv (T 43))]) .ret)))))))
theorem L6 : Tr.get dfl tbl (toPa 6) = .mk B6 [(.tmp (toPa 0))] := by kernel_rfl
/-- chancel/tape.New -/
noncomputable def B7 : AC := (.seq (.ops [O 2 (.mv (K .np)), O 3 (.mv (K (.i .i64 0)))]) (.seq (.seq (.ops [O 6 (.mv (T 0)), O 7 (.bin .lss .no (T 6) (K (.i .i64 1))), O 8 (.mv (T 7)), G 9 8 false (.mv (T 0)), G 10 8 false (.bin .gtr .no (T 9) (K (.i .i64 16777216))), O 11 (.pick (T 8) (K (.b true)) (T 10))]) (.cond (T 11) (.seq (.ops [O 2 (.mv (K .np)), O 3 (.mv (K (.i .i64 1)))]) .ret) .skip)) (.seq (.ops [O 12 (.build [.ns, .ns, .ns, (.i .i64 0), (.b false), (.i .i64 0)] []), O 13 (.box 46 (T 12)), O 4 (.mv (T 13))]) (.seq (.seq (.ops [O 14 (.mv (K (.i .i64 0)))]) (.block 0 (.loop (.seq (.ops [O 15 (.bin .lss .no (T 14) (K (.i .i64 2)))]) (.seq (.cond (T 15) .skip (.exit 0)) (.seq (.block 1 (.seq (.ops [O 16 (.mv (T 14)), O 5 (.mv (T 16))]) (.draw 0 [(O 19 (.mv (T 0)), ⟨0, 0⟩), (O 20 (.mks 5 1 1 [(.i .u8 0)] (T 19) (T 19)), ⟨3, 0⟩), (O 17 (.mv (T 4)), ⟨0, 0⟩), (O 18 (.mv (T 5)), ⟨0, 0⟩), (O 21 (.nilck (T 17)), ⟨0, 0⟩), (O 22 (.fa 0 (T 21)), ⟨0, 0⟩), (O 23 (.ixp 2 1 (T 22) (T 18)), ⟨0, 1⟩), (O_ (.st 1 (T 23) (T 20)), ⟨3, 1⟩)]))) (.ops [O 24 (.bin .add .no (T 14) (K (.i .i64 1))), O 14 (.mv (T 24))]))))))) (.seq (.ops [O 25 (.mv (T 4)), O 2 (.mv (T 25)), O 3 (.mv (K (.i .i64 0)))]) .ret)))))
theorem L7 : Tr.get dfl tbl (toPa 7) = .mk B7 [(.tmp (toPa 2)), (.tmp (toPa 3))] := by kernel_rfl
/-- chancel/chancellaw18.within -/
noncomputable def B8 : AC := (.seq (.ops [O 4 (.mv (K (.i .i64 0)))]) (.seq (.ops [O 6 (.mv (T 0)), O 7 (.mv (T 1)), O 8 (.bin .rem .no (T 6) (T 7)), O 5 (.mv (T 8))]) (.seq (.seq (.ops [O 9 (.mv (T 5)), O 10 (.bin .lss .no (T 9) (K (.i .i64 0)))]) (.cond (T 10) (.ops [O 11 (.mv (T 5)), O 12 (.mv (T 1)), O 13 (.bin .add .no (T 11) (T 12)), O 5 (.mv (T 13))]) .skip)) (.seq (.ops [O 14 (.mv (T 5)), O 4 (.mv (T 14))]) .ret))))
theorem L8 : Tr.get dfl tbl (toPa 8) = .mk B8 [(.tmp (toPa 4))] := by kernel_rfl
/-- (*chancel/tape.Tape).Write -/
noncomputable def B9 : AC := (.seq (.ops [O 8 (.mv (K (.i .i64 0)))]) (.seq (.seq (.ops [O 11 (.mv (T 0)), O 12 (.mv (T 1)), O 13 (.mv (T 2)), O 14 (.mv (T 3)), O 15 (.len false (T 14)), O 16 (.call (toPa 14) [(T 11), (T 12), (T 13), (T 15)]), O 9 (.mv (T 16))]) (.seq (.ops [O 17 (.mv (T 9)), O 18 (.bin .neq .no (T 17) (K (.i .i64 0)))]) (.cond (T 18) (.seq (.ops [O 19 (.mv (T 9)), O 8 (.mv (T 19))]) .ret) .skip))) (.seq (.ops [O 20 (.mv (T 0)), O 21 (.call (toPa 15) [(T 20)]), O 10 (.mv (T 21))]) (.seq (.draw 1 [(O 29 (.mv (T 3)), ⟨0, 0⟩), (O 30 (.call (toPa 16) [(T 29)]), ⟨3, 0⟩), (O 31 (.mv (T 0)), ⟨0, 0⟩), (O 32 (.mv (T 1)), ⟨0, 0⟩), (O 33 (.nilck (T 31)), ⟨0, 0⟩), (O 34 (.fa 0 (T 33)), ⟨0, 0⟩), (O 35 (.ixp 2 1 (T 34) (T 32)), ⟨0, 0⟩), (O 36 (.ld false 1 (T 35)), ⟨1, 0⟩), (O 37 (.mv (T 2)), ⟨0, 0⟩), (O 38 (.mv (T 2)), ⟨0, 0⟩), (O 39 (.mv (T 3)), ⟨0, 0⟩), (O 40 (.len false (T 39)), ⟨0, 0⟩), (O 41 (.bin .add .no (T 38) (T 40)), ⟨0, 0⟩), (O 42 (.sll 1 (T 36) (some (T 37)) (some (T 41)) none), ⟨0, 0⟩), (O 43 (.call (toPa 16) [(T 42)]), ⟨3, 1⟩), (O 23 (.mv (T 0)), ⟨0, 0⟩), (O 24 (.nilck (T 23)), ⟨0, 0⟩), (O 25 (.fa 2 (T 24)), ⟨0, 0⟩), (O 26 (.ld false 1 (T 25)), ⟨1, 0⟩), (O 27 (.mv (T 1)), ⟨0, 0⟩), (O 28 (.mv (T 2)), ⟨0, 0⟩), (O 44 (.build [(.i .i64 0), (.i .i64 0), .ns, .ns] [(0, 1, (T 27)), (1, 1, (T 28)), (2, 1, (T 30)), (3, 1, (T 43))]), ⟨0, 2⟩), (O 45 (.bsl 50 4 1 [(.i .i64 0), (.i .i64 0), .ns, .ns] [(0, 4, (T 44))]), ⟨2, 2⟩), (O 46 (.app 50 4 64 (T 26) (T 45)), ⟨3, 2⟩), (O 22 (.mv (T 0)), ⟨0, 0⟩), (O 47 (.nilck (T 22)), ⟨0, 3⟩), (O 48 (.fa 2 (T 47)), ⟨0, 3⟩), (O_ (.st 1 (T 48) (T 46)), ⟨3, 3⟩)]) (.seq (.ops [O 49 (.mv (T 0)), O 50 (.mv (T 1)), O 51 (.mv (T 2)), O 52 (.mv (T 3)), O 53 (.call (toPa 17) [(T 49), (T 50), (T 51), (T 52)])]) (.seq (.seq (.ops [O 54 (.mv (T 10)), O 55 (.not (T 54))]) (.cond (T 55) (.seq (.ops [O 8 (.mv (K (.i .i64 32)))]) .ret) .skip)) (.seq (.ops [O 8 (.mv (K (.i .i64 0)))]) .ret)))))))
theorem L9 : Tr.get dfl tbl (toPa 9) = .mk B9 [(.tmp (toPa 8))] := by kernel_rfl
/-- (*chancel/tape.Tape).Crash -/
noncomputable def B10 : AC := (.seq (.ops [O 2 (.box 25 (T 0)), O 4 (.mv (K (.i .i64 0)))]) (.seq (.ops [O 12 (.ld false 1 (T 2)), O 13 (.nilck (T 12)), O 14 (.fa 2 (T 13)), O 15 (.ld false 1 (T 14)), O 5 (.mv (T 15))]) (.seq (.seq (.ops [O 16 (.mv (T 5)), O 17 (.call (toPa 18) [(T 16)])]) (.block 0 (.back (T 17) (toPa 18) (toPa 19) (.ops [O 7 (.new 50 [(.i .i64 0), (.i .i64 0), .ns, .ns]), O_ (.st 4 (T 7) (T 19))]) (.block 1 (.ops [O 20 (.ld false 1 (T 2)), O 21 (.fa 0 (T 7)), O 22 (.ld false 1 (T 21)), O 23 (.fa 1 (T 7)), O 24 (.ld false 1 (T 23)), O 25 (.fa 3 (T 7)), O 26 (.ld false 1 (T 25)), O 27 (.call (toPa 17) [(T 20), (T 22), (T 24), (T 26)])]))))) (.seq (.seq (.ops [O 28 (.mv (T 5)), O 29 (.len false (T 28)), O 30 (.mv (K (.i .i64 0)))]) (.block 2 (.loop (.seq (.ops [O 31 (.bin .lss .no (T 30) (T 29))]) (.seq (.cond (T 31) .skip (.exit 2)) (.seq (.block 3 (.seq (.ops [O 32 (.mv (T 30)), O 33 (.ixa 4 (T 28) (T 30)), O 34 (.ld true 4 (T 33)), O 9 (.new 50 [(.i .i64 0), (.i .i64 0), .ns, .ns]), O 8 (.mv (T 32)), O_ (.st 4 (T 9) (T 34))]) (.seq (.ops [O 10 (.mv (K (.i .i64 0)))]) (.seq (.seq (.ops [O 35 (.fa 2 (T 9)), O 36 (.ld false 1 (T 35)), O 37 (.len false (T 36)), O 38 (.bin .add .no (T 37) (K (.i .i64 1))), O 11 (.mv (T 38))]) (.seq (.ops [O 39 (.mv (T 8)), O 40 (.mv (T 1)), O 41 (.len false (T 40)), O 42 (.bin .lss .no (T 39) (T 41))]) (.cond (T 42) (.ops [O 43 (.mv (T 1)), O 44 (.mv (T 8)), O 45 (.ixa 1 (T 43) (T 44)), O 46 (.ld false 1 (T 45)), O 47 (.mv (T 11)), O 48 (.bin .rem .no (T 46) (T 47)), O 49 (.mv (T 11)), O 50 (.bin .add .no (T 48) (T 49)), O 51 (.mv (T 11)), O 52 (.bin .rem .no (T 50) (T 51)), O 10 (.mv (T 52))]) .skip))) (.draw 0 [(O 53 (.ld false 1 (T 2)), ⟨1, 0⟩), (O 54 (.fa 0 (T 9)), ⟨0, 0⟩), (O 55 (.ld false 1 (T 54)), ⟨1, 0⟩), (O 56 (.fa 1 (T 9)), ⟨0, 0⟩), (O 57 (.ld false 1 (T 56)), ⟨1, 0⟩), (O 58 (.fa 2 (T 9)), ⟨0, 0⟩), (O 59 (.ld false 1 (T 58)), ⟨1, 0⟩), (O 60 (.mv (T 10)), ⟨0, 0⟩), (O 61 (.sll 1 (T 59) none (some (T 60)) none), ⟨0, 0⟩), (O 62 (.call (toPa 17) [(T 53), (T 55), (T 57), (T 61)]), ⟨3, 0⟩)]))))) (.ops [O 63 (.bin .add .no (T 30) (K (.i .i64 1))), O 30 (.mv (T 63))]))))))) (.seq (.draw 0 [(O 64 (.ld false 1 (T 2)), ⟨1, 0⟩), (O 67 (.nilck (T 64)), ⟨0, 0⟩), (O 68 (.fa 2 (T 67)), ⟨0, 0⟩), (O_ (.st 1 (T 68) (K .ns)), ⟨3, 0⟩), (O 65 (.ld false 1 (T 2)), ⟨1, 0⟩), (O 69 (.nilck (T 65)), ⟨0, 1⟩), (O 70 (.fa 4 (T 69)), ⟨0, 1⟩), (O_ (.st 1 (T 70) (K (.b false))), ⟨3, 1⟩), (O 66 (.ld false 1 (T 2)), ⟨1, 0⟩), (O 71 (.nilck (T 66)), ⟨0, 2⟩), (O 72 (.fa 3 (T 71)), ⟨0, 2⟩), (O_ (.st 1 (T 72) (K (.i .i64 0))), ⟨3, 2⟩)]) (.seq (.ops [O 73 (.mv (T 5)), O 74 (.len false (T 73)), O 4 (.mv (T 74))]) .ret))))))
theorem L10 : Tr.get dfl tbl (toPa 10) = .mk B10 [(.tmp (toPa 4))] := by kernel_rfl
/-- (*chancel/tape.Tape).Read -/
noncomputable def B11 : AC := (.seq (.ops [O 8 (.mv (K .ns)), O 9 (.mv (K (.i .i64 0)))]) (.seq (.seq (.ops [O 11 (.mv (T 0)), O 12 (.mv (T 1)), O 13 (.mv (T 2)), O 14 (.mv (T 3)), O 15 (.call (toPa 14) [(T 11), (T 12), (T 13), (T 14)]), O 10 (.mv (T 15))]) (.seq (.ops [O 16 (.mv (T 10)), O 17 (.bin .neq .no (T 16) (K (.i .i64 0)))]) (.cond (T 17) (.seq (.ops [O 18 (.mv (T 10)), O 8 (.mv (K .ns)), O 9 (.mv (T 18))]) .ret) .skip))) (.seq (.ops [O 19 (.mv (T 0)), O 20 (.mv (T 1)), O 21 (.nilck (T 19)), O 22 (.fa 0 (T 21)), O 23 (.ixp 2 1 (T 22) (T 20)), O 24 (.ld false 1 (T 23)), O 25 (.mv (T 2)), O 26 (.mv (T 2)), O 27 (.mv (T 3)), O 28 (.bin .add .no (T 26) (T 27)), O 29 (.sll 1 (T 24) (some (T 25)) (some (T 28)) none), O 30 (.call (toPa 16) [(T 29)]), O 8 (.mv (T 30)), O 9 (.mv (K (.i .i64 0)))]) .ret)))
theorem L11 : Tr.get dfl tbl (toPa 11) = .mk B11 [(.tmp (toPa 8)), (.tmp (toPa 9))] := by kernel_rfl
/-- (*chancel/tape.Tape).Ops -/
noncomputable def B12 : AC := (.seq (.ops [O 2 (.mv (K (.i .i64 0)))]) (.seq (.ops [O 3 (.mv (T 0)), O 4 (.nilck (T 3)), O 5 (.fa 5 (T 4)), O 6 (.ld false 1 (T 5)), O 2 (.mv (T 6))]) .ret))
theorem L12 : Tr.get dfl tbl (toPa 12) = .mk B12 [(.tmp (toPa 2))] := by kernel_rfl
/-- (*chancel/tape.Tape).Sync -/
noncomputable def B13 : AC := (.seq (.ops [O 2 (.mv (K (.i .i64 0)))]) (.seq (.seq (.ops [O 3 (.mv (T 0)), O 4 (.nilck (T 3)), O 5 (.fa 4 (T 4)), O 6 (.ld false 1 (T 5)), O 7 (.mv (T 6)), G 8 7 false (.mv (T 0)), G 9 7 false (.call (toPa 15) [(T 8)]), G 10 7 false (.not (T 9)), O 11 (.pick (T 7) (K (.b true)) (T 10))]) (.cond (T 11) (.seq (.ops [O 2 (.mv (K (.i .i64 32)))]) .ret) .skip)) (.seq (.ops [O 12 (.mv (T 0)), O 13 (.nilck (T 12)), O 14 (.fa 2 (T 13)), O_ (.st 1 (T 14) (K .ns))]) (.seq (.ops [O 2 (.mv (K (.i .i64 0)))]) .ret))))
theorem L13 : Tr.get dfl tbl (toPa 13) = .mk B13 [(.tmp (toPa 2))] := by kernel_rfl
/-- (*chancel/tape.Tape).may -/
noncomputable def B14 : AC := (.seq (.ops [O 8 (.mv (K (.i .i64 0)))]) (.seq (.block 0 (.seq (.ops [O 10 (.mv (T 0)), O 11 (.nilck (T 10)), O 12 (.fa 4 (T 11)), O 13 (.ld false 1 (T 12)), O 9 (.mv (T 13))]) (.cond (T 9) (.seq (.ops [O 8 (.mv (K (.i .i64 32)))]) .ret) (.seq (.ops [O 15 (.mv (T 1)), O 16 (.bin .lss .no (T 15) (K (.i .i64 0))), O 17 (.mv (T 16)), G 18 17 false (.mv (T 1)), G 19 17 false (.bin .geq .no (T 18) (K (.i .i64 2))), O 20 (.pick (T 17) (K (.b true)) (T 19)), O 21 (.mv (T 20)), G 22 21 false (.mv (T 2)), G 23 21 false (.bin .lss .no (T 22) (K (.i .i64 0))), O 24 (.pick (T 21) (K (.b true)) (T 23)), O 25 (.mv (T 24)), G 26 25 false (.mv (T 3)), G 27 25 false (.bin .lss .no (T 26) (K (.i .i64 0))), O 28 (.pick (T 25) (K (.b true)) (T 27)), O 29 (.mv (T 28)), G 30 29 false (.mv (T 2)), G 31 29 false (.mv (T 0)), G 32 29 false (.mv (T 1)), G 33 29 false (.nilck (T 31)), G 34 29 false (.fa 0 (T 33)), G 35 29 false (.ixp 2 1 (T 34) (T 32)), G 36 29 false (.ld false 1 (T 35)), G 37 29 false (.len false (T 36)), G 38 29 false (.bin .gtr .no (T 30) (T 37)), O 39 (.pick (T 29) (K (.b true)) (T 38)), O 40 (.mv (T 39)), G 41 40 false (.mv (T 3)), G 42 40 false (.mv (T 0)), G 43 40 false (.mv (T 1)), G 44 40 false (.nilck (T 42)), G 45 40 false (.fa 0 (T 44)), G 46 40 false (.ixp 2 1 (T 45) (T 43)), G 47 40 false (.ld false 1 (T 46)), G 48 40 false (.len false (T 47)), G 49 40 false (.mv (T 2)), G 50 40 false (.bin .sub .no (T 48) (T 49)), G 51 40 false (.bin .gtr .no (T 41) (T 50)), O 52 (.pick (T 40) (K (.b true)) (T 51)), O 14 (.mv (T 52))]) (.cond (T 14) (.seq (.ops [O 8 (.mv (K (.i .i64 1)))]) .ret) .skip))))) (.seq (.ops [O 8 (.mv (K (.i .i64 0)))]) .ret)))
theorem L14 : Tr.get dfl tbl (toPa 14) = .mk B14 [(.tmp (toPa 8))] := by kernel_rfl
/-- (*chancel/tape.Tape).spend -/
noncomputable def B15 : AC := (.seq (.ops [O 2 (.mv (K (.b false)))]) (.seq (.seq (.ops [O 3 (.mv (T 0)), O 4 (.nilck (T 3)), O 5 (.fa 3 (T 4)), O 6 (.ld false 1 (T 5)), O 7 (.bin .gtr .no (T 6) (K (.i .i64 0)))]) (.cond (T 7) (.seq (.ops [O 8 (.mv (T 0)), O 9 (.nilck (T 8)), O 10 (.fa 3 (T 9)), O 11 (.ld false 1 (T 10)), O 12 (.bin .sub .no (T 11) (K (.i .i64 1))), O 13 (.nilck (T 8)), O 14 (.fa 3 (T 13)), O_ (.st 1 (T 14) (T 12))]) (.ops [O 15 (.mv (T 0)), O 16 (.mv (T 0)), O 17 (.nilck (T 16)), O 18 (.fa 3 (T 17)), O 19 (.ld false 1 (T 18)), O 20 (.bin .eql .no (T 19) (K (.i .i64 0))), O 21 (.nilck (T 15)), O 22 (.fa 4 (T 21)), O_ (.st 1 (T 22) (T 20))])) .skip)) (.seq (.seq (.ops [O 23 (.mv (T 0)), O 24 (.nilck (T 23)), O 25 (.fa 4 (T 24)), O 26 (.ld false 1 (T 25)), O 27 (.not (T 26))]) (.cond (T 27) (.ops [O 28 (.mv (T 0)), O 29 (.nilck (T 28)), O 30 (.fa 5 (T 29)), O 31 (.ld false 1 (T 30)), O 32 (.bin .add .no (T 31) (K (.i .i64 1))), O 33 (.nilck (T 28)), O 34 (.fa 5 (T 33)), O_ (.st 1 (T 34) (T 32))]) .skip)) (.seq (.ops [O 35 (.mv (T 0)), O 36 (.nilck (T 35)), O 37 (.fa 4 (T 36)), O 38 (.ld false 1 (T 37)), O 39 (.not (T 38)), O 2 (.mv (T 39))]) .ret))))
theorem L15 : Tr.get dfl tbl (toPa 15) = .mk B15 [(.tmp (toPa 2))] := by kernel_rfl
/-- slices.Clone[[]byte,byte] -/
noncomputable def B16 : AC := (.seq (.ops [O 2 (.mv (K .ns))]) (.seq (.seq (.ops [O 3 (.mv (T 0)), O 4 (.bin .eql .slice (T 3) (K .ns))]) (.cond (T 4) (.seq (.ops [O 2 (.mv (K .ns))]) .ret) .skip)) (.seq (.ops [O 5 (.bsl 5 1 0 [] []), O 6 (.mv (T 0)), O 7 (.app 5 1 1 (T 5) (T 6)), O 2 (.mv (T 7))]) .ret)))
theorem L16 : Tr.get dfl tbl (toPa 16) = .mk B16 [(.tmp (toPa 2))] := by kernel_rfl
/-- (*chancel/tape.Tape).lay -/
noncomputable def B17 : AC := (.ops [O 8 (.mv (T 0)), O 9 (.mv (T 1)), O 10 (.nilck (T 8)), O 11 (.fa 0 (T 10)), O 12 (.ixp 2 1 (T 11) (T 9)), O 13 (.ld false 1 (T 12)), O 14 (.mv (T 2)), O 15 (.sll 1 (T 13) (some (T 14)) none none), O 16 (.mv (T 3)), O 17 (.cpy 1 (T 15) (T 16))])
theorem L17 : Tr.get dfl tbl (toPa 17) = .mk B17 [] := by kernel_rfl
/-- slices.Backward[[]chancel/tape.write,chancel/tape.write] -/
noncomputable def B18 : AC := (.seq (.ops [O 1 (.box 44 (T 0)), O 2 (.mv (K .nf))]) (.seq (.ops [O 3 (.mkfn (.func 19) [] [(T 1)]), O 2 (.mv (T 3))]) .ret))
theorem L18 : Tr.get dfl tbl (toPa 18) = .mk B18 [(.tmp (toPa 2))] := by kernel_rfl
theorem L19 : Tr.get dfl tbl (toPa 19) = .iter 4 true := by kernel_rfl
end Go.Proofs.Ytnbjicanbihgnaa

/- Bytes in memory: slices of them, parts, clones, copies. -/
namespace Go.Proofs.Ytnbjicanbihgnaa
open Go Go.Vai
set_option maxRecDepth 100000
set_option maxHeartbeats 1600000
set_option linter.unusedSimpArgs false
/-- A slice of bytes, its block one of S. -/
def Bys (S : Pa → Prop) (H : Heap) (y : AV) (s : List UInt8) : Prop :=
  (y = .ns ∧ s = []) ∨ ∃ a o c ro fz e size t, y = .sl a o s.length c 1 ∧ S a ∧ a.toN < H.next.toN ∧ H.get a = .cells ro fz e size t ∧ o + s.length ≤ size ∧ (∀ k, c = some k → s.length ≤ k) ∧ ∀ j (h : j < s.length), Tr.get .u t (toPa (o + j)) = .i .u8 (s[j].toNat : Int)
def Any : Pa → Prop := fun _ => True
theorem bcs_at {s : List UInt8} {j : Nat} (h : j < s.length) : (bcs s)[j]? = some (.i .u8 (s[j].toNat : Int)) := by
  unfold bcs; rw [List.getElem?_map, List.getElem?_eq_getElem h]; rfl
theorem get_bcs {s : List UInt8} {t : Tr AV} {o : Nat} (h : ∀ j (h : j < s.length), Tr.get .u t (toPa (o + j)) = .i .u8 (s[j].toNat : Int)) : getCells s.length o t = bcs s := by
  apply List.ext_getElem?
  intro j
  by_cases q : j < s.length
  · rw [getCells_at _ _ _ _ q, h j q, bcs_at q]
  · rw [List.getElem?_eq_none (by rw [getCells_len]; omega), List.getElem?_eq_none (by rw [bcs_len]; omega)]
section
variable {S S' : Pa → Prop} {H H' : Heap} {y : AV} {s : List UInt8}
theorem Bys.mv (h : Bys S H y s) (hs : ∀ a, S a → a.toN < H.next.toN → S' a ∧ H'.get a = H.get a) (hn : H.next.toN ≤ H'.next.toN) : Bys S' H' y s := by
  obtain h | ⟨a, o, c, ro, fz, e, size, t, h1, h2, h3, h4, h5, hc, h6⟩ := h
  · exact Or.inl h
  · exact Or.inr ⟨a, o, c, ro, fz, e, size, t, h1, (hs a h2 h3).1, by omega, by rw [(hs a h2 h3).2, h4], h5, hc, h6⟩
theorem Bys.grow (h : Bys S H y s) (g : Grow H H') : Bys S H' y s := h.mv (fun a ha hb => ⟨ha, g.get a hb⟩) g.next
theorem Bys.weak (h : Bys S H y s) (hs : ∀ a, S a → a.toN < H.next.toN → S' a) : Bys S' H y s := h.mv (fun a ha hb => ⟨hs a ha hb, rfl⟩) (Nat.le_refl _)
theorem Bys.cell (h : Bys S H y s) : oneC y = true ∧ avEq1 y y = true ∧ avEq y y = true := by
  obtain ⟨rfl, rfl⟩ | ⟨a, o, c, ro, fz, e, size, t, rfl, _⟩ := h
  · exact ⟨rfl, av1_ns, avEq_ns⟩
  · exact ⟨one_sl, av1_sl, avEq_sl⟩
theorem Bys.len (h : Bys S H y s) : ∀ (R : Type) (k : HK R) (G : Heap), lenC false y k G = k (.i .i64 (s.length : Int)) G := by
  intro R k G
  obtain ⟨rfl, rfl⟩ | ⟨a, o, c, ro, fz, e, size, t, rfl, _⟩ := h
  · rfl
  · rfl
theorem cells_rng {R : Type} {a : Pa} {o n : Nat} {ro : Bool} {fz e size : Nat} {t : Tr AV} (h : H.get a = .cells ro fz e size t) (hn : o + n ≤ size) (f : List AV → Option R) : rangeCK n a o H f = f (getCells n o t) := by
  show H.getK a (fun b => bC b fun _ _ _ size c => guardK (Nat.ble (Nat.add o n) size) (getCellsK n o c f)) = _
  rw [Heap.getK_eq, h]
  show guardK (Nat.ble (Nat.add o n) size) (getCellsK n o t f) = _
  have : Nat.ble (Nat.add o n) size = true := Nat.ble_eq_true_of_le hn
  rw [this, getCellsK_eq]; rfl
theorem Bys.src (h : Bys S H y s) {R : Type} (f : Nat → List AV → Option R) : srcK 1 y H f = f s.length (bcs s) := by
  obtain ⟨rfl, rfl⟩ | ⟨a, o, c, ro, fz, e, size, t, rfl, h2, h3, h4, h5, hc, h6⟩ := h
  · rfl
  · show guardK (Nat.beq 1 1) (rangeCK (Nat.mul s.length 1) a o H fun l => f s.length l) = _
    rw [Nat.beq_refl]
    show rangeCK (s.length * 1) a o H (fun l => f s.length l) = _
    rw [Nat.mul_one, cells_rng h4 h5, get_bcs h6]
theorem Bys.b2s (h : Bys S H y s) : ∀ (R : Type) (k : HK R), b2sC y k H = k (str s) H := by
  intro R k
  obtain ⟨rfl, rfl⟩ | ⟨a, o, c, ro, fz, e, size, t, rfl, h2, h3, h4, h5, hc, h6⟩ := h
  · exact b2s_ns
  · show guardK (Nat.beq 1 1) (rangeCK s.length a o H fun l => packK l 0 0 fun m n => k (.s m n) H) = _
    rw [Nat.beq_refl]
    show rangeCK s.length a o H (fun l => packK l 0 0 fun m n => k (.s m n) H) = _
    rw [cells_rng h4 h5, get_bcs h6]
    have := pack_str s [] fun m n => k (.s m n) H
    rw [List.nil_append] at this
    exact this
/-- A part of a row of bytes. -/
theorem Bys.of_row {a : Pa} {e : Nat} {s : List UInt8} {o n : Nat} {c : Option Nat} (h : Row H a e (bcs s)) (ha : a.toN < H.next.toN) (hn : o + n ≤ s.length) (hc : ∀ k, c = some k → n ≤ k) (hS : S a) : Bys S H (.sl a o n c 1) ((s.drop o).take n) := by
  obtain ⟨t, h1, h2⟩ := h
  have hl : ((s.drop o).take n).length = n := by rw [List.length_take, List.length_drop]; omega
  refine Or.inr ⟨a, o, c, _, _, _, _, t, by rw [hl], hS, ha, h1, by rw [hl, bcs_len]; exact hn, by rw [hl]; exact hc, fun j hj => ?_⟩
  rw [hl] at hj
  rw [h2 _ (by rw [bcs_len]; omega), bcs_at (by omega)]
  simp
theorem Bys.row {a : Pa} {e : Nat} {s : List UInt8} {c : Option Nat} (h : Row H a e (bcs s)) (ha : a.toN < H.next.toN) (hc : ∀ k, c = some k → s.length ≤ k) (hS : S a) : Bys S H (.sl a 0 s.length c 1) s := by
  have := Bys.of_row (S := S) (c := c) h ha (o := 0) (n := s.length) (by omega) hc hS
  rwa [List.drop_zero, List.take_length] at this
/-- Its first bytes. -/
theorem Bys.to (h : Bys S H y s) {n : Nat} (hn : n ≤ s.length) : ∃ z, Bys S H z (s.take n) ∧ ∀ (R : Type) (k : HK R) (G : Heap), sllC 1 y none (some (.i .i64 (n : Int))) none k G = k z G := by
  obtain ⟨rfl, rfl⟩ | ⟨a, o, c, ro, fz, e, size, t, rfl, h2, h3, h4, h5, hc, h6⟩ := h
  · obtain rfl : n = 0 := Nat.le_zero.mp hn
    exact ⟨.ns, Or.inl ⟨rfl, rfl⟩, fun R k G => rfl⟩
  · have hl : (s.take n).length = n := by rw [List.length_take]; omega
    have hw : ∀ c', (∀ k, c' = some k → n ≤ k) → Bys S H (.sl a o n c' 1) (s.take n) := fun c' hc' =>
      Or.inr ⟨a, o, c', ro, fz, e, size, t, by rw [hl], h2, h3, h4, by rw [hl]; omega, by rw [hl]; exact hc', fun j hj => by
        rw [hl] at hj
        rw [h6 j (by omega), List.getElem_take]⟩
    cases c with
    | none =>
      refine ⟨_, hw none (fun k q => by cases q), fun R k G => ?_⟩
      show guardK (Nat.beq 1 1) (guardK (Nat.ble 0 n) (forceN (Nat.add o (Nat.mul 0 1)) fun off => guardK (Nat.ble n s.length) (k (.sl a off (Nat.sub n 0) none 1) G))) = _
      rw [Nat.beq_refl, Nat.ble_eq_true_of_le (Nat.zero_le n), Nat.ble_eq_true_of_le hn, forceN_eq]
      show k (.sl a (o + 0 * 1) n none 1) G = _
      rw [Nat.zero_mul]; rfl
    | some c =>
      have hc := hc c rfl
      refine ⟨_, hw (some c) (fun k q => by cases q; omega), fun R k G => ?_⟩
      show guardK (Nat.beq 1 1) (guardK (Nat.ble 0 n) (forceN (Nat.add o (Nat.mul 0 1)) fun off => guardK (Nat.ble n c) (forceN (Nat.sub c 0) fun cp => k (.sl a off (Nat.sub n 0) (some cp) 1) G))) = _
      rw [Nat.beq_refl, Nat.ble_eq_true_of_le (Nat.zero_le n), Nat.ble_eq_true_of_le (Nat.le_trans hn hc), forceN_eq, forceN_eq]
      show k (.sl a (o + 0 * 1) n (some c) 1) G = _
      rw [Nat.zero_mul]; rfl
/-- A byte of them. -/
theorem Bys.at (h : Bys S H y s) {i : Nat} (hi : i < s.length) : ∃ a o, (∀ (R : Type) (k : HK R) (G : Heap), ixaC 1 y (.i .i64 (i : Int)) k G = k (.p a o) G) ∧ S a ∧ a.toN < H.next.toN ∧ ∀ (H' : Heap), H'.get a = H.get a → ∀ (R : Type) (k : HK R), ldC false 1 (.p a o) k H' = k (.i .u8 (s[i].toNat : Int)) H' := by
  obtain ⟨rfl, rfl⟩ | ⟨a, o, c, ro, fz, e, size, t, rfl, h2, h3, h4, h5, hc, h6⟩ := h
  · exact absurd hi (Nat.not_lt_zero _)
  · refine ⟨a, o + i * 1, fun R k G => ixa_sl (by omega) (by omega), h2, h3, fun H' hg R k => ?_⟩
    rw [ld_one (by rw [hg, h4]) (by omega), Nat.mul_one, h6 i hi]
/-- A row's part, cut out of its slice. -/
theorem sll_part {R : Type} {a : Pa} {n i j c : Nat} (k : HK R) (G : Heap) (h1 : i ≤ j) (h2 : j ≤ c) : sllC 1 (.sl a 0 n (some c) 1) (some (.i .i64 (i : Int))) (some (.i .i64 (j : Int))) none k G = k (.sl a i (j - i) (some (c - i)) 1) G := by
  show guardK (Nat.beq 1 1) (guardK (Nat.ble i j) (forceN (Nat.add 0 (Nat.mul i 1)) fun off => guardK (Nat.ble j c) (forceN (Nat.sub c i) fun cp => k (.sl a off (Nat.sub j i) (some cp) 1) G))) = _
  rw [Nat.beq_refl, Nat.ble_eq_true_of_le h1, Nat.ble_eq_true_of_le h2, forceN_eq, forceN_eq]
  show k (.sl a (0 + i * 1) (j - i) (some (c - i)) 1) G = _
  rw [Nat.zero_add, Nat.mul_one]
theorem sll_from {R : Type} {a : Pa} {n i c : Nat} (k : HK R) (G : Heap) (h1 : i ≤ n) (h2 : n ≤ c) : sllC 1 (.sl a 0 n (some c) 1) (some (.i .i64 (i : Int))) none none k G = k (.sl a i (n - i) (some (c - i)) 1) G := by
  show guardK (Nat.beq 1 1) (guardK (Nat.ble i n) (forceN (Nat.add 0 (Nat.mul i 1)) fun off => guardK (Nat.ble n c) (forceN (Nat.sub c i) fun cp => k (.sl a off (Nat.sub n i) (some cp) 1) G))) = _
  rw [Nat.beq_refl, Nat.ble_eq_true_of_le h1, Nat.ble_eq_true_of_le h2, forceN_eq, forceN_eq]
  show k (.sl a (0 + i * 1) (n - i) (some (c - i)) 1) G = _
  rw [Nat.zero_add, Nat.mul_one]
/-- Bytes laid over others. -/
def ov (s : List UInt8) (i : Nat) (t : List UInt8) : List UInt8 := s.take i ++ t ++ s.drop (i + t.length)
theorem ov_len {s t : List UInt8} {i : Nat} (h : i + t.length ≤ s.length) : (ov s i t).length = s.length := by
  unfold ov; rw [List.length_append, List.length_append, List.length_take, List.length_drop]; omega
theorem ov_nil {s : List UInt8} {i : Nat} : ov s i [] = s := by unfold ov; simp
theorem over_bcs {s t : List UInt8} {i : Nat} : over (bcs s) i (bcs t) = bcs (ov s i t) := by
  unfold over ov
  rw [bcs_app, bcs_app, bcs_len]
  unfold bcs
  rw [List.map_take, List.map_drop]
/-- Bytes copied into a row. -/
theorem copy_row {e : Nat} {a : Pa} {s t : List UInt8} (h : Row H a e (bcs s)) (ha : a.toN < H.next.toN) {i c : Nat} (hn : i + t.length ≤ s.length) (hy : Bys S H y t) :
    ∃ H', Row H' a e (bcs (ov s i t)) ∧ GrowBut a H H' ∧ H'.next = H.next ∧ ∀ (R : Type) (k : HK R), cpyC 1 (.sl a i (s.length - i) (some c) 1) y k H = k (.i .i64 (t.length : Int)) H' := by
  have hm : minN t.length (s.length - i) = t.length := by
    unfold minN
    rw [Nat.ble_eq_true_of_le (by omega)]
  have e1 : ∀ (R : Type) (k : HK R), cpyC 1 (.sl a i (s.length - i) (some c) 1) y k H = copy2K 1 a i t.length (bcs t) H k := by
    intro R k
    show guardK (Nat.beq 1 1) (srcK 1 y H fun n ys => forceN (minN n (s.length - i)) fun m => copy2K 1 a i m ys H k) = _
    rw [Nat.beq_refl]
    show srcK 1 y H _ = _
    rw [hy.src, forceN_eq, hm]
  cases t with
  | nil =>
    refine ⟨H, by rw [ov_nil]; exact h, GrowBut.refl _ _, rfl, fun R k => ?_⟩
    rw [e1]; rfl
  | cons b t =>
    obtain ⟨H', k1, k2, k3, k4⟩ := h.store ha (ys := bcs (b :: t)) (off := i) (by rw [bcs_len, bcs_len]; exact hn) bcs_one
    refine ⟨H', by rw [← over_bcs]; exact k1, k2, k3, fun R k => ?_⟩
    rw [e1]
    show storeK ((bcs (b :: t)).take (Nat.mul (t.length + 1) 1)) (Nat.mul (t.length + 1) 1) a i H (fun H => k (.i .i64 (.ofNat (t.length + 1))) H) = _
    have e2 : Nat.mul (t.length + 1) 1 = (bcs (b :: t)).length := by rw [bcs_len]; exact Nat.mul_one _
    rw [e2, List.take_length, k4]
    rfl
/-- Bytes appended to a new slice of none. -/
theorem app_clone {a : Pa} {t : Tr AV} {e : Nat} (ha : H.get a = .cells false 0 e 0 t) (hn : a.toN < H.next.toN) (hy : Bys S H y s) (hr : s.length ≤ roomN) :
    ∃ H' z, Grow H H' ∧ Bys (fun b => b = a ∨ H.next.toN ≤ b.toN) H' z s ∧ ∀ (R : Type) (k : HK R), appendK 5 1 1 (.sl a 0 0 (some 0) 1) y H k = k z H' := by
  cases s with
  | nil =>
    refine ⟨H, .sl a 0 0 (some 0) 1, Grow.refl _, Or.inr ⟨a, 0, _, _, _, _, _, t, rfl, .inl rfl, hn, ha, Nat.le_refl _, fun k q => Nat.zero_le _, fun j hj => absurd hj (Nat.not_lt_zero _)⟩, fun R k => ?_⟩
    show srcK 1 y H (append2K 5 1 1 (.sl a 0 0 (some 0) 1) H k) = _
    rw [hy.src]; rfl
  | cons b s =>
    have hg := Grow.alloc H (.cells false 0 5 (bcs (b :: s)).length (setCells (bcs (b :: s)) 0 .leaf))
    have hnx := next_alloc H (.cells false 0 5 (bcs (b :: s)).length (setCells (bcs (b :: s)) 0 .leaf))
    refine ⟨_, .sl H.next 0 (b :: s).length none 1, hg, Bys.row (Row.new H 5 (bcs (b :: s))) (by omega) (fun k q => by cases q) (.inr (Nat.le_refl _)), fun R k => ?_⟩
    show srcK 1 y H (append2K 5 1 1 (.sl a 0 0 (some 0) 1) H k) = _
    rw [hy.src]
    show guardK (oneCs (bcs (b :: s))) (guardK (Nat.beq 1 1) (forceN (Nat.add 0 (s.length + 1)) fun need => appShut 5 1 1 (s.length + 1) 0 0 need a (bcs (b :: s)) H k 0)) = _
    rw [oneCs_all bcs_one, Nat.beq_refl, forceN_eq]
    show appShut 5 1 1 (s.length + 1) 0 0 (0 + (s.length + 1)) a (bcs (b :: s)) H k 0 = _
    rw [Nat.zero_add]
    show guardK (Nat.ble (Nat.mul (s.length + 1) 1) roomN) (rangeCK (Nat.mul 0 1) a 0 H fun xs => newK 5 (xs ++ bcs (b :: s)) H fun id H => k (.sl id 0 (s.length + 1) none 1) H) = _
    have h2 : Nat.ble (Nat.mul (s.length + 1) 1) roomN = true := Nat.ble_eq_true_of_le (by show (s.length + 1) * 1 ≤ _; rw [Nat.mul_one]; exact hr)
    rw [h2]
    show rangeCK (0 * 1) a 0 H (fun xs => newK 5 (xs ++ bcs (b :: s)) H fun id H => k (.sl id 0 (s.length + 1) none 1) H) = _
    rw [cells_rng ha (by omega)]
    show newK 5 (bcs (b :: s)) H _ = _
    unfold newK
    rw [setCellsK_eq, forceN_eq, Heap.allocK_eq, lenK_eq]; rfl
end
end Go.Proofs.Ytnbjicanbihgnaa

/- A tape in memory; what its small functions tell. -/
namespace Go.Proofs.Ytnbjicanbihgnaa
open Go Go.Vai
set_option maxRecDepth 100000
set_option maxHeartbeats 1600000
set_option linter.unusedSimpArgs false
theorem s8 {R : Type} {a n : Int} (hn : 0 < n) (hb : n ≤ 9223372036854775807) {M : Nat} (hM : 20 ≤ M) (H : Heap) (k : HK R) :
    callK tbl (runK tbl M) R (toPa 8) [.i .i64 a, .i .i64 n] H k = k (.i .i64 (a % n)) H := by
  obtain ⟨m, rfl⟩ : ∃ m, M = m + 20 := ⟨M - 20, by omega⟩
  rw [call_eq L8]
  unfold B8
  have hz : n ≠ 0 := by omega
  have hb1 := tmod_lt (a := a) hn
  have he := tmod_emod (a := a) hn
  by_cases h : a.tmod n < 0
  · rw [if_pos h] at he
    have hw : IntKind.i64.wrap (a.tmod n + n) = a.tmod n + n := wrap_i64 (by omega) (by omega)
    simp only [EX, reduceIte, Nat.reduceEqDiff, Nat.reduceAdd, Int.reduceEq, Int.reduceLT, Int.reduceLE, reduceCtorEq, Nat.reduceLeDiff, Nat.reduceSub, Nat.reduceLT, i_rem hz, i_add, h]
    rw [hw, he]
  · rw [if_neg h] at he
    simp only [EX, reduceIte, Nat.reduceEqDiff, Nat.reduceAdd, Int.reduceEq, Int.reduceLT, Int.reduceLE, reduceCtorEq, Nat.reduceLeDiff, Nat.reduceSub, Nat.reduceLT, i_rem hz, i_add, h]
    rw [he]
/-- A write that is not synced. -/
structure Wr where
  ar : Nat
  at_ : Nat
  put : List UInt8
  was : List UInt8
/-- A tape: what stands in its areas, what is not synced, how many operations were done. -/
structure TS where
  a : List UInt8
  b : List UInt8
  op : List Wr
  n : Nat
def TS.get (st : TS) (i : Nat) : List UInt8 := if i = 0 then st.a else st.b
def TS.lay (st : TS) (i at_ : Nat) (s : List UInt8) : TS := if i = 0 then { st with a := ov st.a at_ s } else { st with b := ov st.b at_ s }
/-- Where a tape lies. -/
structure TD where
  n0 : Nat
  room : Nat
  p : Pa
  A : Pa
  B : Pa
def TD.ar (D : TD) (i : Nat) : Pa := if i = 0 then D.A else D.B
def Own (D : TD) (x : AV) (a : Pa) : Prop := D.B.toN < a.toN ∧ Off x a
def TD.cells (D : TD) (x : AV) (n : Nat) : List AV := [.sl D.A 0 D.room (some D.room) 1, .sl D.B 0 D.room (some D.room) 1, x, .i .i64 0, .b false, .i .i64 (n : Int)]
/-- A tape in memory. -/
structure Tp (D : TD) (H : Heap) (x : AV) (L : List AV) (st : TS) : Prop where
  o1 : D.n0 ≤ D.p.toN
  o2 : D.p.toN < D.A.toN
  o3 : D.A.toN < D.B.toN
  o4 : D.B.toN < H.next.toN
  rp : Row H D.p 46 (D.cells x st.n)
  ra : Row H D.A 5 (bcs st.a)
  rb : Row H D.B 5 (bcs st.b)
  la : st.a.length = D.room
  lb : st.b.length = D.room
  ro : (x = .ns ∧ st.op = [] ∧ L = []) ∨ ∃ O, x = .sl O 0 st.op.length none 4 ∧ D.B.toN < O.toN ∧ O.toN < H.next.toN ∧ Row H O 50 L ∧ L.length = st.op.length * 4
  wr : ∀ j w, st.op[j]? = some w → ∃ y z, (L.drop (j * 4)).take 4 = [.i .i64 (w.ar : Int), .i .i64 (w.at_ : Int), y, z] ∧ Bys (Own D x) H y w.put ∧ Bys (Own D x) H z w.was ∧ w.ar < 2 ∧ w.at_ + w.put.length ≤ D.room ∧ w.was.length = w.put.length
section
variable {D : TD} {H H' : Heap} {x : AV} {L : List AV} {st : TS}
theorem Tp.get_len (T : Tp D H x L st) (i : Nat) : (st.get i).length = D.room := by
  unfold TS.get; split
  · exact T.la
  · exact T.lb
theorem Tp.lda (T : Tp D H x L st) {i : Nat} (hi : i < 2) : ∀ (R : Type) (k : HK R), ldC false 1 (.p D.p i) k H = k (.sl (D.ar i) 0 D.room (some D.room) 1) H := by
  match i, hi with
  | 0, _ => exact T.rp.l 0 rfl
  | 1, _ => exact T.rp.l 1 rfl
theorem Tp.row (T : Tp D H x L st) {i : Nat} (hi : i < 2) : Row H (D.ar i) 5 (bcs (st.get i)) := by
  match i, hi with
  | 0, _ => exact T.ra
  | 1, _ => exact T.rb
theorem Tp.arlt (T : Tp D H x L st) {i : Nat} (hi : i < 2) : (D.ar i).toN < H.next.toN ∧ (D.ar i).toN ≤ D.B.toN ∧ D.p.toN < (D.ar i).toN := by
  have o2 := T.o2
  have o3 := T.o3
  have o4 := T.o4
  match i, hi with
  | 0, _ => exact ⟨(show D.A.toN < H.next.toN by omega), (show D.A.toN ≤ D.B.toN by omega), (show D.p.toN < D.A.toN by omega)⟩
  | 1, _ => exact ⟨(show D.B.toN < H.next.toN by omega), (show D.B.toN ≤ D.B.toN by omega), (show D.p.toN < D.B.toN by omega)⟩
theorem Tp.xoff (T : Tp D H x L st) {a : Pa} (h : a.toN ≤ D.B.toN ∨ H.next.toN ≤ a.toN) : Off x a := by
  intro o l c z q
  obtain ⟨e, _⟩ | ⟨O, e, h1, h2, _⟩ := T.ro
  · rw [e] at q; cases q
  · rw [e] at q; cases q; omega
theorem Tp.xcell (T : Tp D H x L st) : oneC x = true ∧ avEq x x = true := by
  obtain ⟨rfl, _⟩ | ⟨O, rfl, h1, h2, _⟩ := T.ro
  · exact ⟨one_ns, avEq_ns⟩
  · exact ⟨one_sl, avEq_sl⟩
/-- All that is the tape's is as it was, but for the tape's own block. -/
theorem Tp.box (T : Tp D H x L st) {n' : Nat} (g : GrowBut D.p H H') (r : Row H' D.p 46 (D.cells x n')) : Tp D H' x L { st with n := n' } := by
  have o2 := T.o2
  have o3 := T.o3
  have o4 := T.o4
  have ne : ∀ a : Pa, D.p.toN < a.toN → a ≠ D.p := fun a h q => by subst q; omega
  refine ⟨T.o1, o2, o3, Nat.lt_of_lt_of_le o4 g.next, r, T.ra.but g (by omega) (ne _ o2), T.rb.but g o4 (ne _ (by omega)), T.la, T.lb, ?_, fun j w hj => ?_⟩
  · obtain h | ⟨O, e, h1, h2, h3, h4⟩ := T.ro
    · exact Or.inl h
    · exact Or.inr ⟨O, e, h1, Nat.lt_of_lt_of_le h2 g.next, h3.but g h2 (ne _ (by omega)), h4⟩
  · obtain ⟨y, z, h1, h2, h3, h4⟩ := T.wr j w hj
    have mv : ∀ a, Own D x a → a.toN < H.next.toN → Own D x a ∧ H'.get a = H.get a := fun a ha hb => ⟨ha, g.get a hb (ne a (by have := ha.1; omega))⟩
    exact ⟨y, z, h1, h2.mv mv g.next, h3.mv mv g.next, h4⟩
theorem Tp.grow (T : Tp D H x L st) (g : Grow H H') : Tp D H' x L st := by
  have o2 := T.o2
  have o3 := T.o3
  have o4 := T.o4
  exact T.box (g.but D.p) (T.rp.grow g (by omega))
/-- Bytes laid in an area. -/
theorem Tp.laid (T : Tp D H x L st) {i at_ : Nat} {s : List UInt8} (hi : i < 2) (hs : at_ + s.length ≤ D.room) (g : GrowBut (D.ar i) H H') (r : Row H' (D.ar i) 5 (bcs (ov (st.get i) at_ s))) : Tp D H' x L (st.lay i at_ s) := by
  have o2 := T.o2
  have o3 := T.o3
  have o4 := T.o4
  obtain ⟨k1, k2, k3⟩ := T.arlt hi
  have rp := T.rp.but g (by omega) (by intro q; rw [← q] at k3; omega)
  have ro : (x = .ns ∧ st.op = [] ∧ L = []) ∨ ∃ O, x = .sl O 0 st.op.length none 4 ∧ D.B.toN < O.toN ∧ O.toN < H'.next.toN ∧ Row H' O 50 L ∧ L.length = st.op.length * 4 := by
    obtain h | ⟨O, e, h1, h2, h3, h4⟩ := T.ro
    · exact Or.inl h
    · exact Or.inr ⟨O, e, h1, Nat.lt_of_lt_of_le h2 g.next, h3.but g h2 (by intro q; subst q; omega), h4⟩
  have wr : ∀ j w, st.op[j]? = some w → ∃ y z, (L.drop (j * 4)).take 4 = [.i .i64 (w.ar : Int), .i .i64 (w.at_ : Int), y, z] ∧ Bys (Own D x) H' y w.put ∧ Bys (Own D x) H' z w.was ∧ w.ar < 2 ∧ w.at_ + w.put.length ≤ D.room ∧ w.was.length = w.put.length := by
    intro j w hj
    obtain ⟨y, z, h1, h2, h3, h4⟩ := T.wr j w hj
    have mv : ∀ a, Own D x a → a.toN < H.next.toN → Own D x a ∧ H'.get a = H.get a := fun a ha hb => ⟨ha, g.get a hb (by intro q; subst q; have := ha.1; omega)⟩
    exact ⟨y, z, h1, h2.mv mv g.next, h3.mv mv g.next, h4⟩
  match i, hi with
  | 0, _ => exact ⟨T.o1, o2, o3, Nat.lt_of_lt_of_le o4 g.next, rp, r, T.rb.but g o4 (by intro q; have q : D.B = D.A := q; rw [q] at o3; omega), (by show (ov st.a at_ s).length = _; rw [ov_len (by rw [T.la]; exact hs), T.la]), T.lb, ro, wr⟩
  | 1, _ => exact ⟨T.o1, o2, o3, Nat.lt_of_lt_of_le o4 g.next, rp, T.ra.but g (by omega) (by intro q; have q : D.A = D.B := q; rw [q] at o3; omega), r, T.la, (by show (ov st.b at_ s).length = _; rw [ov_len (by rw [T.lb]; exact hs), T.lb]), ro, wr⟩
theorem ixp_n {R : Type} {i : Nat} (hi : i < 2) {a : Pa} (k : HK R) (G : Heap) : ixpC 2 1 (.p a 0) (.i .i64 (i : Int)) k G = k (.p a i) G := by
  rw [ixp_p (by omega) (by omega), Nat.zero_add, Nat.mul_one]; rfl
/-- May these bytes be asked for? -/
def okA (room : Nat) (ar at_ n : Int) : Prop := 0 ≤ ar ∧ ar < 2 ∧ 0 ≤ at_ ∧ 0 ≤ n ∧ at_ ≤ room ∧ n ≤ room - at_
instance (room : Nat) (ar at_ n : Int) : Decidable (okA room ar at_ n) := by unfold okA; infer_instance
theorem s14 (T : Tp D H x L st) (hr : D.room ≤ 1000000) (ar at_ n : Int) : ∀ (M : Nat), 60 ≤ M → ∀ (R : Type) (k : HK R), callK tbl (runK tbl M) R (toPa 14) [.p D.p 0, .i .i64 ar, .i .i64 at_, .i .i64 n] H k = k (.i .i64 (if okA D.room ar at_ n then 0 else 1)) H := by
  intro M hM R k
  obtain ⟨m, rfl⟩ : ∃ m, M = m + 60 := ⟨M - 60, by omega⟩
  have ld4 := T.rp.l 4 (v := .b false) rfl
  rw [call_eq L14]
  unfold B14
  by_cases h1 : ar < 0
  · rw [if_neg (by unfold okA; omega)]
    simp only [EX, reduceIte, Nat.reduceEqDiff, Nat.reduceAdd, Int.reduceEq, Int.reduceLT, Int.reduceLE, reduceCtorEq, Nat.reduceLeDiff, Nat.reduceSub, Nat.reduceLT, ld4, h1]
  by_cases h2 : 2 ≤ ar
  · rw [if_neg (by unfold okA; omega)]
    simp only [EX, reduceIte, Nat.reduceEqDiff, Nat.reduceAdd, Int.reduceEq, Int.reduceLT, Int.reduceLE, reduceCtorEq, Nat.reduceLeDiff, Nat.reduceSub, Nat.reduceLT, ld4, h1, h2]
  by_cases h3 : at_ < 0
  · rw [if_neg (by unfold okA; omega)]
    simp only [EX, reduceIte, Nat.reduceEqDiff, Nat.reduceAdd, Int.reduceEq, Int.reduceLT, Int.reduceLE, reduceCtorEq, Nat.reduceLeDiff, Nat.reduceSub, Nat.reduceLT, ld4, h1, h2, h3]
  by_cases h4 : n < 0
  · rw [if_neg (by unfold okA; omega)]
    simp only [EX, reduceIte, Nat.reduceEqDiff, Nat.reduceAdd, Int.reduceEq, Int.reduceLT, Int.reduceLE, reduceCtorEq, Nat.reduceLeDiff, Nat.reduceSub, Nat.reduceLT, ld4, h1, h2, h3, h4]
  obtain ⟨i, rfl⟩ := Int.eq_ofNat_of_zero_le (Int.not_lt.mp h1)
  have hi : i < 2 := by omega
  have lda := T.lda hi
  by_cases h5 : (D.room : Int) < at_
  · rw [if_neg (by unfold okA; omega)]
    simp only [EX, reduceIte, Nat.reduceEqDiff, Nat.reduceAdd, Int.reduceEq, Int.reduceLT, Int.reduceLE, reduceCtorEq, Nat.reduceLeDiff, Nat.reduceSub, Nat.reduceLT, ld4, h1, h2, h3, h4, h5, lda, ixp_n hi]
  have hw : IntKind.i64.wrap ((D.room : Int) - at_) = (D.room : Int) - at_ := wrap_i64 (by omega) (by omega)
  by_cases h6 : (D.room : Int) - at_ < n
  · rw [if_neg (by unfold okA; omega)]
    simp only [EX, reduceIte, Nat.reduceEqDiff, Nat.reduceAdd, Int.reduceEq, Int.reduceLT, Int.reduceLE, reduceCtorEq, Nat.reduceLeDiff, Nat.reduceSub, Nat.reduceLT, ld4, h1, h2, h3, h4, h5, lda, ixp_n hi, i_sub, hw, h6]
  · rw [if_pos (by unfold okA; omega)]
    simp only [EX, reduceIte, Nat.reduceEqDiff, Nat.reduceAdd, Int.reduceEq, Int.reduceLT, Int.reduceLE, reduceCtorEq, Nat.reduceLeDiff, Nat.reduceSub, Nat.reduceLT, ld4, h1, h2, h3, h4, h5, lda, ixp_n hi, i_sub, hw, h6]
end
end Go.Proofs.Ytnbjicanbihgnaa

/- What spend, Ops, lay, Clone, Read, Sync tell. -/
namespace Go.Proofs.Ytnbjicanbihgnaa
open Go Go.Vai
set_option maxRecDepth 100000
set_option maxHeartbeats 1600000
set_option linter.unusedSimpArgs false
section
variable {D : TD} {H H' : Heap} {x : AV} {L : List AV} {st : TS}
theorem s15 (T : Tp D H x L st) (hn : st.n < 1000000) : ∃ H', Tp D H' x L { st with n := st.n + 1 } ∧ GrowBut D.p H H' ∧ H'.next = H.next ∧ ∀ (M : Nat), 60 ≤ M → ∀ (R : Type) (k : HK R), callK tbl (runK tbl M) R (toPa 15) [.p D.p 0] H k = k (.b true) H' := by
  have o2 := T.o2
  have o3 := T.o3
  have o4 := T.o4
  obtain ⟨H', r, g, nx, est⟩ := T.rp.st_one (off := 5) (v := .i .i64 ((st.n + 1 : Nat) : Int)) (by omega) (show 5 < 6 by decide) one_i
  have r' : Row H' D.p 46 (D.cells x (st.n + 1)) := r
  have T' := T.box g r'
  refine ⟨H', T', g, nx, fun M hM R k => ?_⟩
  obtain ⟨m, rfl⟩ : ∃ m, M = m + 60 := ⟨M - 60, by omega⟩
  have ld3 := T.rp.l 3 (v := .i .i64 0) rfl
  have ld4 := T.rp.l 4 (v := .b false) rfl
  have ld5 := T.rp.l 5 (v := .i .i64 (st.n : Int)) rfl
  have ld4' := T'.rp.l 4 (v := .b false) rfl
  have hw : IntKind.i64.wrap ((st.n : Int) + 1) = ((st.n + 1 : Nat) : Int) := by rw [show (st.n : Int) + 1 = ((st.n + 1 : Nat) : Int) by omega, wrap_n64 (by omega)]
  rw [call_eq L15]
  unfold B15
  simp only [EX, reduceIte, Nat.reduceEqDiff, Nat.reduceAdd, Int.reduceEq, Int.reduceLT, Int.reduceLE, reduceCtorEq, Nat.reduceLeDiff, Nat.reduceSub, Nat.reduceLT, ld3, ld4, ld5, ld4', i_add, hw, est, Int.lt_irrefl]
theorem s12 (T : Tp D H x L st) : ∀ (M : Nat), 20 ≤ M → ∀ (R : Type) (k : HK R), callK tbl (runK tbl M) R (toPa 12) [.p D.p 0] H k = k (.i .i64 (st.n : Int)) H := by
  intro M hM R k
  obtain ⟨m, rfl⟩ : ∃ m, M = m + 20 := ⟨M - 20, by omega⟩
  have ld5 := T.rp.l 5 (v := .i .i64 (st.n : Int)) rfl
  rw [call_eq L12]
  unfold B12
  simp only [EX, reduceIte, Nat.reduceEqDiff, Nat.reduceAdd, Int.reduceEq, Int.reduceLT, Int.reduceLE, reduceCtorEq, Nat.reduceLeDiff, Nat.reduceSub, Nat.reduceLT, ld5]
theorem s17 (T : Tp D H x L st) {i at_ : Nat} {S : Pa → Prop} {y : AV} {s : List UInt8} (hi : i < 2) (hs : at_ + s.length ≤ D.room) (hy : Bys S H y s) :
    ∃ H', Tp D H' x L (st.lay i at_ s) ∧ GrowBut (D.ar i) H H' ∧ H'.next = H.next ∧ ∀ (M : Nat), 20 ≤ M → ∀ (R : Type) (k : HK R), callK tbl (runK tbl M) R (toPa 17) [.p D.p 0, .i .i64 (i : Int), .i .i64 (at_ : Int), y] H k = k un H' := by
  have hl := T.get_len i
  obtain ⟨H', r, g, nx, e⟩ := copy_row (i := at_) (c := D.room - at_) (T.row hi) (T.arlt hi).1 (by rw [hl]; exact hs) hy
  refine ⟨H', T.laid hi hs g r, g, nx, fun M hM R k => ?_⟩
  obtain ⟨m, rfl⟩ : ∃ m, M = m + 20 := ⟨M - 20, by omega⟩
  have lda := T.lda hi
  rw [hl] at e
  rw [call_eq L17]
  unfold B17
  simp only [EX, reduceIte, Nat.reduceEqDiff, Nat.reduceAdd, Int.reduceEq, Int.reduceLT, Int.reduceLE, reduceCtorEq, Nat.reduceLeDiff, Nat.reduceSub, Nat.reduceLT, lda, ixp_n hi, sll_from _ _ (show at_ ≤ D.room by omega) (Nat.le_refl _), e, res_0]
theorem s16 {S : Pa → Prop} {y : AV} {s : List UInt8} (hy : Bys S H y s) (hr : s.length ≤ roomN) :
    ∃ H' z, Grow H H' ∧ Bys (fun b => H.next.toN ≤ b.toN) H' z s ∧ ∀ (M : Nat), 20 ≤ M → ∀ (R : Type) (k : HK R), callK tbl (runK tbl M) R (toPa 16) [y] H k = k z H' := by
  by_cases hns : y = .ns
  · subst hns
    have h0 : s = [] := by
      obtain ⟨_, h⟩ | ⟨a, o, c, ro, fz, e, size, t, h1, _⟩ := hy
      · exact h
      · cases h1
    subst h0
    refine ⟨H, .ns, Grow.refl _, Or.inl ⟨rfl, rfl⟩, fun M hM R k => ?_⟩
    obtain ⟨m, rfl⟩ : ∃ m, M = m + 20 := ⟨M - 20, by omega⟩
    rw [call_eq L16]
    unfold B16
    have e : ∀ (R : Type) (k : HK R) (G : Heap), binC .eql .slice .ns .ns k G = k (.b true) G := fun _ _ _ => rfl
    simp only [EX, reduceIte, Nat.reduceEqDiff, Nat.reduceAdd, Int.reduceEq, Int.reduceLT, Int.reduceLE, reduceCtorEq, Nat.reduceLeDiff, Nat.reduceSub, Nat.reduceLT, e]
  · have hg := Grow.alloc H (.cells false 0 5 0 (setCells [] 0 .leaf))
    have hnx := next_alloc H (.cells false 0 5 0 (setCells [] 0 .leaf))
    obtain ⟨H', z, g, hz, e⟩ := app_clone (get_alloc H (.cells false 0 5 0 (setCells [] 0 .leaf))) (by omega) (hy.grow hg) hr
    refine ⟨H', z, hg.trans g, hz.weak fun a ha _ => (by rcases ha with rfl | h <;> omega), fun M hM R k => ?_⟩
    obtain ⟨m, rfl⟩ : ∃ m, M = m + 20 := ⟨M - 20, by omega⟩
    have en : ∀ (R : Type) (k : HK R) (G : Heap), binC .eql .slice y .ns k G = k (.b false) G := by
      intro R k G
      obtain ⟨h, _⟩ | ⟨a, o, c, ro, fz, e, size, t, rfl, _⟩ := hy
      · exact absurd h hns
      · rfl
    rw [call_eq L16]
    unfold B16
    simp only [EX, reduceIte, Nat.reduceEqDiff, Nat.reduceAdd, Int.reduceEq, Int.reduceLT, Int.reduceLE, reduceCtorEq, Nat.reduceLeDiff, Nat.reduceSub, Nat.reduceLT, en, e]
theorem s11_no (T : Tp D H x L st) (hr : D.room ≤ 1000000) {ar at_ n : Int} (h : ¬ okA D.room ar at_ n) : ∀ (M : Nat), 100 ≤ M → ∀ (R : Type) (k : HK R), callK tbl (runK tbl M) R (toPa 11) [.p D.p 0, .i .i64 ar, .i .i64 at_, .i .i64 n] H k = k (.tu [.ns, .i .i64 1]) H := by
  intro M hM R k
  obtain ⟨m, rfl⟩ : ∃ m, M = m + 100 := ⟨M - 100, by omega⟩
  have e := s14 T hr ar at_ n
  rw [if_neg h] at e
  rw [call_eq L11]
  unfold B11
  simp only [EX, reduceIte, Nat.reduceEqDiff, Nat.reduceAdd, Int.reduceEq, Int.reduceLT, Int.reduceLE, reduceCtorEq, Nat.reduceLeDiff, Nat.reduceSub, Nat.reduceLT, e _ (Nat.le_add_left 60 _)]
end
end Go.Proofs.Ytnbjicanbihgnaa

/- What Read, Sync, New, Write tell. -/
namespace Go.Proofs.Ytnbjicanbihgnaa
open Go Go.Vai
set_option maxRecDepth 100000
set_option maxHeartbeats 1600000
set_option linter.unusedSimpArgs false
section
variable {D : TD} {H H' : Heap} {x : AV} {L : List AV} {st : TS}
theorem s11 (T : Tp D H x L st) (hr : D.room ≤ 1000000) {i at_ n : Nat} (hi : i < 2) (hn : at_ + n ≤ D.room) :
    ∃ H' z, Grow H H' ∧ Bys (fun b => H.next.toN ≤ b.toN) H' z (((st.get i).drop at_).take n) ∧ ∀ (M : Nat), 100 ≤ M → ∀ (R : Type) (k : HK R), callK tbl (runK tbl M) R (toPa 11) [.p D.p 0, .i .i64 (i : Int), .i .i64 (at_ : Int), .i .i64 (n : Int)] H k = k (.tu [z, .i .i64 0]) H' := by
  have hl := T.get_len i
  have hb : Bys Any H (.sl (D.ar i) at_ n (some (D.room - at_)) 1) (((st.get i).drop at_).take n) := Bys.of_row (T.row hi) (T.arlt hi).1 (by omega) (fun k q => by cases q; omega) trivial
  have hbl : (((st.get i).drop at_).take n).length = n := by rw [List.length_take, List.length_drop]; omega
  obtain ⟨H', z, g, hz, e⟩ := s16 hb (by rw [hbl]; exact Nat.le_trans (by omega) (show 1000000 ≤ roomN by decide))
  refine ⟨H', z, g, hz, fun M hM R k => ?_⟩
  obtain ⟨m, rfl⟩ : ∃ m, M = m + 100 := ⟨M - 100, by omega⟩
  have e14 := s14 T hr (i : Int) (at_ : Int) (n : Int)
  rw [if_pos (by unfold okA; omega)] at e14
  have lda := T.lda hi
  have hw : IntKind.i64.wrap ((at_ : Int) + (n : Int)) = ((at_ + n : Nat) : Int) := by rw [show (at_ : Int) + (n : Int) = ((at_ + n : Nat) : Int) by omega, wrap_n64 (by omega)]
  have sl : ∀ (R : Type) (k : HK R) (G : Heap), sllC 1 (.sl (D.ar i) 0 D.room (some D.room) 1) (some (.i .i64 (at_ : Int))) (some (.i .i64 ((at_ + n : Nat) : Int))) none k G = k (.sl (D.ar i) at_ n (some (D.room - at_)) 1) G := by
    intro R k G
    rw [sll_part k G (by omega) hn, Nat.add_sub_cancel_left]
  rw [call_eq L11]
  unfold B11
  simp only [EX, reduceIte, Nat.reduceEqDiff, Nat.reduceAdd, Int.reduceEq, Int.reduceLT, Int.reduceLE, reduceCtorEq, Nat.reduceLeDiff, Nat.reduceSub, Nat.reduceLT, e14 _ (Nat.le_add_left 60 _), lda, ixp_n hi, i_add, hw, sl, e _ (Nat.le_add_left 20 _)]
/-- The tape with its writes synced. -/
theorem s13 (T : Tp D H x L st) (hn : st.n < 1000000) : ∃ H', Tp D H' .ns [] { st with op := [], n := st.n + 1 } ∧ GrowBut D.p H H' ∧ H'.next = H.next ∧ ∀ (M : Nat), 100 ≤ M → ∀ (R : Type) (k : HK R), callK tbl (runK tbl M) R (toPa 13) [.p D.p 0] H k = k (.i .i64 0) H' := by
  have o2 := T.o2
  have o3 := T.o3
  have o4 := T.o4
  obtain ⟨H1, T1, g1, n1, e15⟩ := s15 T hn
  obtain ⟨H2, r2, g2, n2, est⟩ := T1.rp.st_one (off := 2) (v := .ns) (by rw [n1]; omega) (show 2 < 6 by decide) one_ns
  have ne : ∀ a : Pa, D.p.toN < a.toN → a ≠ D.p := fun a h q => by subst q; omega
  have T2 : Tp D H2 .ns [] { st with op := [], n := st.n + 1 } :=
    ⟨T.o1, o2, o3, by rw [n2, n1]; exact o4, r2, T1.ra.but g2 (by rw [n1]; omega) (ne _ o2), T1.rb.but g2 (by rw [n1]; omega) (ne _ (by omega)), T.la, T.lb, Or.inl ⟨rfl, rfl, rfl⟩, fun j w hj => by cases hj⟩
  refine ⟨H2, T2, g1.trans g2, by rw [n2, n1], fun M hM R k => ?_⟩
  obtain ⟨m, rfl⟩ : ∃ m, M = m + 100 := ⟨M - 100, by omega⟩
  have ld4 := T.rp.l 4 (v := .b false) rfl
  rw [call_eq L13]
  unfold B13
  simp only [EX, reduceIte, Nat.reduceEqDiff, Nat.reduceAdd, Int.reduceEq, Int.reduceLT, Int.reduceLE, reduceCtorEq, Nat.reduceLeDiff, Nat.reduceSub, Nat.reduceLT, ld4, e15 _ (Nat.le_add_left 60 _), est]
/-- A write of bytes that may be. -/
def TS.write (st : TS) (i at_ : Nat) (s : List UInt8) : TS := ({ st with op := st.op ++ [⟨i, at_, s, ((st.get i).drop at_).take s.length⟩], n := st.n + 1 } : TS).lay i at_ s
theorem s9_no (T : Tp D H x L st) (hr : D.room ≤ 1000000) {ar at_ : Int} {S : Pa → Prop} {y : AV} {s : List UInt8} (hy : Bys S H y s) (h : ¬ okA D.room ar at_ s.length) : ∀ (M : Nat), 200 ≤ M → ∀ (R : Type) (k : HK R), callK tbl (runK tbl M) R (toPa 9) [.p D.p 0, .i .i64 ar, .i .i64 at_, y] H k = k (.i .i64 1) H := by
  intro M hM R k
  obtain ⟨m, rfl⟩ : ∃ m, M = m + 200 := ⟨M - 200, by omega⟩
  have e := s14 T hr ar at_ (s.length : Int)
  rw [if_neg h] at e
  rw [call_eq L9]
  unfold B9
  simp only [EX, reduceIte, Nat.reduceEqDiff, Nat.reduceAdd, Int.reduceEq, Int.reduceLT, Int.reduceLE, reduceCtorEq, Nat.reduceLeDiff, Nat.reduceSub, Nat.reduceLT, hy.len, e _ (Nat.le_add_left 60 _)]
end
end Go.Proofs.Ytnbjicanbihgnaa

/- What Write tells of bytes that may be. -/
namespace Go.Proofs.Ytnbjicanbihgnaa
open Go Go.Vai
set_option maxRecDepth 100000
set_option maxHeartbeats 3200000
set_option linter.unusedSimpArgs false
/-- All is as it was that is not the tape's. -/
structure KeepT (D : TD) (x : AV) (H H' : Heap) : Prop where
  next : H.next.toN ≤ H'.next.toN
  get : ∀ b, b.toN < H.next.toN → b ≠ D.p → b ≠ D.A → b ≠ D.B → Off x b → H'.get b = H.get b
  dead : Fresh H → Fresh H'
section
variable {D : TD} {H H' : Heap} {x : AV} {L : List AV} {st : TS}
theorem fill_4 {R : Type} {a b c d z0 z1 z2 z3 : AV} {ps : List (Nat × Nat × AV)} {f : List AV → Option R} : fillV ((0, 4, .ag [a, b, c, d]) :: ps) [z0, z1, z2, z3] f = fillV ps [a, b, c, d] f := rfl
theorem s9 (T : Tp D H x L st) (hr : D.room ≤ 1000000) (hm : st.op.length < 1000) (hn : st.n < 1000000) {i at_ : Nat} {y : AV} {s : List UInt8} (hi : i < 2) (hs : at_ + s.length ≤ D.room) (hy : Bys (fun a => a ≠ D.p ∧ Off x a) H y s) :
    ∃ H' x' L', Tp D H' x' L' (st.write i at_ s) ∧ KeepT D x H H' ∧ (∀ b, b.toN < H.next.toN → Off x' b) ∧ ∀ (M : Nat), 200 ≤ M → ∀ (R : Type) (k : HK R), callK tbl (runK tbl M) R (toPa 9) [.p D.p 0, .i .i64 (i : Int), .i .i64 (at_ : Int), y] H k = k (.i .i64 0) H' := by
  have o2 := T.o2
  have o3 := T.o3
  have o4 := T.o4
  have ne : ∀ a : Pa, D.p.toN < a.toN → a ≠ D.p := fun a h q => by subst q; omega
  have hroom : (1000000 : Nat) ≤ roomN := by decide
  obtain ⟨H1, T1, g1, n1, e15⟩ := s15 T hn
  -- the block that the region has made room for
  obtain ⟨id, hid⟩ : ∃ id, id = H1.next := ⟨_, rfl⟩
  have gb := Grow.bump 1 H1
  have nb : (H1.bump 1).next.toN = H1.next.toN + 1 := next_bump
  have Tb := T1.grow gb
  have hyb : Bys (fun a => a ≠ D.p ∧ Off x a) (H1.bump 1) y s := hy.mv (fun a ha hb => ⟨ha, by rw [gb.get a (by rw [n1]; exact hb), g1.get a hb ha.1]⟩) (by rw [nb, n1]; omega)
  obtain ⟨H2, z1, g2, hz1, e1⟩ := s16 hyb (by omega)
  have T2 := Tb.grow g2
  have hl := T.get_len i
  have hbl : (((st.get i).drop at_).take s.length).length = s.length := by rw [List.length_take, List.length_drop]; omega
  have hb2 : Bys Any H2 (.sl (D.ar i) at_ s.length (some (D.room - at_)) 1) (((st.get i).drop at_).take s.length) := Bys.of_row (T2.row hi) (T2.arlt hi).1 (by show at_ + s.length ≤ (st.get i).length; omega) (fun k q => by cases q; omega) trivial
  obtain ⟨H3, z2, g3, hz2, e2⟩ := s16 hb2 (by rw [hbl]; omega)
  have T3 := T2.grow g3
  have g13 : Grow H1 H3 := (gb.trans g2).trans g3
  have h2n := g2.next
  have h3n := g3.next
  obtain ⟨l, hll⟩ : ∃ l : List AV, l = [.i .i64 (i : Int), .i .i64 (at_ : Int), z1, z2] := ⟨_, rfl⟩
  have hlo : ∀ v ∈ l, oneC v = true := by
    intro v hv
    rw [hll] at hv
    simp only [List.mem_cons, List.not_mem_nil, or_false] at hv
    rcases hv with rfl | rfl | rfl | rfl
    · exact one_i
    · exact one_i
    · exact hz1.cell.1
    · exact hz2.cell.1
  obtain ⟨H4, h4⟩ : ∃ H4, H4 = H3.put id (.cells false 0 50 4 (setCells l 0 .leaf)) := ⟨_, rfl⟩
  have n4 : H4.next = H3.next := by rw [h4, next_put]
  have n4' : H4.next.toN = H3.next.toN := by rw [n4]
  have n1' : H1.next.toN = H.next.toN := by rw [n1]
  have r4 : Row H4 id 50 l := ⟨_, by rw [h4, get_put, hll]; rfl, fun j _ => cell_at l j⟩
  have g14 : Grow H1 H4 := by rw [h4]; exact g13.put (by rw [hid]; exact Nat.le_refl _) (by rw [hid]; omega) _
  have k34 : ∀ b, b ≠ id → H4.get b = H3.get b := fun b hb => by rw [h4, Heap.get_put, if_neg (fun q => hb q.symm)]
  have T4 := T1.grow g14
  -- appended
  obtain ⟨Hp, hHp⟩ : ∃ Hp : Heap, Hp = ⟨D.B.succ, .leaf⟩ := ⟨_, rfl⟩
  have hpn : Hp.next.toN = D.B.toN + 1 := by rw [hHp]; exact Pa.toN_succ _
  have held : Held Hp H4 50 4 x st.op.length L := by
    obtain ⟨h1, h2, h3⟩ | ⟨O, h1, h2, h3, h5, h6⟩ := T4.ro
    · exact Or.inl ⟨h1, by rw [show st.op = [] from h2]; rfl, h3⟩
    · exact Or.inr ⟨O, h1, h6, h5, by omega, h3⟩
  obtain ⟨H5, k1, k2, k3, held5, eapp0⟩ := held.app3 (n := 0) (bytes := 64) (ys := l) (by rw [hpn]; exact T4.o4) (by decide) (by rw [hll]; rfl) hlo (by have : (st.op.length + (0 + 1)) * 64 ≤ 1000 * 64 := Nat.mul_le_mul_right 64 (by omega); omega)
  have eapp := fun (R : Type) (k : HK R) => eapp0 R k (.sl id 0 1 (some 1) 4) (fun f => by rw [src_sl r4 (by rw [hll]; exact Nat.le_refl 4), List.drop_zero, List.take_of_length_le (by rw [hll]; exact Nat.le_refl 4)])
  obtain ⟨x', hx'⟩ : ∃ x', x' = AV.sl H4.next 0 (st.op.length + (0 + 1)) none 4 := ⟨_, rfl⟩
  rw [← hx'] at held5 eapp
  have p5 : Row H5 D.p 46 (D.cells x (st.n + 1)) := T4.rp.keep k2 (by omega) (by have := T4.o4; omega)
  have h14n := g14.next
  obtain ⟨H6, r6, g6, n6, est⟩ := p5.st_one (off := 2) (v := x') (by omega) (show 2 < 6 by decide) (by rw [hx']; exact one_sl)
  have n6' : H6.next.toN = H5.next.toN := by rw [n6]
  have off' : ∀ b : Pa, b.toN < H4.next.toN → Off x' b := by
    intro b hb o l c z q
    rw [hx'] at q
    cases q; omega
  have keep6 : ∀ b, b.toN < H4.next.toN → b ≠ D.p → Off x b → H6.get b = H4.get b := fun b hb hp ho => by rw [g6.get b (by omega) hp, k1 b hb ho]
  have own6 : ∀ a, Own D x a → a.toN < H1.next.toN → Own D x' a ∧ H6.get a = H1.get a := fun a ha hb => ⟨⟨ha.1, off' a (by omega)⟩, by rw [keep6 a (by omega) (ne a (by have := ha.1; omega)) ha.2, g14.get a hb]⟩
  have new6 : ∀ G : Heap, G.next.toN ≤ H3.next.toN → (∀ a, a.toN < G.next.toN → H3.get a = G.get a) → ∀ a, (H1.bump 1).next.toN ≤ a.toN → a.toN < G.next.toN → Own D x' a ∧ H6.get a = G.get a := by
    intro G hG hGe a ha hb
    refine ⟨⟨by omega, off' a (by rw [n4]; omega)⟩, ?_⟩
    rw [keep6 a (by rw [n4]; omega) (ne a (by omega)) (T1.xoff (.inr (by omega))), k34 a (by intro q; rw [q, hid] at ha; omega), hGe a hb]
  have T6 : Tp D H6 x' (L ++ l) { st with op := st.op ++ [⟨i, at_, s, ((st.get i).drop at_).take s.length⟩], n := st.n + 1 } := by
    have hLl := held.ll
    refine ⟨T.o1, o2, o3, by omega, r6, ?_, ?_, T.la, T.lb, Or.inr ⟨H4.next, ?_, by omega, by omega, ?_, ?_⟩, fun j w hj => ?_⟩
    · exact (T4.ra.keep k2 (by omega) (by omega)).but g6 (by omega) (ne _ o2)
    · exact (T4.rb.keep k2 (by omega) (by omega)).but g6 (by omega) (ne _ (by omega))
    · rw [hx']; show AV.sl _ _ _ _ _ = .sl _ _ (st.op ++ [_]).length _ _
      rw [List.length_append]; rfl
    · obtain ⟨q, _⟩ | ⟨a, q, _, q2, _, _⟩ := held5
      · rw [hx'] at q; cases q
      · rw [hx'] at q; cases q
        exact q2.but g6 (by omega) (ne _ (by omega))
    · show (L ++ l).length = (st.op ++ [_]).length * 4
      rw [List.length_append, List.length_append, hLl, hll, Nat.add_mul]; rfl
    · by_cases hjl : j < st.op.length
      · rw [List.getElem?_append_left hjl] at hj
        obtain ⟨y0, z0, q1, q2, q3, q4⟩ := T1.wr j w hj
        exact ⟨y0, z0, by rw [drop_l hLl hjl]; exact q1, q2.mv own6 (by omega), q3.mv own6 (by omega), q4⟩
      · have hj2 := hj
        rw [List.getElem?_append_right (by omega)] at hj
        have hj0 : j - st.op.length = 0 := by
          have := (List.getElem?_eq_some_iff.mp hj).1
          rw [List.length_singleton] at this; omega
        rw [hj0] at hj
        cases hj
        obtain rfl : j = st.op.length := by omega
        refine ⟨z1, z2, by rw [drop_r hLl (by rw [hll]; rfl), hll], hz1.mv (new6 H2 g3.next fun a ha => g3.get a ha) (by omega), hz2.mv (fun a ha hb => new6 H3 (Nat.le_refl _) (fun _ _ => rfl) a (by omega) hb) (by omega), hi, hs, hbl⟩
  have hy6 : Bys Any H6 y s := hy.mv (fun a ha hb => ⟨trivial, by rw [keep6 a (by omega) ha.1 ha.2, g14.get a (by rw [n1]; exact hb), g1.get a hb ha.1]⟩) (by omega)
  obtain ⟨H7, T7, g7, n7, e17⟩ := s17 T6 hi hs hy6
  have n7' : H7.next.toN = H6.next.toN := by rw [n7]
  refine ⟨H7, x', L ++ l, T7, ⟨by omega, fun b hb hp hA hB ho => ?_, fun f => g7.dead (g6.dead (k2.dead (g14.dead (g1.dead f))))⟩, fun b hb => off' b (by omega), fun M hM R k => ?_⟩
  · have hb' : b ≠ D.ar i := by unfold TD.ar; split <;> assumption
    rw [g7.get b (by omega) hb', keep6 b (by omega) hp ho, g14.get b (by rw [n1]; exact hb), g1.get b hb hp]
  · obtain ⟨m, rfl⟩ : ∃ m, M = m + 200 := ⟨M - 200, by omega⟩
    have e14 := s14 T hr (i : Int) (at_ : Int) (s.length : Int)
    rw [if_pos (by unfold okA; omega)] at e14
    have hw : IntKind.i64.wrap ((at_ : Int) + (s.length : Int)) = ((at_ + s.length : Nat) : Int) := by rw [show (at_ : Int) + (s.length : Int) = ((at_ + s.length : Nat) : Int) by omega, wrap_n64 (by omega)]
    have sl : ∀ (R : Type) (k : HK R) (G : Heap), sllC 1 (.sl (D.ar i) 0 D.room (some D.room) 1) (some (.i .i64 (at_ : Int))) (some (.i .i64 ((at_ + s.length : Nat) : Int))) none k G = k (.sl (D.ar i) at_ s.length (some (D.room - at_)) 1) G := by
      intro R k G
      rw [sll_part k G (by omega) hs, Nat.add_sub_cancel_left]
    have ldb := Tb.lda hi
    have ld2 := T2.lda hi
    have opb := Tb.rp.l 2 (v := x) rfl
    have op2 := T2.rp.l 2 (v := x) rfl
    have op3 := T3.rp.l 2 (v := x) rfl
    have hxx := T.xcell.2
    subst hll
    subst h4 hid
    rw [call_eq L9]
    unfold B9
    simp only [EX, reduceIte, Nat.reduceEqDiff, Nat.reduceAdd, Int.reduceEq, Int.reduceLT, Int.reduceLE, reduceCtorEq, Nat.reduceLeDiff, Nat.reduceSub, Nat.reduceLT, hy.len, e14 _ (Nat.le_add_left 60 _), e15 _ (Nat.le_add_left 60 _), e1 _ (Nat.le_add_left 20 _), e2 _ (Nat.le_add_left 20 _), e17 _ (Nat.le_add_left 20 _), ixp_n hi, ldb, ld2, opb, op2, op3, hxx, i_add, hw, sl, fill_4, eapp, est, fill_1 hz1.cell.1, fill_1 hz2.cell.1]
end
end Go.Proofs.Ytnbjicanbihgnaa

/- What New tells of a room that may be. -/
namespace Go.Proofs.Ytnbjicanbihgnaa
open Go Go.Vai
set_option maxRecDepth 100000
set_option maxHeartbeats 3200000
set_option linter.unusedSimpArgs false
def zeros (n : Nat) : List UInt8 := List.replicate n 0
theorem zeros_len {n : Nat} : (zeros n).length = n := List.length_replicate
theorem rep_bcs : ∀ n : Nat, repK [.i .u8 0] n = bcs (zeros n)
  | 0 => rfl
  | n + 1 => by
    show [AV.i .u8 0] ++ repK [.i .u8 0] n = AV.i .u8 ((0 : UInt8).toNat : Int) :: bcs (zeros n)
    rw [rep_bcs n]; rfl
noncomputable def mksC {R : Type} (e sz bytes : Nat) (zs : List AV) (l c : AV) (k : HK R) (H : Heap) : Option R := vI l fun kl l => vI c fun kc c => guardK (Nat.beq (kix kl) 3) (guardK (Nat.beq (kix kc) 3) (iN l fun l => iN c fun c =>
  guardK (Nat.ble l c) (guardK (Nat.ble (Nat.mul c bytes) roomN) (guardK (Nat.ble c sMax) (newK e (repK zs c) H fun id H => k (.sl id 0 l (some c) sz) H)))))
theorem x_mks {R : Type} {call : CallK R} {fr : Tr AV} {H : Heap} {k : HK R} {e sz bytes : Nat} {zs : List AV} {l c : Opd} : xopK (.mks e sz bytes zs l c) call fr H k = mksC e sz bytes zs (ev fr l) (ev fr c) k H := by
  show evK fr l (fun l => evK fr c fun c => _) = _
  rw [evK_eq, evK_eq]; rfl
theorem mks_n {R : Type} {H : Heap} {k : HK R} {n : Nat} (h : n ≤ roomN) (h2 : n ≤ sMax) : mksC 5 1 1 [.i .u8 0] (.i .i64 (n : Int)) (.i .i64 (n : Int)) k H = k (.sl H.next 0 n (some n) 1) (H.alloc (.cells false 0 5 (bcs (zeros n)).length (setCells (bcs (zeros n)) 0 .leaf))) := by
  show guardK (Nat.ble n n) (guardK (Nat.ble (Nat.mul n 1) roomN) (guardK (Nat.ble n sMax) (newK 5 (repK [.i .u8 0] n) H fun id H => k (.sl id 0 n (some n) 1) H))) = _
  have q : Nat.ble (Nat.mul n 1) roomN = true := Nat.ble_eq_true_of_le (by show n * 1 ≤ _; omega)
  rw [Nat.ble_eq_true_of_le (Nat.le_refl n), q, Nat.ble_eq_true_of_le h2, rep_bcs]
  show newK 5 (bcs (zeros n)) H _ = _
  unfold newK
  rw [setCellsK_eq, forceN_eq, Heap.allocK_eq, lenK_eq]
theorem ixp_0 {R : Type} {a : Pa} (k : HK R) (G : Heap) : ixpC 2 1 (.p a 0) (.i .i64 0) k G = k (.p a 0) G := ixp_n (i := 0) (by decide) k G
theorem ixp_1 {R : Type} {a : Pa} (k : HK R) (G : Heap) : ixpC 2 1 (.p a 0) (.i .i64 1) k G = k (.p a 1) G := ixp_n (i := 1) (by decide) k G
theorem w01 : IntKind.i64.wrap (0 + 1) = 1 := rfl
theorem w11 : IntKind.i64.wrap (1 + 1) = 2 := rfl
section
variable {H : Heap}
theorem s7 {n : Nat} (h1 : 1 ≤ n) (h2 : n ≤ 1000000) : ∃ D H', D.n0 = H.next.toN ∧ D.room = n ∧ Tp D H' .ns [] ⟨zeros n, zeros n, [], 0⟩ ∧ Grow H H' ∧ ∀ (M : Nat), 100 ≤ M → ∀ (R : Type) (k : HK R), callK tbl (runK tbl M) R (toPa 7) [.i .i64 (n : Int)] H k = k (.tu [.p D.p 0, .i .i64 0]) H' := by
  have hroom : (1000000 : Nat) ≤ roomN := by decide
  have hs : (1000000 : Nat) ≤ sMax := by decide
  have g1 := Grow.alloc H (.cells false 0 46 6 (setCells [.ns, .ns, .ns, .i .i64 0, .b false, .i .i64 0] 0 .leaf))
  have n1 := next_alloc H (.cells false 0 46 6 (setCells [.ns, .ns, .ns, .i .i64 0, .b false, .i .i64 0] 0 .leaf))
  have r1 : Row (H.alloc (.cells false 0 46 6 (setCells [.ns, .ns, .ns, .i .i64 0, .b false, .i .i64 0] 0 .leaf))) H.next 46 [.ns, .ns, .ns, .i .i64 0, .b false, .i .i64 0] := Row.new H 46 [.ns, .ns, .ns, .i .i64 0, .b false, .i .i64 0]
  obtain ⟨H1, e1⟩ : ∃ H1, H1 = H.alloc (.cells false 0 46 6 (setCells [.ns, .ns, .ns, .i .i64 0, .b false, .i .i64 0] 0 .leaf)) := ⟨_, rfl⟩
  rw [← e1] at g1 n1 r1
  have g2 := Grow.alloc H1 (.cells false 0 5 (bcs (zeros n)).length (setCells (bcs (zeros n)) 0 .leaf))
  have n2 := next_alloc H1 (.cells false 0 5 (bcs (zeros n)).length (setCells (bcs (zeros n)) 0 .leaf))
  have rA := Row.new H1 5 (bcs (zeros n))
  obtain ⟨H2, e2⟩ : ∃ H2, H2 = H1.alloc (.cells false 0 5 (bcs (zeros n)).length (setCells (bcs (zeros n)) 0 .leaf)) := ⟨_, rfl⟩
  rw [← e2] at g2 n2 rA
  obtain ⟨H3, r3, b3, n3, st3⟩ := (r1.grow g2 (by omega)).st_one (off := 0) (v := .sl H1.next 0 n (some n) 1) (by omega) (show 0 < 6 by decide) one_sl
  have n3' : H3.next.toN = H2.next.toN := by rw [n3]
  have g4 := Grow.alloc H3 (.cells false 0 5 (bcs (zeros n)).length (setCells (bcs (zeros n)) 0 .leaf))
  have n4 := next_alloc H3 (.cells false 0 5 (bcs (zeros n)).length (setCells (bcs (zeros n)) 0 .leaf))
  have rB := Row.new H3 5 (bcs (zeros n))
  obtain ⟨H4, e4⟩ : ∃ H4, H4 = H3.alloc (.cells false 0 5 (bcs (zeros n)).length (setCells (bcs (zeros n)) 0 .leaf)) := ⟨_, rfl⟩
  rw [← e4] at g4 n4 rB
  obtain ⟨H5, r5, b5, n5, st5⟩ := (r3.grow g4 (by omega)).st_one (off := 1) (v := .sl H3.next 0 n (some n) 1) (by omega) (show 1 < 6 by decide) one_sl
  have n5' : H5.next.toN = H4.next.toN := by rw [n5]
  have ne : ∀ a : Pa, H.next.toN < a.toN → a ≠ H.next := fun a h q => by rw [q] at h; omega
  refine ⟨⟨H.next.toN, n, H.next, H1.next, H3.next⟩, H5, rfl, rfl, ⟨Nat.le_refl _, (by show H.next.toN < H1.next.toN; omega), (by show H1.next.toN < H3.next.toN; omega), (by show H3.next.toN < H5.next.toN; omega), r5, ?_, rB.but b5 (by omega) (ne _ (by omega)), zeros_len, zeros_len, Or.inl ⟨rfl, rfl, rfl⟩, fun j w hj => by cases hj⟩, ?_, fun M hM R k => ?_⟩
  · exact ((rA.but b3 (by omega) (ne _ (by omega))).grow g4 (by omega)).but b5 (by omega) (ne _ (by omega))
  · exact (b5.of ((b3.of (g1.trans g2) (Nat.le_refl _)).trans g4) (Nat.le_refl _))
  · obtain ⟨m, rfl⟩ : ∃ m, M = m + 100 := ⟨M - 100, by omega⟩
    have c1 : ¬ ((n : Int) < 1) := by omega
    have c2 : ¬ ((16777216 : Int) < (n : Int)) := by omega
    subst e4 e2 e1
    rw [call_eq L7]
    unfold B7
    simp only [EX, reduceIte, Nat.reduceEqDiff, Nat.reduceAdd, Int.reduceEq, Int.reduceLT, Int.reduceLE, reduceCtorEq, Nat.reduceLeDiff, Nat.reduceSub, Nat.reduceLT, run_loop, c1, c2, x_mks, mks_n (show n ≤ roomN by omega) (show n ≤ sMax by omega), ixp_0, ixp_1, i_add, w01, w11, st3, st5]
end
end Go.Proofs.Ytnbjicanbihgnaa

/- The range over slices.Backward: its equations, and what it does to a tape. -/
namespace Go.Proofs.Ytnbjicanbihgnaa
open Go Go.Vai
set_option maxRecDepth 100000
set_option maxHeartbeats 3200000
set_option linter.unusedSimpArgs false
section
variable {R : Type} {call : CallK R} {fr : Tr AV} {H : Heap} {k : HK R}
theorem x_mkfn {f : Fn} {xs cs : List Opd} : xopK (.mkfn f xs cs) call fr H k = k (.fn f (xs.map (ev fr)) (cs.map (ev fr))) H := by
  show evsK fr xs (fun first => evsK fr cs fun caps => k (.fn f first caps) H) = _
  rw [evsK_eq, evsK_eq]
/-- What comes behind a round's body, behind a round's begin. -/
noncomputable def bk2 (ih : Heap → Option R) : XK R := fun e _ H4 => Ex.casesOn e (ih H4) (fun _ => none) none
noncomputable def bk1 (run : Run1) (body : AC) (ih : Heap → Option R) : XK R := fun e fr3 H3 => Ex.casesOn e (run R body fr3 H3 (bk2 ih)) (fun _ => none) none
theorem bk2_norm {ih : Heap → Option R} : bk2 ih .norm fr H = ih H := id rfl
theorem bk1_norm {run : Run1} {body : AC} {ih : Heap → Option R} : bk1 run body ih .norm fr H = run R body fr H (bk2 ih) := id rfl
noncomputable def bgo (run : Run1) (c : Pa) (as_ body : AC) (fr : Tr AV) (k : XK R) (i : Nat) (H : Heap) : Option R := backGo run 4 true c 0 (toPa 18) (toPa 19) as_ body fr k i H
theorem bgo_0 {run : Run1} {c : Pa} {as_ body : AC} {k : XK R} : bgo run c as_ body fr k 0 H = k .norm fr H := id rfl
theorem bgo_step {run : Run1} {c : Pa} {as_ body : AC} {k : XK R} {i len : Nat} {O : Pa} {e1 e2 : Nat} {L : List AV} (rc : Row H c e1 [.sl O 0 len none 4]) (ro : Row H O e2 L) (hL : L.length = len * 4) (hi : i < len) :
    bgo run c as_ body fr k (i + 1) H = run R as_ (S (S fr 18 (.i .i64 (i : Int))) 19 (.ag ((L.drop (i * 4)).take 4))) H (bk1 run body (bgo run c as_ body fr k i)) := by
  have h1 := rc.l 0 rfl R fun x _ => vL x none fun a off len _ sz => guardK (Nat.beq sz 4) (guardK (Nat.blt i len) (loadK true 4 a (Nat.add off (Nat.mul i 4)) H fun v =>
    setK un (.i .i64 (.ofNat i)) (toPa 18) fr fun fr1 => setK un v (toPa 19) fr1 fun fr2 => run R as_ fr2 H (bk1 run body (bgo run c as_ body fr k i))))
  refine Eq.trans (b := ldC false 1 (.p c 0) (fun x _ => vL x none fun a off len _ sz => guardK (Nat.beq sz 4) (guardK (Nat.blt i len) (loadK true 4 a (Nat.add off (Nat.mul i 4)) H fun v =>
    setK un (.i .i64 (.ofNat i)) (toPa 18) fr fun fr1 => setK un v (toPa 19) fr1 fun fr2 => run R as_ fr2 H (bk1 run body (bgo run c as_ body fr k i))))) H) (id rfl) (h1.trans ?_)
  show guardK (Nat.beq 4 4) (guardK (Nat.blt i len) (loadK true 4 O (Nat.add 0 (Nat.mul i 4)) H fun v =>
    setK un (.i .i64 (.ofNat i)) (toPa 18) fr fun fr1 => setK un v (toPa 19) fr1 fun fr2 => run R as_ fr2 H (bk1 run body (bgo run c as_ body fr k i)))) = _
  have h0 : 0 + i * 4 = i * 4 := Nat.zero_add _
  have h2 := ro.lds (n := 4) (off := i * 4) (by omega) (k := fun v _ => setK un (.i .i64 (.ofNat i)) (toPa 18) fr fun fr1 => setK un v (toPa 19) fr1 fun fr2 => run R as_ fr2 H (bk1 run body (bgo run c as_ body fr k i)))
  rw [Nat.beq_refl, Nat.blt_eq.mpr hi]
  show loadK true 4 O (0 + i * 4) H _ = _
  rw [h0]
  refine Eq.trans (b := ldC true 4 (.p O (i * 4)) (fun v _ => setK un (.i .i64 (.ofNat i)) (toPa 18) fr fun fr1 => setK un v (toPa 19) fr1 fun fr2 => run R as_ fr2 H (bk1 run body (bgo run c as_ body fr k i))) H) (id rfl) (h2.trans ?_)
  show setK un _ (toPa 18) fr (fun fr1 => setK un _ (toPa 19) fr1 fun fr2 => _) = _
  rw [setK_eq, setK_eq]; rfl
theorem run_back {m : Nat} {g : Opd} {as_ body : AC} {k : XK R} {c : Pa} (hg : ev fr g = .fn (.func 19) [] [.p c 0]) : runK tbl (m + 1) R (.back g (toPa 18) (toPa 19) as_ body) fr H k = backAt (runK tbl m) 4 true c 0 (toPa 18) (toPa 19) as_ body fr k H := by
  show evK fr g (fun v => vF v none fun f first caps => fnF f fun f => getK (AF.mk .bad []) (toPa f) tbl fun af =>
    AF.casesOn af (fun _ _ => none) (fun _ => none) fun z agg => List.casesOn first (List.casesOn caps none fun c cs => List.casesOn cs (vP c none fun c o => backAt (runK tbl m) z agg c o (toPa 18) (toPa 19) as_ body fr k H) (fun _ _ => none)) (fun _ _ => none)) = _
  rw [evK_eq, hg]
  refine Eq.trans (b := getK (AF.mk .bad []) (toPa 19) tbl fun af => AF.casesOn af (fun _ _ => none) (fun _ => none) fun z agg => backAt (runK tbl m) z agg c 0 (toPa 18) (toPa 19) as_ body fr k H) (id rfl) ?_
  rw [getK_eq, show Tr.get (AF.mk .bad []) tbl (toPa 19) = .iter 4 true from L19]
theorem back_none {run : Run1} {c : Pa} {as_ body : AC} {k : XK R} {e1 : Nat} (rc : Row H c e1 [.ns]) : backAt run 4 true c 0 (toPa 18) (toPa 19) as_ body fr k H = k .norm fr H := by
  exact rc.l 0 rfl R fun x _ => vL x (k .norm fr H) fun _ _ len _ _ => guardK (Nat.blt len 1152921504606846976) (backGo run 4 true c 0 (toPa 18) (toPa 19) as_ body fr k len H)
theorem back_some {run : Run1} {c O : Pa} {as_ body : AC} {k : XK R} {e1 len : Nat} (rc : Row H c e1 [.sl O 0 len none 4]) (hl : len < 1152921504606846976) : backAt run 4 true c 0 (toPa 18) (toPa 19) as_ body fr k H = bgo run c as_ body fr k len H := by
  have h := rc.l 0 rfl R fun x _ => vL x (k .norm fr H) fun _ _ len _ _ => guardK (Nat.blt len 1152921504606846976) (backGo run 4 true c 0 (toPa 18) (toPa 19) as_ body fr k len H)
  refine Eq.trans (b := _) (id rfl) (h.trans ?_)
  show guardK (Nat.blt len 1152921504606846976) (backGo run 4 true c 0 (toPa 18) (toPa 19) as_ body fr k len H) = _
  rw [Nat.blt_eq.mpr hl]; rfl
end
theorem s18 {x : AV} (hx : oneC x = true) (H : Heap) : ∀ (M : Nat), 20 ≤ M → ∀ (R : Type) (k : HK R), callK tbl (runK tbl M) R (toPa 18) [x] H k = k (.fn (.func 19) [] [.p H.next 0]) (H.alloc (.cells false 0 44 1 (setCells [x] 0 .leaf))) := by
  intro M hM R k
  obtain ⟨m, rfl⟩ : ∃ m, M = m + 20 := ⟨M - 20, by omega⟩
  rw [call_eq L18]
  unfold B18
  simp only [EX, reduceIte, Nat.reduceEqDiff, Nat.reduceAdd, Int.reduceEq, Int.reduceLT, Int.reduceLE, reduceCtorEq, Nat.reduceLeDiff, Nat.reduceSub, Nat.reduceLT, box_one hx, x_mkfn]
end Go.Proofs.Ytnbjicanbihgnaa

/- The range over slices.Backward in Crash: the writes undone, the last one first. -/
namespace Go.Proofs.Ytnbjicanbihgnaa
open Go Go.Vai
set_option maxRecDepth 100000
set_option maxHeartbeats 3200000
set_option linter.unusedSimpArgs false
noncomputable def AS10 : AC := (.ops [O 7 (.new 50 [(.i .i64 0), (.i .i64 0), .ns, .ns]), O_ (.st 4 (T 7) (T 19))])
noncomputable def BD10 : AC := (.block 1 (.ops [O 20 (.ld false 1 (T 2)), O 21 (.fa 0 (T 7)), O 22 (.ld false 1 (T 21)), O 23 (.fa 1 (T 7)), O 24 (.ld false 1 (T 23)), O 25 (.fa 3 (T 7)), O 26 (.ld false 1 (T 25)), O 27 (.call (toPa 17) [(T 20), (T 22), (T 24), (T 26)])]))
noncomputable def Lp10 : AC := (.loop (.seq (.ops [O 31 (.bin .lss .no (T 30) (T 29))]) (.seq (.cond (T 31) .skip (.exit 2)) (.seq (.block 3 (.seq (.ops [O 32 (.mv (T 30)), O 33 (.ixa 4 (T 28) (T 30)), O 34 (.ld true 4 (T 33)), O 9 (.new 50 [(.i .i64 0), (.i .i64 0), .ns, .ns]), O 8 (.mv (T 32)), O_ (.st 4 (T 9) (T 34))]) (.seq (.ops [O 10 (.mv (K (.i .i64 0)))]) (.seq (.seq (.ops [O 35 (.fa 2 (T 9)), O 36 (.ld false 1 (T 35)), O 37 (.len false (T 36)), O 38 (.bin .add .no (T 37) (K (.i .i64 1))), O 11 (.mv (T 38))]) (.seq (.ops [O 39 (.mv (T 8)), O 40 (.mv (T 1)), O 41 (.len false (T 40)), O 42 (.bin .lss .no (T 39) (T 41))]) (.cond (T 42) (.ops [O 43 (.mv (T 1)), O 44 (.mv (T 8)), O 45 (.ixa 1 (T 43) (T 44)), O 46 (.ld false 1 (T 45)), O 47 (.mv (T 11)), O 48 (.bin .rem .no (T 46) (T 47)), O 49 (.mv (T 11)), O 50 (.bin .add .no (T 48) (T 49)), O 51 (.mv (T 11)), O 52 (.bin .rem .no (T 50) (T 51)), O 10 (.mv (T 52))]) .skip))) (.draw 0 [(O 53 (.ld false 1 (T 2)), ⟨1, 0⟩), (O 54 (.fa 0 (T 9)), ⟨0, 0⟩), (O 55 (.ld false 1 (T 54)), ⟨1, 0⟩), (O 56 (.fa 1 (T 9)), ⟨0, 0⟩), (O 57 (.ld false 1 (T 56)), ⟨1, 0⟩), (O 58 (.fa 2 (T 9)), ⟨0, 0⟩), (O 59 (.ld false 1 (T 58)), ⟨1, 0⟩), (O 60 (.mv (T 10)), ⟨0, 0⟩), (O 61 (.sll 1 (T 59) none (some (T 60)) none), ⟨0, 0⟩), (O 62 (.call (toPa 17) [(T 53), (T 55), (T 57), (T 61)]), ⟨3, 0⟩)]))))) (.ops [O 63 (.bin .add .no (T 30) (K (.i .i64 1))), O 30 (.mv (T 63))])))))
section
variable {D : TD} {H H' H'' : Heap} {x : AV} {L : List AV} {st : TS}
theorem KeepT.refl : KeepT D x H H := ⟨Nat.le_refl _, fun _ _ _ _ _ _ => rfl, id⟩
theorem KeepT.trans (h : KeepT D x H H') (h' : KeepT D x H' H'') : KeepT D x H H'' :=
  ⟨Nat.le_trans h.next h'.next, fun b hb h1 h2 h3 h4 => by rw [h'.get b (Nat.lt_of_lt_of_le hb h.next) h1 h2 h3 h4, h.get b hb h1 h2 h3 h4], fun f => h'.dead (h.dead f)⟩
theorem kt_g (g : Grow H H') : KeepT D x H H' := ⟨g.next, fun b hb _ _ _ _ => g.get b hb, g.dead⟩
theorem kt_a {i : Nat} (g : GrowBut (D.ar i) H H') : KeepT D x H H' :=
  ⟨g.next, fun b hb _ h2 h3 _ => g.get b hb (by unfold TD.ar; split <;> assumption), g.dead⟩
theorem kt_p (g : GrowBut D.p H H') : KeepT D x H H' := ⟨g.next, fun b hb h1 _ _ _ => g.get b hb h1, g.dead⟩
theorem KeepT.row (k : KeepT D x H H') {a : Pa} {e : Nat} {l : List AV} (r : Row H a e l) (ha : a.toN < H.next.toN) (hB : D.B.toN < a.toN) (o : Off x a) (T : Tp D H x L st) : Row H' a e l := by
  have o2 := T.o2
  have o3 := T.o3
  obtain ⟨c, h1, h2⟩ := r
  exact ⟨c, by rw [k.get a ha (by intro q; subst q; omega) (by intro q; subst q; omega) (by intro q; subst q; omega) o, h1], h2⟩
/-- A write laid in a block of its own. -/
theorem wr_box {l : List AV} (hl : l.length = 4) (ho : ∀ v ∈ l, oneC v = true) :
    ∃ H2, Grow H H2 ∧ H.next.toN < H2.next.toN ∧ Row H2 H.next 50 l ∧ ∀ (R : Type) (k : HK R), stC 4 (.p H.next 0) (.ag l) k (H.alloc (.cells false 0 50 4 (setCells [.i .i64 0, .i .i64 0, .ns, .ns] 0 .leaf))) = k un H2 := by
  have g1 := Grow.alloc H (.cells false 0 50 4 (setCells [.i .i64 0, .i .i64 0, .ns, .ns] 0 .leaf))
  have n1 := next_alloc H (.cells false 0 50 4 (setCells [.i .i64 0, .i .i64 0, .ns, .ns] 0 .leaf))
  have r1 : Row (H.alloc (.cells false 0 50 4 (setCells [.i .i64 0, .i .i64 0, .ns, .ns] 0 .leaf))) H.next 50 [.i .i64 0, .i .i64 0, .ns, .ns] := Row.new H 50 [.i .i64 0, .i .i64 0, .ns, .ns]
  obtain ⟨H2, r2, b2, n2, e⟩ := r1.st_all (by omega) hl rfl ho
  exact ⟨H2, b2.of g1 (Nat.le_refl _), by rw [n2]; omega, r2, e⟩
theorem wr_one {w : Wr} {y z : AV} {S S' : Pa → Prop} (hy : Bys S H y w.put) (hz : Bys S' H z w.was) : ∀ v ∈ ([.i .i64 (w.ar : Int), .i .i64 (w.at_ : Int), y, z] : List AV), oneC v = true := by
  intro v hv
  simp only [List.mem_cons, List.not_mem_nil, or_false] at hv
  rcases hv with rfl | rfl | rfl | rfl
  · exact one_i
  · exact one_i
  · exact hy.cell.1
  · exact hz.cell.1
theorem undo_round (T : Tp D H x L st) {t : Pa} (rt : Row H t 25 [.p D.p 0]) (ht : t.toN < H.next.toN) {j : Nat} {w : Wr} (hj : st.op[j]? = some w) :
    ∃ H', Tp D H' x L (st.lay w.ar w.at_ w.was) ∧ KeepT D x H H' ∧ ∀ (M : Nat), 100 ≤ M → ∀ (R : Type) (fr : Tr AV) (i : AV) (ih : Heap → Option R), V fr 2 = .p t 0 →
      runK tbl M R AS10 (S (S fr 18 i) 19 (.ag ((L.drop (j * 4)).take 4))) H (bk1 (runK tbl M) BD10 ih) = ih H' := by
  obtain ⟨y, z, hc, hy, hz, ha, hs, hw⟩ := T.wr j w hj
  obtain ⟨H2, g2, n2, r2, est⟩ := wr_box (l := [.i .i64 (w.ar : Int), .i .i64 (w.at_ : Int), y, z]) rfl (wr_one hy hz)
  obtain ⟨H3, T3, g3, n3, e17⟩ := s17 (T.grow g2) ha (by rw [hw]; exact hs) (hz.grow g2)
  refine ⟨H3, T3, (kt_g g2).trans (kt_a g3), fun M hM R fr i ih hf => ?_⟩
  obtain ⟨m, rfl⟩ : ∃ m, M = m + 100 := ⟨M - 100, by omega⟩
  have lt := (rt.grow g2 ht).l 0 (v := .p D.p 0) rfl
  have l0 := r2.l 0 (v := .i .i64 (w.ar : Int)) rfl
  have l1 := r2.l 1 (v := .i .i64 (w.at_ : Int)) rfl
  have l3 := r2.l 3 (v := z) rfl
  rw [hc]
  unfold AS10
  simp only [EX, reduceIte, Nat.reduceEqDiff, Nat.reduceAdd, Int.reduceEq, Int.reduceLT, Int.reduceLE, reduceCtorEq, Nat.reduceLeDiff, Nat.reduceSub, Nat.reduceLT, est, bk1_norm]
  unfold BD10
  simp only [EX, reduceIte, Nat.reduceEqDiff, Nat.reduceAdd, Int.reduceEq, Int.reduceLT, Int.reduceLE, reduceCtorEq, Nat.reduceLeDiff, Nat.reduceSub, Nat.reduceLT, hf, lt, l0, l1, l3, e17 _ (Nat.le_add_left 20 _), bk2_norm]
def TS.undo (l : List Wr) (st : TS) : TS := l.foldr (fun w st => st.lay w.ar w.at_ w.was) st
theorem lay_op {st : TS} {i j : Nat} {s : List UInt8} : (st.lay i j s).op = st.op ∧ (st.lay i j s).n = st.n := by unfold TS.lay; split <;> exact ⟨rfl, rfl⟩
theorem take_next {α : Type} {l : List α} {i : Nat} {w : α} (h : l[i]? = some w) : l.take (i + 1) = l.take i ++ [w] := by
  obtain ⟨hi, e⟩ := List.getElem?_eq_some_iff.mp h
  rw [List.take_add_one, h]; rfl
theorem undo_loop {t c : Pa} {O : Pa} (hx : x = .sl O 0 st.op.length none 4) (htc : D.B.toN < t.toN ∧ Off x t ∧ D.B.toN < c.toN ∧ Off x c) {ops : List Wr} (_ : ops = st.op) :
    ∀ i, i ≤ ops.length → ∀ (H : Heap) (st : TS), st.op = ops → Tp D H x L st → Row H t 25 [.p D.p 0] → Row H c 44 [x] → t.toN < H.next.toN → c.toN < H.next.toN →
    ∃ H', Tp D H' x L (TS.undo (ops.take i) st) ∧ KeepT D x H H' ∧ ∀ (M : Nat), 100 ≤ M → ∀ (R : Type) (fr : Tr AV) (k : XK R), V fr 2 = .p t 0 → bgo (runK tbl M) c AS10 BD10 fr k i H = k .norm fr H' := by
  intro i
  induction i with
  | zero => intro _ H st _ T _ _ _ _; exact ⟨H, T, KeepT.refl, fun M hM R fr k hf => bgo_0⟩
  | succ i ih =>
    intro hi H st ho T rt rc ht hc
    obtain ⟨w, hw⟩ : ∃ w, ops[i]? = some w := ⟨ops[i], List.getElem?_eq_getElem (by omega)⟩
    obtain ⟨H1, T1, k1, e1⟩ := undo_round T rt ht (by rw [ho]; exact hw)
    obtain ⟨H2, T2, k2, e2⟩ := ih (by omega) H1 (st.lay w.ar w.at_ w.was) (by rw [lay_op.1, ho]) T1 (k1.row rt ht htc.1 htc.2.1 T) (k1.row rc hc htc.2.2.1 htc.2.2.2 T) (Nat.lt_of_lt_of_le ht k1.next) (Nat.lt_of_lt_of_le hc k1.next)
    refine ⟨H2, ?_, k1.trans k2, fun M hM R fr k hf => ?_⟩
    · rw [take_next hw]
      unfold TS.undo at T2 ⊢
      rw [List.foldr_append]; exact T2
    · obtain ⟨h1, _⟩ | ⟨O', h1, h2, h3, h4, h5⟩ := T.ro
      · rw [hx] at h1; cases h1
      · rw [h1] at rc
        rw [bgo_step rc h4 h5 (by rw [ho]; omega), e1 M hM R fr _ _ hf, e2 M hM R fr k hf]
end
end Go.Proofs.Ytnbjicanbihgnaa

/- Crash: the fronts laid again; the whole. -/
namespace Go.Proofs.Ytnbjicanbihgnaa
open Go Go.Vai
set_option maxRecDepth 100000
set_option maxHeartbeats 3200000
set_option linter.unusedSimpArgs false
/-- A slice of numbers, its block one of S. -/
def Zs (S : Pa → Prop) (H : Heap) (y : AV) (s : List Int) : Prop :=
  (y = .ns ∧ s = []) ∨ ∃ a o c ro fz e size t, y = .sl a o s.length c 1 ∧ S a ∧ a.toN < H.next.toN ∧ H.get a = .cells ro fz e size t ∧ o + s.length ≤ size ∧ ∀ j (h : j < s.length), Tr.get .u t (toPa (o + j)) = .i .i64 s[j]
section
variable {S S' : Pa → Prop} {H H' : Heap} {y : AV} {s : List Int}
theorem Zs.mv (h : Zs S H y s) (hs : ∀ a, S a → a.toN < H.next.toN → S' a ∧ H'.get a = H.get a) (hn : H.next.toN ≤ H'.next.toN) : Zs S' H' y s := by
  obtain h | ⟨a, o, c, ro, fz, e, size, t, h1, h2, h3, h4, h5, h6⟩ := h
  · exact Or.inl h
  · exact Or.inr ⟨a, o, c, ro, fz, e, size, t, h1, (hs a h2 h3).1, by omega, by rw [(hs a h2 h3).2, h4], h5, h6⟩
theorem Zs.len (h : Zs S H y s) : ∀ (R : Type) (k : HK R) (G : Heap), lenC false y k G = k (.i .i64 (s.length : Int)) G := by
  intro R k G
  obtain ⟨rfl, rfl⟩ | ⟨a, o, c, ro, fz, e, size, t, rfl, _⟩ := h
  · rfl
  · rfl
theorem Zs.at (h : Zs S H y s) {i : Nat} (hi : i < s.length) : ∃ a o, (∀ (R : Type) (k : HK R) (G : Heap), ixaC 1 y (.i .i64 (i : Int)) k G = k (.p a o) G) ∧ S a ∧ a.toN < H.next.toN ∧ ∀ (H' : Heap), H'.get a = H.get a → ∀ (R : Type) (k : HK R), ldC false 1 (.p a o) k H' = k (.i .i64 s[i]) H' := by
  obtain ⟨rfl, rfl⟩ | ⟨a, o, c, ro, fz, e, size, t, rfl, h2, h3, h4, h5, h6⟩ := h
  · exact absurd hi (Nat.not_lt_zero _)
  · refine ⟨a, o + i * 1, fun R k G => ixa_sl (by omega) (by omega), h2, h3, fun H' hg R k => ?_⟩
    rw [ld_one (by rw [hg, h4]) (by omega), Nat.mul_one, h6 i hi]
end
/-- How much of a write is picked. -/
def pkk (zs : List Int) (i n : Nat) : Nat := if h : i < zs.length then (zs[i] % ((n : Int) + 1)).toNat else 0
theorem pkk_le {zs : List Int} {i n : Nat} : pkk zs i n ≤ n := by
  unfold pkk; split
  · have h1 := Int.emod_lt_of_pos (zs[i]) (show (0 : Int) < (n : Int) + 1 by omega)
    have h2 := Int.emod_nonneg (zs[i]) (show (n : Int) + 1 ≠ 0 by omega)
    omega
  · omega
theorem mod_twice {z m : Int} (hm : 0 < m) : (z.tmod m + m).tmod m = z % m := by
  have h1 := tmod_lt (a := z) hm
  have h2 := tmod_emod (a := z) hm
  have h3 : (z.tmod m + m).tmod m = (z.tmod m + m) % m := Int.tmod_eq_emod_of_nonneg (by omega)
  rw [h3]
  by_cases h : z.tmod m < 0
  · rw [if_pos h] at h2
    rw [Int.emod_eq_of_lt (by omega) (by omega), h2]
  · rw [if_neg h] at h2
    rw [Int.add_emod_right, Int.emod_eq_of_lt (by omega) (by omega), h2]
/-- A loop, by what a round does; all told by what comes behind. -/
theorem loop_cps {Lp : AC} {ex n c : Nat} {St : Type} (Inv : Nat → Heap → St → Prop) (F : Nat → St → Tr AV → Prop)
    (hend : ∀ H st, Inv n H st → ∀ fr, F n st fr → ∀ M, c ≤ M → ∀ (R : Type) (k : XK R) (res : Option R), (∀ fr', F n st fr' → k (.exit ex) fr' H = res) → runK tbl M R Lp fr H k = res)
    (hstep : ∀ i H st, i < n → Inv i H st → ∃ H' st', Inv (i + 1) H' st' ∧ ∀ fr, F i st fr → ∀ M, c ≤ M → ∀ (R : Type) (k : XK R) (res : Option R), (∀ fr', F (i + 1) st' fr' → runK tbl M R Lp fr' H' k = res) → runK tbl (M + 1) R Lp fr H k = res) :
    ∀ m i H st, i + m = n → Inv i H st → ∃ H' st', Inv n H' st' ∧ ∀ fr, F i st fr → ∀ M, c + m ≤ M → ∀ (R : Type) (k : XK R) (res : Option R), (∀ fr', F n st' fr' → k (.exit ex) fr' H' = res) → runK tbl M R Lp fr H k = res := by
  intro m
  induction m with
  | zero =>
    intro i H st hi inv
    obtain rfl : i = n := by omega
    exact ⟨H, st, inv, fun fr f M hM R k res hr => hend H st inv fr f M (by omega) R k res hr⟩
  | succ m ih =>
    intro i H st hi inv
    obtain ⟨H1, st1, inv1, e1⟩ := hstep i H st (by omega) inv
    obtain ⟨H2, st2, inv2, e2⟩ := ih (i + 1) H1 st1 (by omega) inv1
    refine ⟨H2, st2, inv2, fun fr f M hM R k res hr => ?_⟩
    obtain ⟨M, rfl⟩ : ∃ m, M = m + 1 := ⟨M - 1, by omega⟩
    exact e1 fr f M (by omega) R k res fun fr' f' => e2 fr' f' M (by omega) R k res hr
theorem inc_i {i : Nat} (h : i < 1000000) : IntKind.i64.wrap ((i : Int) + 1) = ((i + 1 : Nat) : Int) := by rw [show (i : Int) + 1 = ((i + 1 : Nat) : Int) by omega, wrap_n64 (by omega)]
def TS.redo (zs : List Int) : List Wr → Nat → TS → TS
  | [], _, st => st
  | w :: l, i, st => TS.redo zs l (i + 1) (st.lay w.ar w.at_ (w.put.take (pkk zs i w.put.length)))
def F10 (t : Pa) (pv x : AV) (len : Nat) (i : Nat) (fr : Tr AV) : Prop := V fr 1 = pv ∧ V fr 2 = .p t 0 ∧ V fr 5 = x ∧ V fr 28 = x ∧ V fr 29 = .i .i64 (len : Int) ∧ V fr 30 = .i .i64 (i : Int)
section
variable {D : TD} {H H' : Heap} {x : AV} {L : List AV} {st : TS}
/-- Blocks that are not the tape's. -/
def Ap (D : TD) (x : AV) (a : Pa) : Prop := a ≠ D.p ∧ a ≠ D.A ∧ a ≠ D.B ∧ Off x a
theorem KeepT.at (k : KeepT D x H H') {a : Pa} (h : Ap D x a) (ha : a.toN < H.next.toN) : H'.get a = H.get a := k.get a ha h.1 h.2.1 h.2.2.1 h.2.2.2
theorem redo_round (T : Tp D H x L st) {t : Pa} (rt : Row H t 25 [.p D.p 0]) (ht : t.toN < H.next.toN) {pv : AV} {zs : List Int} (hp : Zs (Ap D x) H pv zs) (hm : st.op.length < 1000) (hr : D.room ≤ 100000) {i : Nat} {w : Wr} (hi : st.op[i]? = some w) :
    ∃ H', Tp D H' x L (st.lay w.ar w.at_ (w.put.take (pkk zs i w.put.length))) ∧ KeepT D x H H' ∧ ∀ fr, F10 t pv x st.op.length i fr → ∀ M, 200 ≤ M → ∀ (R : Type) (k : XK R) (res : Option R), (∀ fr', F10 t pv x st.op.length (i + 1) fr' → runK tbl M R Lp10 fr' H' k = res) → runK tbl (M + 1) R Lp10 fr H k = res := by
  obtain ⟨y, z, hc, hy, hz, ha, hs, hw⟩ := T.wr i w hi
  have hil : i < st.op.length := (List.getElem?_eq_some_iff.mp hi).1
  obtain ⟨H2, g2, n2, r2, est⟩ := wr_box (l := [.i .i64 (w.ar : Int), .i .i64 (w.at_ : Int), y, z]) rfl (wr_one hy hz)
  obtain ⟨y', hy', esl⟩ := (hy.grow g2).to (pkk_le (zs := zs) (i := i))
  have hpl := pkk_le (zs := zs) (i := i) (n := w.put.length)
  obtain ⟨H3, T3, g3, n3, e17⟩ := s17 (T.grow g2) ha (at_ := w.at_) (by rw [List.length_take]; omega) hy'
  refine ⟨H3, T3, (kt_g g2).trans (kt_a g3), ?_⟩
  rintro fr ⟨f1, f2, f5, f28, f29, f30⟩ M hM R k res hk
  obtain ⟨m, rfl⟩ : ∃ m, M = m + 200 := ⟨M - 200, by omega⟩
  have lt := (rt.grow g2 ht).l 0 (v := .p D.p 0) rfl
  have l0 := r2.l 0 (v := .i .i64 (w.ar : Int)) rfl
  have l1 := r2.l 1 (v := .i .i64 (w.at_ : Int)) rfl
  have l2 := r2.l 2 (v := y) rfl
  have hix : ∃ O, (∀ (R : Type) (k : HK R) (G : Heap), ixaC 4 x (.i .i64 (i : Int)) k G = k (.p O (i * 4)) G) ∧ ∀ (R : Type) (k : HK R), ldC true 4 (.p O (i * 4)) k H = k (.ag [.i .i64 (w.ar : Int), .i .i64 (w.at_ : Int), y, z]) H := by
    obtain ⟨_, h1, _⟩ | ⟨O, h1, h2, h3, h4, h5⟩ := T.ro
    · rw [h1] at hil; exact absurd hil (Nat.not_lt_zero _)
    · refine ⟨O, fun R k G => ?_, fun R k => ?_⟩
      · rw [h1, ixa_sl (by omega) (by omega), Nat.zero_add]; rfl
      · rw [h4.lds (by omega), hc]
  obtain ⟨O, eix, eld⟩ := hix
  have hlt : (i : Int) < (st.op.length : Int) := by omega
  have hyy := hy.cell.2.2
  have hlen : IntKind.i64.wrap ((w.put.length : Int) + 1) = (w.put.length : Int) + 1 := by rw [inc_i (by omega)]; omega
  have hinc := inc_i (i := i) (by omega)
  have hF : ∀ fr', F10 t pv x st.op.length (i + 1) fr' → runK tbl (m + 200) R Lp10 fr' H3 k = res := hk
  by_cases hpi : i < zs.length
  · have hpi' : (i : Int) < (zs.length : Int) := by omega
    obtain ⟨pa, po, epx, _, hpa, epl⟩ := hp.at hpi
    have epl2 := epl H2 (g2.get pa hpa)
    have hne : ((w.put.length : Int) + 1) ≠ 0 := by omega
    have ht1 := tmod_lt (a := zs[i]) (show (0 : Int) < (w.put.length : Int) + 1 by omega)
    have hwr : IntKind.i64.wrap (zs[i].tmod ((w.put.length : Int) + 1) + ((w.put.length : Int) + 1)) = zs[i].tmod ((w.put.length : Int) + 1) + ((w.put.length : Int) + 1) := wrap_i64 (by omega) (by omega)
    have hpk : zs[i] % ((w.put.length : Int) + 1) = ((pkk zs i w.put.length : Nat) : Int) := by
      unfold pkk
      rw [dif_pos hpi]
      have h2 := Int.emod_nonneg (zs[i]) hne
      omega
    unfold Lp10
    rw [run_loop]
    simp only [EX, reduceIte, Nat.reduceEqDiff, Nat.reduceAdd, Int.reduceEq, Int.reduceLT, Int.reduceLE, reduceCtorEq, Nat.reduceLeDiff, Nat.reduceSub, Nat.reduceLT, f1, f2, f5, f28, f29, f30, hlt, eix, eld, est, lt, l0, l1, l2, hy.len, hp.len, i_add, hlen, hpi', epx, epl2, i_rem hne, hwr, mod_twice (show (0 : Int) < (w.put.length : Int) + 1 by omega), hpk, esl, hyy, e17 _ (Nat.le_add_left 20 _), hinc]
    refine hF _ ⟨?_, ?_, ?_, ?_, ?_, ?_⟩
    all_goals simp only [V_S, Nat.reduceEqDiff, reduceIte]
    all_goals assumption
  · have hpi' : ¬ (i : Int) < (zs.length : Int) := by omega
    have hpk : ((pkk zs i w.put.length : Nat) : Int) = 0 := by
      unfold pkk
      rw [dif_neg hpi]; rfl
    rw [hpk] at esl
    unfold Lp10
    rw [run_loop]
    simp only [EX, reduceIte, Nat.reduceEqDiff, Nat.reduceAdd, Int.reduceEq, Int.reduceLT, Int.reduceLE, reduceCtorEq, Nat.reduceLeDiff, Nat.reduceSub, Nat.reduceLT, f1, f2, f5, f28, f29, f30, hlt, eix, eld, est, lt, l0, l1, l2, hy.len, hp.len, i_add, hlen, hpi', esl, hyy, e17 _ (Nat.le_add_left 20 _), hinc]
    refine hF _ ⟨?_, ?_, ?_, ?_, ?_, ?_⟩
    all_goals simp only [V_S, Nat.reduceEqDiff, reduceIte]
    all_goals assumption
theorem drop_next {α : Type} {l : List α} {i : Nat} {w : α} (h : l[i]? = some w) : l.drop i = w :: l.drop (i + 1) := by
  obtain ⟨hi, e⟩ := List.getElem?_eq_some_iff.mp h
  rw [List.drop_eq_getElem_cons hi, e]
theorem redo_loop (T : Tp D H x L st) {t : Pa} (rt : Row H t 25 [.p D.p 0]) (ht : t.toN < H.next.toN) (htB : D.B.toN < t.toN) (hto : Off x t) {pv : AV} {zs : List Int} (hp : Zs (Ap D x) H pv zs) (hm : st.op.length < 1000) (hr : D.room ≤ 100000) :
    ∃ H', Tp D H' x L (TS.redo zs st.op 0 st) ∧ KeepT D x H H' ∧ ∀ fr, F10 t pv x st.op.length 0 fr → ∀ M, 200 + st.op.length ≤ M → ∀ (R : Type) (k : XK R) (res : Option R), (∀ fr', F10 t pv x st.op.length st.op.length fr' → k (.exit 2) fr' H' = res) → runK tbl M R Lp10 fr H k = res := by
  obtain ⟨ops, hops⟩ : ∃ ops, ops = st.op := ⟨_, rfl⟩
  obtain ⟨H', st', ⟨i1, i2, i3, i4, i5, i6, i7⟩, e⟩ := loop_cps (Lp := Lp10) (ex := 2) (n := ops.length) (c := 200)
    (fun i G s => Tp D G x L s ∧ s.op = ops ∧ Row G t 25 [.p D.p 0] ∧ t.toN < G.next.toN ∧ Zs (Ap D x) G pv zs ∧ KeepT D x H G ∧ TS.redo zs (ops.drop i) i s = TS.redo zs ops 0 st)
    (fun i _ fr => F10 t pv x ops.length i fr)
    (fun G s _ fr ⟨f1, f2, f5, f28, f29, f30⟩ M hM R k res hk => by
      obtain ⟨m, rfl⟩ : ∃ m, M = m + 200 := ⟨M - 200, by omega⟩
      unfold Lp10
      rw [run_loop]
      simp only [EX, reduceIte, Nat.reduceEqDiff, Nat.reduceAdd, Int.reduceEq, Int.reduceLT, Int.reduceLE, reduceCtorEq, Nat.reduceLeDiff, Nat.reduceSub, Nat.reduceLT, f29, f30, Int.lt_irrefl]
      refine hk _ ⟨?_, ?_, ?_, ?_, ?_, ?_⟩
      all_goals simp only [V_S, Nat.reduceEqDiff, reduceIte]
      all_goals assumption)
    (fun i G s hi ⟨j1, j2, j3, j4, j5, j6, j7⟩ => by
      obtain ⟨w, hw⟩ : ∃ w, ops[i]? = some w := ⟨ops[i], List.getElem?_eq_getElem hi⟩
      obtain ⟨G', T', k', e'⟩ := redo_round j1 j3 j4 j5 (by rw [j2, hops]; exact hm) hr (i := i) (w := w) (by rw [j2]; exact hw)
      rw [j2] at e'
      refine ⟨G', _, ⟨T', by rw [lay_op.1, j2], k'.row j3 j4 htB hto j1, Nat.lt_of_lt_of_le j4 k'.next, j5.mv (fun a ha hb => ⟨ha, k'.at ha hb⟩) k'.next, j6.trans k', ?_⟩, e'⟩
      rw [← j7, drop_next hw]; rfl)
    ops.length 0 H st (Nat.zero_add _) ⟨T, hops.symm, rt, ht, hp, KeepT.refl, rfl⟩
  rw [List.drop_length] at i7
  subst hops
  have i7 : st' = TS.redo zs st.op 0 st := i7
  subst i7
  exact ⟨H', i1, i6, e⟩
end
end Go.Proofs.Ytnbjicanbihgnaa

/- Crash, whole. -/
namespace Go.Proofs.Ytnbjicanbihgnaa
open Go Go.Vai
set_option maxRecDepth 100000
set_option maxHeartbeats 3200000
set_option linter.unusedSimpArgs false
theorem B10_eq : B10 = (.seq (.ops [O 2 (.box 25 (T 0)), O 4 (.mv (K (.i .i64 0)))]) (.seq (.ops [O 12 (.ld false 1 (T 2)), O 13 (.nilck (T 12)), O 14 (.fa 2 (T 13)), O 15 (.ld false 1 (T 14)), O 5 (.mv (T 15))]) (.seq (.seq (.ops [O 16 (.mv (T 5)), O 17 (.call (toPa 18) [(T 16)])]) (.block 0 (.back (T 17) (toPa 18) (toPa 19) AS10 BD10))) (.seq (.seq (.ops [O 28 (.mv (T 5)), O 29 (.len false (T 28)), O 30 (.mv (K (.i .i64 0)))]) (.block 2 Lp10)) (.seq (.draw 0 [(O 64 (.ld false 1 (T 2)), ⟨1, 0⟩), (O 67 (.nilck (T 64)), ⟨0, 0⟩), (O 68 (.fa 2 (T 67)), ⟨0, 0⟩), (O_ (.st 1 (T 68) (K .ns)), ⟨3, 0⟩), (O 65 (.ld false 1 (T 2)), ⟨1, 0⟩), (O 69 (.nilck (T 65)), ⟨0, 1⟩), (O 70 (.fa 4 (T 69)), ⟨0, 1⟩), (O_ (.st 1 (T 70) (K (.b false))), ⟨3, 1⟩), (O 66 (.ld false 1 (T 2)), ⟨1, 0⟩), (O 71 (.nilck (T 66)), ⟨0, 2⟩), (O 72 (.fa 3 (T 71)), ⟨0, 2⟩), (O_ (.st 1 (T 72) (K (.i .i64 0))), ⟨3, 2⟩)]) (.seq (.ops [O 73 (.mv (T 5)), O 74 (.len false (T 73)), O 4 (.mv (T 74))]) .ret)))))) := rfl
noncomputable def backC {R : Type} (v : AV) (m : Nat) (as_ body : AC) (fr : Tr AV) (k : XK R) (H : Heap) : Option R := vF v none fun f first caps => fnF f fun f => getK (AF.mk .bad []) (toPa f) tbl fun af =>
    AF.casesOn af (fun _ _ => none) (fun _ => none) fun z agg => List.casesOn first (List.casesOn caps none fun c cs => List.casesOn cs (vP c none fun c o => backAt (runK tbl m) z agg c o (toPa 18) (toPa 19) as_ body fr k H) (fun _ _ => none)) (fun _ _ => none)
theorem run_backC {R : Type} {fr : Tr AV} {H : Heap} {m : Nat} {g : Opd} {as_ body : AC} {k : XK R} : runK tbl (m + 1) R (.back g (toPa 18) (toPa 19) as_ body) fr H k = backC (ev fr g) m as_ body fr k H := by
  show evK fr g (fun v => backC v m as_ body fr k H) = _
  rw [evK_eq]
theorem backC_fn {R : Type} {fr : Tr AV} {H : Heap} {m : Nat} {as_ body : AC} {k : XK R} {c : Pa} : backC (.fn (.func 19) [] [.p c 0]) m as_ body fr k H = backAt (runK tbl m) 4 true c 0 (toPa 18) (toPa 19) as_ body fr k H := by
  refine Eq.trans (b := getK (AF.mk .bad []) (toPa 19) tbl fun af => AF.casesOn af (fun _ _ => none) (fun _ => none) fun z agg => backAt (runK tbl m) z agg c 0 (toPa 18) (toPa 19) as_ body fr k H) (id rfl) ?_
  rw [getK_eq, show Tr.get (AF.mk .bad []) tbl (toPa 19) = .iter 4 true from L19]
def TS.crash (zs : List Int) (st : TS) : TS := { TS.redo zs st.op 0 (TS.undo st.op st) with op := [] }
theorem undo_op {l : List Wr} {st : TS} : (TS.undo l st).op = st.op ∧ (TS.undo l st).n = st.n := by
  induction l with
  | nil => exact ⟨rfl, rfl⟩
  | cons w l ih => exact ⟨lay_op.1.trans ih.1, lay_op.2.trans ih.2⟩
section
variable {D : TD} {H H' : Heap} {x : AV} {L : List AV} {st : TS}
theorem Tp.xlen (T : Tp D H x L st) : ∀ (R : Type) (k : HK R) (G : Heap), lenC false x k G = k (.i .i64 (st.op.length : Int)) G := by
  intro R k G
  obtain ⟨rfl, h, _⟩ | ⟨O, rfl, _⟩ := T.ro
  · rw [h]; rfl
  · rfl
theorem s10 (T : Tp D H x L st) (hr : D.room ≤ 100000) (hm : st.op.length < 1000) {pv : AV} {zs : List Int} (hp : Zs (Ap D x) H pv zs) :
    ∃ H', Tp D H' .ns [] (st.crash zs) ∧ KeepT D x H H' ∧ ∀ (M : Nat), 2000 ≤ M → ∀ (R : Type) (k : HK R), callK tbl (runK tbl M) R (toPa 10) [.p D.p 0, pv] H k = k (.i .i64 (st.op.length : Int)) H' := by
  have o2 := T.o2
  have o3 := T.o3
  have o4 := T.o4
  have g1 := Grow.alloc H (.cells false 0 25 1 (setCells [.p D.p 0] 0 .leaf))
  have n1 := next_alloc H (.cells false 0 25 1 (setCells [.p D.p 0] 0 .leaf))
  have r1 : Row (H.alloc (.cells false 0 25 1 (setCells [.p D.p 0] 0 .leaf))) H.next 25 [.p D.p 0] := Row.new H 25 [.p D.p 0]
  obtain ⟨H1, e1⟩ : ∃ H1, H1 = H.alloc (.cells false 0 25 1 (setCells [.p D.p 0] 0 .leaf)) := ⟨_, rfl⟩
  rw [← e1] at g1 n1 r1
  have g2 := Grow.alloc H1 (.cells false 0 44 1 (setCells [x] 0 .leaf))
  have n2 := next_alloc H1 (.cells false 0 44 1 (setCells [x] 0 .leaf))
  have r2 : Row (H1.alloc (.cells false 0 44 1 (setCells [x] 0 .leaf))) H1.next 44 [x] := Row.new H1 44 [x]
  have e18 := s18 T.xcell.1 H1
  obtain ⟨H2, e2⟩ : ∃ H2, H2 = H1.alloc (.cells false 0 44 1 (setCells [x] 0 .leaf)) := ⟨_, rfl⟩
  rw [← e2] at g2 n2 r2 e18
  have T1 := T.grow g1
  have T2 := T1.grow g2
  have ht : Off x H.next := T.xoff (.inr (Nat.le_refl _))
  have hc : Off x H1.next := T1.xoff (.inr (Nat.le_refl _))
  have rt2 := r1.grow g2 (by omega)
  obtain ⟨H3, T3, k3, eback⟩ : ∃ H3, Tp D H3 x L (TS.undo st.op st) ∧ KeepT D x H2 H3 ∧ ∀ (M : Nat), 100 ≤ M → ∀ (R : Type) (fr : Tr AV) (k : XK R), V fr 2 = .p H.next 0 → backAt (runK tbl M) 4 true H1.next 0 (toPa 18) (toPa 19) AS10 BD10 fr k H2 = k .norm fr H3 := by
    obtain ⟨hx, h0, _⟩ | ⟨O, hx, _⟩ := T.ro
    · refine ⟨H2, by rw [h0]; exact T2, KeepT.refl, fun M hM R fr k hf => ?_⟩
      rw [hx] at r2
      exact back_none r2
    · obtain ⟨H3, T3, k3, e⟩ := undo_loop (t := H.next) (c := H1.next) hx ⟨by omega, ht, by omega, hc⟩ rfl st.op.length (Nat.le_refl _) H2 st rfl T2 rt2 r2 (by omega) (by omega)
      rw [List.take_length] at T3
      refine ⟨H3, T3, k3, fun M hM R fr k hf => ?_⟩
      rw [hx] at r2
      rw [back_some r2 (by omega)]
      exact e M hM R fr k hf
  have uo := undo_op (l := st.op) (st := st)
  have k03 : KeepT D x H H3 := ((kt_g g1).trans (kt_g g2)).trans k3
  have rt3 := k3.row rt2 (by omega) (by omega) ht T2
  have h3n := k3.next
  obtain ⟨H4, T4, k4, eloop⟩ := redo_loop T3 rt3 (by omega) (by omega) ht (hp.mv (fun a ha hb => ⟨ha, k03.at ha hb⟩) k03.next) (by rw [uo.1]; exact hm) hr
  rw [uo.1] at T4 eloop
  have rt4 := k4.row rt3 (by omega) (by omega) ht T3
  have h4n := k4.next
  have htp : H.next ≠ D.p := by intro q; rw [← q] at o2; omega
  obtain ⟨H5, r5, b5, n5, st5⟩ := T4.rp.st_one (off := 2) (v := .ns) (by omega) (show 2 < 6 by decide) one_ns
  have n5' : H5.next.toN = H4.next.toN := by rw [n5]
  obtain ⟨H6, r6, b6, n6, st6⟩ := r5.st_one (off := 4) (v := .b false) (by omega) (show 4 < 6 by decide) one_b
  have n6' : H6.next.toN = H5.next.toN := by rw [n6]
  obtain ⟨H7, r7, b7, n7, st7⟩ := r6.st_one (off := 3) (v := .i .i64 0) (by omega) (show 3 < 6 by decide) one_i
  have n7' : H7.next.toN = H6.next.toN := by rw [n7]
  have b57 : GrowBut D.p H4 H7 := (b5.trans b6).trans b7
  have ne : ∀ a : Pa, D.p.toN < a.toN → a ≠ D.p := fun a h q => by subst q; omega
  have T7 : Tp D H7 .ns [] (st.crash zs) :=
    ⟨T.o1, o2, o3, by omega, r7, T4.ra.but b57 (by omega) (ne _ o2), T4.rb.but b57 (by omega) (ne _ (by omega)), T4.la, T4.lb, Or.inl ⟨rfl, rfl, rfl⟩, fun j w hj => by cases hj⟩
  refine ⟨H7, T7, (k03.trans k4).trans (kt_p b57), fun M hM R k => ?_⟩
  obtain ⟨m, rfl⟩ : ∃ m, M = m + 2000 := ⟨M - 2000, by omega⟩
  have lt1 := r1.l 0 (v := .p D.p 0) rfl
  have op1 := T1.rp.l 2 (v := x) rfl
  rw [call_eq L10, B10_eq]
  subst e1
  simp only [EX, reduceIte, Nat.reduceEqDiff, Nat.reduceAdd, Int.reduceEq, Int.reduceLT, Int.reduceLE, reduceCtorEq, Nat.reduceLeDiff, Nat.reduceSub, Nat.reduceLT, box_p, lt1, op1, e18 _ (Nat.le_add_left 20 _), run_backC, backC_fn, eback _ (Nat.le_add_left 100 _), T.xlen]
  refine eloop _ ⟨?_, ?_, ?_, ?_, ?_, ?_⟩ _ (by omega) _ _ _ ?_
  all_goals try simp only [EX, reduceIte, Nat.reduceEqDiff, Nat.reduceAdd, Int.reduceEq, Int.reduceLT, Int.reduceLE, reduceCtorEq, Nat.reduceLeDiff, Nat.reduceSub, Nat.reduceLT]
  all_goals try rfl
  rintro fr' ⟨f1, f2, f5, f28, f29, f30⟩
  have lt4 := rt4.l 0 (v := .p D.p 0) rfl
  have rt5 := rt4.but b5 (by omega) htp
  have lt5 := rt5.l 0 (v := .p D.p 0) rfl
  have rt6 := rt5.but b6 (by omega) htp
  have lt6 := rt6.l 0 (v := .p D.p 0) rfl
  simp only [EX, reduceIte, Nat.reduceEqDiff, Nat.reduceAdd, Int.reduceEq, Int.reduceLT, Int.reduceLE, reduceCtorEq, Nat.reduceLeDiff, Nat.reduceSub, Nat.reduceLT, f2, f5, lt4, lt5, lt6, st5, st6, st7, T.xlen]
end
end Go.Proofs.Ytnbjicanbihgnaa
