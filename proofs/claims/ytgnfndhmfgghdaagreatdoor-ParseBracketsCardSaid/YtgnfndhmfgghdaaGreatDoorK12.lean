/- A verified interpreter of the model's code, and what the functions that read expressions tell by it: part 12 (Q51, Q52). No condition but those that each statement bears. -/
import Derived.Test.YtgnfndhmfgghdaaGreatDoorK11
import Derived.Test.YtgnfndhmfgghdaaGreatDoorCards
import Derived.JoinedCond
set_option linter.unusedVariables false
set_option linter.unusedSimpArgs false
set_option linter.unusedSectionVars false
set_option linter.constructorNameAsVariable false
set_option linter.unnecessarySimpa false
/- The facts of the given row of ParseBrackets,one by one. -/
namespace Go.Proofs.YtgnfndhmfgghdaaGreatDoor.parseBrackets
open Go Go.Vai
theorem k1 : (Rows.parseBracketsRow.wf (OpenSpec.ofChange (OpenSpec.ofChange Rows.parseBracketsSpec).bare)) = true:=by kernel_rfl
theorem k2 : (laidOutB Tryz.pinned.checked.prog) = true:=by kernel_rfl
theorem k3 : (mapsRowed Tryz.pinned.checked.prog) = true:=by kernel_rfl
theorem k4 : (Tryz.f6.params.all (Tryz.pinned.checked.prog.readableRec ·)) = true:=by kernel_rfl
theorem k5 : (namedTie Tryz.pinned.checked.prog Rows.parseBracketsRow.named (OpenSpec.ofChange Rows.parseBracketsSpec).bare.vars) = true:=by kernel_rfl
theorem k6 : ((Rows.parseBracketsRow.stops == [])) = true:=by kernel_rfl
theorem k7 : ((Tryz.pinned.checked.prog.stops == [])) = true:=by kernel_rfl
theorem k8 : ((Rows.parseBracketsRow.knobs == [])) = true:=by kernel_rfl
theorem k9 : ((Tryz.pinned.checked.prog.stopKnobs == [])) = true:=by kernel_rfl
theorem k10 : ((Rows.parseBracketsRow.inPlace == Tryz.pinned.checked.prog.inPlace 6)) = true:=by kernel_rfl
theorem k11 : ((Rows.parseBracketsRow.unfollowed == Tryz.pinned.checked.prog.unfollowed 6)) = true:=by kernel_rfl
theorem k12 : ((Rows.parseBracketsRow.recurses == Tryz.pinned.checked.prog.recurses 6)) = true:=by kernel_rfl
theorem k13 : ((Rows.parseBracketsRow.named == Tryz.pinned.checked.prog.varsNamed 6)) = true:=by kernel_rfl
theorem k14 : ((Rows.parseBracketsRow.maps == (Tryz.f6.params.toList ++ (OpenSpec.ofChange Rows.parseBracketsSpec).bare.plain.varTypes Tryz.pinned.checked.prog).any (Tryz.pinned.checked.prog.mapsRec ·))) = true:=by kernel_rfl
theorem k15 : ((Rows.parseBracketsRow.ifaces == (Tryz.f6.params.toList ++ (OpenSpec.ofChange Rows.parseBracketsSpec).bare.plain.varTypes Tryz.pinned.checked.prog).any (Tryz.pinned.checked.prog.ifacesRec ·))) = true:=by kernel_rfl
theorem k16 : ((Rows.parseBracketsRow.mapsOut == Tryz.pinned.checked.prog.mapsAmong Tryz.f6.resultTypes.toList)) = true:=by kernel_rfl
theorem k17 : ((Rows.parseBracketsRow.loops == (Tryz.f6.params.toList ++ (OpenSpec.ofChange Rows.parseBracketsSpec).bare.plain.varTypes Tryz.pinned.checked.prog).any (Tryz.pinned.checked.prog.loopsFrom ·))) = true:=by kernel_rfl
theorem k18 : ((Rows.parseBracketsRow.wideKeys == (Tryz.f6.params.toList ++ (OpenSpec.ofChange Rows.parseBracketsSpec).bare.plain.varTypes Tryz.pinned.checked.prog ++ Tryz.f6.resultTypes.toList).any (Tryz.pinned.checked.prog.wideKeysFrom ·))) = true:=by kernel_rfl
theorem k19 : ((OpenSpec.ofChange Rows.parseBracketsSpec).bare.vars.all (Tryz.pinned.checked.prog.varReadable ·)) = true:=by kernel_rfl
theorem k20 : (Tryz.f6.resultTypes.all (fun t=>Tryz.pinned.checked.prog.readableRec t && decide (t < Tryz.pinned.checked.prog.types.size))) = true:=by kernel_rfl
theorem k21 : ((Rows.parseBracketsRow.ifacesOut == Tryz.f6.resultTypes.toList.any (Tryz.pinned.checked.prog.ifacesRec ·))) = true:=by kernel_rfl
theorem k22 : ((Rows.parseBracketsRow.loopsOut == Tryz.f6.resultTypes.toList.any (Tryz.pinned.checked.prog.loopsFrom ·))) = true:=by kernel_rfl
theorem k23 : ((Rows.parseBracketsRow.plainKeys == Tryz.pinned.checked.prog.plainKeys)) = true:=by kernel_rfl
theorem k24 : (Rows.parseBracketsRow.shortTexts.isNone) = true:=by kernel_rfl
theorem k25 : (Tryz.pinned.checked.prog.stopsHeard) = true:=by kernel_rfl
theorem k26 : (Tryz.pinned.checked.prog.mayEnter) = true:=by kernel_rfl
theorem k27 : ((Rows.parseBracketsRow.lifted == Tryz.pinned.checked.prog.liftsFinal)) = true:=by kernel_rfl
theorem k28 : ((Tryz.pinned.checked.prog.make == some Rows.parseBracketsRow.make)) = true:=by kernel_rfl
theorem k29 : ((Rows.parseBracketsRow.kinds == (if Rows.parseBracketsRow.domain.isEmpty then [] else Tryz.f6.params.toList.map fun t=>match Tryz.pinned.checked.prog.underlying t with | some (.int k)=>some k | _=>none))) = true:=by kernel_rfl
theorem k30 : ((Rows.parseBracketsRow.pinned == Rows.parseBracketsRow.pinnedBy)) = true:=by kernel_rfl
theorem k31 : ((Rows.parseBracketsRow.veiled == (Tryz.f6.params.toList ++ (OpenSpec.ofChange Rows.parseBracketsSpec).bare.plain.varTypes Tryz.pinned.checked.prog ++ Tryz.f6.resultTypes.toList).any (Tryz.pinned.checked.prog.veiledRec ·))) = true:=by kernel_rfl
theorem k32 : (Rows.parseBracketsRow.veiledFits Tryz.pinned.checked.prog Tryz.f6.params.toList (Tryz.f6.params.toList ++ (OpenSpec.ofChange Rows.parseBracketsSpec).bare.plain.varTypes Tryz.pinned.checked.prog ++ Tryz.f6.resultTypes.toList)) = true:=by kernel_rfl
end Go.Proofs.YtgnfndhmfgghdaaGreatDoor.parseBrackets

/- The facts of the given row of ParseBrackets,together. -/
namespace Go.Proofs.YtgnfndhmfgghdaaGreatDoor.parseBrackets
open Go Go.Vai
set_option maxRecDepth 1000000
theorem facts : joinedFacts Tryz.pinned.checked.prog 6 Tryz.f6 (OpenSpec.ofChange Rows.parseBracketsSpec).bare Rows.parseBracketsRow = true:=by
 unfold joinedFacts
 rw [k1,k2,k3,k4,k5,k6,k7,k8,k9,k10,k11,k12,k13,k14,k15,k16,k17,k18,k19,k20,k21,k22,k23,k24,k25,k26,k27,k28,k30,k31,k32]
 kernel_rfl
end Go.Proofs.YtgnfndhmfgghdaaGreatDoor.parseBrackets
