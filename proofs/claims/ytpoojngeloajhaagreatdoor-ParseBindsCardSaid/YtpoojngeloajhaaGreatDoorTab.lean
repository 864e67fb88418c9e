/- The functions that the law reaches, each compiled for the abstract run (a table), and that each entry is the function's own; what is known of the package-level variables. No condition. -/
import Derived.Test.YtpoojngeloajhaaGreatDoorV34
import Derived.Test.YtpoojngeloajhaaGreatDoorRows
namespace Go.Proofs.YtpoojngeloajhaaGreatDoor
open Go Go.Vai
noncomputable def c3 : AF := (compF Tryz.prog Tryz.f3).getD dfl
noncomputable def c4 : AF := (compF Tryz.prog Tryz.f4).getD dfl
noncomputable def c5 : AF := (compF Tryz.prog Tryz.f5).getD dfl
noncomputable def c6 : AF := (compF Tryz.prog Tryz.f6).getD dfl
noncomputable def c7 : AF := (compF Tryz.prog Tryz.f7).getD dfl
noncomputable def c8 : AF := (compF Tryz.prog Tryz.f8).getD dfl
noncomputable def c9 : AF := (compF Tryz.prog Tryz.f9).getD dfl
noncomputable def c10 : AF := (compF Tryz.prog Tryz.f10).getD dfl
noncomputable def c11 : AF := (compF Tryz.prog Tryz.f11).getD dfl
noncomputable def c12 : AF := (compF Tryz.prog Tryz.f12).getD dfl
noncomputable def c13 : AF := (compF Tryz.prog Tryz.f13).getD dfl
noncomputable def c14 : AF := (compF Tryz.prog Tryz.f14).getD dfl
noncomputable def c15 : AF := (compF Tryz.prog Tryz.f15).getD dfl
noncomputable def c16 : AF := (compF Tryz.prog Tryz.f16).getD dfl
noncomputable def c17 : AF := (compF Tryz.prog Tryz.f17).getD dfl
noncomputable def c18 : AF := (compF Tryz.prog Tryz.f18).getD dfl
noncomputable def c19 : AF := (compF Tryz.prog Tryz.f19).getD dfl
noncomputable def c20 : AF := (compF Tryz.prog Tryz.f20).getD dfl
noncomputable def c21 : AF := (compF Tryz.prog Tryz.f21).getD dfl
noncomputable def c22 : AF := (compF Tryz.prog Tryz.f22).getD dfl
noncomputable def c23 : AF := (compF Tryz.prog Tryz.f23).getD dfl
noncomputable def c24 : AF := (compF Tryz.prog Tryz.f24).getD dfl
noncomputable def c25 : AF := (compF Tryz.prog Tryz.f25).getD dfl
noncomputable def c26 : AF := (compF Tryz.prog Tryz.f26).getD dfl
noncomputable def c27 : AF := (compF Tryz.prog Tryz.f27).getD dfl
noncomputable def c28 : AF := (compF Tryz.prog Tryz.f28).getD dfl
noncomputable def c29 : AF := (compF Tryz.prog Tryz.f29).getD dfl
noncomputable def c30 : AF := (compF Tryz.prog Tryz.f30).getD dfl
noncomputable def c31 : AF := (compF Tryz.prog Tryz.f31).getD dfl
noncomputable def c32 : AF := (compF Tryz.prog Tryz.f32).getD dfl
noncomputable def c33 : AF := (compF Tryz.prog Tryz.f33).getD dfl
noncomputable def c34 : AF := (compF Tryz.prog Tryz.f34).getD dfl
noncomputable def c35 : AF := (compF Tryz.prog Tryz.f35).getD dfl
noncomputable def c36 : AF := (compF Tryz.prog Tryz.f36).getD dfl
noncomputable def c37 : AF := (compF Tryz.prog Tryz.f37).getD dfl
noncomputable def c38 : AF := (compF Tryz.prog Tryz.f38).getD dfl
noncomputable def c39 : AF := (compF Tryz.prog Tryz.f39).getD dfl
noncomputable def c40 : AF := (compF Tryz.prog Tryz.f40).getD dfl
noncomputable def c41 : AF := (compF Tryz.prog Tryz.f41).getD dfl
noncomputable def c42 : AF := (compF Tryz.prog Tryz.f42).getD dfl
noncomputable def c43 : AF := (compF Tryz.prog Tryz.f43).getD dfl
noncomputable def c44 : AF := (compF Tryz.prog Tryz.f44).getD dfl
noncomputable def c45 : AF := (compF Tryz.prog Tryz.f45).getD dfl
noncomputable def c46 : AF := (compF Tryz.prog Tryz.f46).getD dfl
noncomputable def c47 : AF := (compF Tryz.prog Tryz.f47).getD dfl
noncomputable def c48 : AF := (compF Tryz.prog Tryz.f48).getD dfl
noncomputable def c49 : AF := (compF Tryz.prog Tryz.f49).getD dfl
noncomputable def c50 : AF := (compF Tryz.prog Tryz.f50).getD dfl
noncomputable def c51 : AF := (compF Tryz.prog Tryz.f51).getD dfl
noncomputable def c52 : AF := (compF Tryz.prog Tryz.f52).getD dfl
noncomputable def c53 : AF := (compF Tryz.prog Tryz.f53).getD dfl
noncomputable def c54 : AF := (compF Tryz.prog Tryz.f54).getD dfl
noncomputable def c55 : AF := (compF Tryz.prog Tryz.f55).getD dfl
noncomputable def c56 : AF := (compF Tryz.prog Tryz.f56).getD dfl
noncomputable def c57 : AF := (compF Tryz.prog Tryz.f57).getD dfl
noncomputable def c58 : AF := (compF Tryz.prog Tryz.f58).getD dfl
noncomputable def c59 : AF := (compF Tryz.prog Tryz.f59).getD dfl
noncomputable def c60 : AF := (compF Tryz.prog Tryz.f60).getD dfl
noncomputable def c61 : AF := (compF Tryz.prog Tryz.f61).getD dfl
noncomputable def c62 : AF := (compF Tryz.prog Tryz.f62).getD dfl
noncomputable def c63 : AF := (compF Tryz.prog Tryz.f63).getD dfl
noncomputable def c64 : AF := (compF Tryz.prog Tryz.f64).getD dfl
noncomputable def c65 : AF := (compF Tryz.prog Tryz.f65).getD dfl
noncomputable def c66 : AF := (compF Tryz.prog Tryz.f66).getD dfl
noncomputable def c68 : AF := (compF Tryz.prog Tryz.f68).getD dfl
noncomputable def c69 : AF := (compF Tryz.prog Tryz.f69).getD dfl
noncomputable def c70 : AF := (compF Tryz.prog Tryz.f70).getD dfl
noncomputable def c71 : AF := (compF Tryz.prog Tryz.f71).getD dfl
noncomputable def c72 : AF := (compF Tryz.prog Tryz.f72).getD dfl
noncomputable def c73 : AF := (compF Tryz.prog Tryz.f73).getD dfl
noncomputable def c74 : AF := (compF Tryz.prog Tryz.f74).getD dfl
noncomputable def c75 : AF := (compF Tryz.prog Tryz.f75).getD dfl
noncomputable def c76 : AF := (compF Tryz.prog Tryz.f76).getD dfl
noncomputable def c77 : AF := (compF Tryz.prog Tryz.f77).getD dfl
noncomputable def c79 : AF := (compF Tryz.prog Tryz.f79).getD dfl
noncomputable def c80 : AF := (compF Tryz.prog Tryz.f80).getD dfl
noncomputable def c81 : AF := (compF Tryz.prog Tryz.f81).getD dfl
noncomputable def c82 : AF := (compF Tryz.prog Tryz.f82).getD dfl
noncomputable def c83 : AF := (compF Tryz.prog Tryz.f83).getD dfl
noncomputable def c84 : AF := (compF Tryz.prog Tryz.f84).getD dfl
noncomputable def c85 : AF := (compF Tryz.prog Tryz.f85).getD dfl
noncomputable def c86 : AF := (compF Tryz.prog Tryz.f86).getD dfl
noncomputable def c87 : AF := (compF Tryz.prog Tryz.f87).getD dfl
noncomputable def c88 : AF := (compF Tryz.prog Tryz.f88).getD dfl
noncomputable def c89 : AF := (compF Tryz.prog Tryz.f89).getD dfl
noncomputable def c90 : AF := (compF Tryz.prog Tryz.f90).getD dfl
noncomputable def c91 : AF := (compF Tryz.prog Tryz.f91).getD dfl
noncomputable def c92 : AF := (compF Tryz.prog Tryz.f92).getD dfl
noncomputable def c93 : AF := (compF Tryz.prog Tryz.f93).getD dfl
noncomputable def c94 : AF := (compF Tryz.prog Tryz.f94).getD dfl
noncomputable def c95 : AF := (compF Tryz.prog Tryz.f95).getD dfl
noncomputable def c96 : AF := (compF Tryz.prog Tryz.f96).getD dfl
noncomputable def c113 : AF := (compF Tryz.prog Tryz.f113).getD dfl
noncomputable def c114 : AF := (compF Tryz.prog Tryz.f114).getD dfl
noncomputable def c116 : AF := (compF Tryz.prog Tryz.f116).getD dfl
noncomputable def c117 : AF := (compF Tryz.prog Tryz.f117).getD dfl
noncomputable def c119 : AF := (compF Tryz.prog Tryz.f119).getD dfl
noncomputable def c120 : AF := (compF Tryz.prog Tryz.f120).getD dfl
noncomputable def c122 : AF := (compF Tryz.prog Tryz.f122).getD dfl
noncomputable def c123 : AF := (compF Tryz.prog Tryz.f123).getD dfl
noncomputable def c124 : AF := (compF Tryz.prog Tryz.f124).getD dfl
noncomputable def c126 : AF := (compF Tryz.prog Tryz.f126).getD dfl
noncomputable def c127 : AF := (compF Tryz.prog Tryz.f127).getD dfl
noncomputable def c128 : AF := (compF Tryz.prog Tryz.f128).getD dfl
noncomputable def c130 : AF := (compF Tryz.prog Tryz.f130).getD dfl
noncomputable def c131 : AF := (compF Tryz.prog Tryz.f131).getD dfl
noncomputable def c132 : AF := (compF Tryz.prog Tryz.f132).getD dfl
noncomputable def c133 : AF := (compF Tryz.prog Tryz.f133).getD dfl
noncomputable def c134 : AF := (compF Tryz.prog Tryz.f134).getD dfl
noncomputable def c135 : AF := (compF Tryz.prog Tryz.f135).getD dfl
noncomputable def c136 : AF := (compF Tryz.prog Tryz.f136).getD dfl
noncomputable def c137 : AF := (compF Tryz.prog Tryz.f137).getD dfl
noncomputable def c138 : AF := (compF Tryz.prog Tryz.f138).getD dfl
noncomputable def c139 : AF := (compF Tryz.prog Tryz.f139).getD dfl
noncomputable def c140 : AF := (compF Tryz.prog Tryz.f140).getD dfl
noncomputable def c141 : AF := (compF Tryz.prog Tryz.f141).getD dfl
noncomputable def tbl : Tr AF := (.node (.node (.node (.node (.node (.node (.node (.node .leaf c127 .leaf) c63 .leaf) c31 (.node .leaf c95 .leaf)) c15 (.node (.node .leaf c79 .leaf) c47 .leaf)) c7 (.node (.node (.node (.node .leaf c135 .leaf) c71 .leaf) c39 .leaf) c23 (.node (.node .leaf c87 .leaf) c55 (.node .leaf c119 .leaf)))) c3 (.node (.node (.node (.node (.node .leaf c131 .leaf) dfl .leaf) c35 .leaf) c19 (.node (.node .leaf c83 .leaf) c51 .leaf)) c11 (.node (.node (.node (.node .leaf c139 .leaf) c75 .leaf) c43 .leaf) c27 (.node (.node .leaf c91 .leaf) c59 (.node .leaf c123 .leaf))))) dfl (.node (.node (.node (.node (.node .leaf c65 .leaf) c33 .leaf) c17 (.node (.node .leaf c81 .leaf) c49 (.node .leaf c113 .leaf))) c9 (.node (.node (.node (.node .leaf c137 .leaf) c73 .leaf) c41 .leaf) c25 (.node (.node .leaf c89 .leaf) c57 .leaf))) c5 (.node (.node (.node (.node (.node .leaf c133 .leaf) c69 .leaf) c37 .leaf) c21 (.node (.node .leaf c85 .leaf) c53 (.node .leaf c117 .leaf))) c13 (.node (.node (.node (.node .leaf c141 .leaf) c77 .leaf) c45 .leaf) c29 (.node (.node .leaf c93 .leaf) c61 .leaf))))) dfl (.node (.node (.node (.node (.node (.node (.node .leaf c128 .leaf) c64 .leaf) c32 (.node .leaf c96 .leaf)) c16 (.node (.node .leaf c80 .leaf) c48 .leaf)) c8 (.node (.node (.node (.node .leaf c136 .leaf) c72 .leaf) c40 .leaf) c24 (.node (.node .leaf c88 .leaf) c56 (.node .leaf c120 .leaf)))) c4 (.node (.node (.node (.node (.node .leaf c132 .leaf) c68 .leaf) c36 .leaf) c20 (.node (.node .leaf c84 .leaf) c52 (.node .leaf c116 .leaf))) c12 (.node (.node (.node (.node .leaf c140 .leaf) c76 .leaf) c44 .leaf) c28 (.node (.node .leaf c92 .leaf) c60 (.node .leaf c124 .leaf))))) dfl (.node (.node (.node (.node (.node (.node .leaf c130 .leaf) c66 .leaf) c34 .leaf) c18 (.node (.node .leaf c82 .leaf) c50 (.node .leaf c114 .leaf))) c10 (.node (.node (.node (.node .leaf c138 .leaf) c74 .leaf) c42 .leaf) c26 (.node (.node .leaf c90 .leaf) c58 (.node .leaf c122 .leaf)))) c6 (.node (.node (.node (.node (.node .leaf c134 .leaf) c70 .leaf) c38 .leaf) c22 (.node (.node .leaf c86 .leaf) c54 .leaf)) c14 (.node (.node .leaf c46 .leaf) c30 (.node (.node .leaf c94 .leaf) c62 (.node .leaf c126 .leaf)))))))
theorem tbl_ok : TblOK Tryz.prog tbl := tblOK_of (show Tr.Forall (EntryOK Tryz.prog) tbl from
  ⟨.inl rfl, ⟨.inl rfl, ⟨entry_ok Tryz.func3, ⟨entry_ok Tryz.func7, ⟨entry_ok Tryz.func15, ⟨entry_ok Tryz.func31, ⟨entry_ok Tryz.func63, ⟨entry_ok Tryz.func127, trivial, trivial⟩, trivial⟩, ⟨entry_ok Tryz.func95, trivial, trivial⟩⟩, ⟨entry_ok Tryz.func47, ⟨entry_ok Tryz.func79, trivial, trivial⟩, trivial⟩⟩, ⟨entry_ok Tryz.func23, ⟨entry_ok Tryz.func39, ⟨entry_ok Tryz.func71, ⟨entry_ok Tryz.func135, trivial, trivial⟩, trivial⟩, trivial⟩, ⟨entry_ok Tryz.func55, ⟨entry_ok Tryz.func87, trivial, trivial⟩, ⟨entry_ok Tryz.func119, trivial, trivial⟩⟩⟩⟩, ⟨entry_ok Tryz.func11, ⟨entry_ok Tryz.func19, ⟨entry_ok Tryz.func35, ⟨.inl rfl, ⟨entry_ok Tryz.func131, trivial, trivial⟩, trivial⟩, trivial⟩, ⟨entry_ok Tryz.func51, ⟨entry_ok Tryz.func83, trivial, trivial⟩, trivial⟩⟩, ⟨entry_ok Tryz.func27, ⟨entry_ok Tryz.func43, ⟨entry_ok Tryz.func75, ⟨entry_ok Tryz.func139, trivial, trivial⟩, trivial⟩, trivial⟩, ⟨entry_ok Tryz.func59, ⟨entry_ok Tryz.func91, trivial, trivial⟩, ⟨entry_ok Tryz.func123, trivial, trivial⟩⟩⟩⟩⟩, ⟨entry_ok Tryz.func5, ⟨entry_ok Tryz.func9, ⟨entry_ok Tryz.func17, ⟨entry_ok Tryz.func33, ⟨entry_ok Tryz.func65, trivial, trivial⟩, trivial⟩, ⟨entry_ok Tryz.func49, ⟨entry_ok Tryz.func81, trivial, trivial⟩, ⟨entry_ok Tryz.func113, trivial, trivial⟩⟩⟩, ⟨entry_ok Tryz.func25, ⟨entry_ok Tryz.func41, ⟨entry_ok Tryz.func73, ⟨entry_ok Tryz.func137, trivial, trivial⟩, trivial⟩, trivial⟩, ⟨entry_ok Tryz.func57, ⟨entry_ok Tryz.func89, trivial, trivial⟩, trivial⟩⟩⟩, ⟨entry_ok Tryz.func13, ⟨entry_ok Tryz.func21, ⟨entry_ok Tryz.func37, ⟨entry_ok Tryz.func69, ⟨entry_ok Tryz.func133, trivial, trivial⟩, trivial⟩, trivial⟩, ⟨entry_ok Tryz.func53, ⟨entry_ok Tryz.func85, trivial, trivial⟩, ⟨entry_ok Tryz.func117, trivial, trivial⟩⟩⟩, ⟨entry_ok Tryz.func29, ⟨entry_ok Tryz.func45, ⟨entry_ok Tryz.func77, ⟨entry_ok Tryz.func141, trivial, trivial⟩, trivial⟩, trivial⟩, ⟨entry_ok Tryz.func61, ⟨entry_ok Tryz.func93, trivial, trivial⟩, trivial⟩⟩⟩⟩⟩, ⟨.inl rfl, ⟨entry_ok Tryz.func4, ⟨entry_ok Tryz.func8, ⟨entry_ok Tryz.func16, ⟨entry_ok Tryz.func32, ⟨entry_ok Tryz.func64, ⟨entry_ok Tryz.func128, trivial, trivial⟩, trivial⟩, ⟨entry_ok Tryz.func96, trivial, trivial⟩⟩, ⟨entry_ok Tryz.func48, ⟨entry_ok Tryz.func80, trivial, trivial⟩, trivial⟩⟩, ⟨entry_ok Tryz.func24, ⟨entry_ok Tryz.func40, ⟨entry_ok Tryz.func72, ⟨entry_ok Tryz.func136, trivial, trivial⟩, trivial⟩, trivial⟩, ⟨entry_ok Tryz.func56, ⟨entry_ok Tryz.func88, trivial, trivial⟩, ⟨entry_ok Tryz.func120, trivial, trivial⟩⟩⟩⟩, ⟨entry_ok Tryz.func12, ⟨entry_ok Tryz.func20, ⟨entry_ok Tryz.func36, ⟨entry_ok Tryz.func68, ⟨entry_ok Tryz.func132, trivial, trivial⟩, trivial⟩, trivial⟩, ⟨entry_ok Tryz.func52, ⟨entry_ok Tryz.func84, trivial, trivial⟩, ⟨entry_ok Tryz.func116, trivial, trivial⟩⟩⟩, ⟨entry_ok Tryz.func28, ⟨entry_ok Tryz.func44, ⟨entry_ok Tryz.func76, ⟨entry_ok Tryz.func140, trivial, trivial⟩, trivial⟩, trivial⟩, ⟨entry_ok Tryz.func60, ⟨entry_ok Tryz.func92, trivial, trivial⟩, ⟨entry_ok Tryz.func124, trivial, trivial⟩⟩⟩⟩⟩, ⟨entry_ok Tryz.func6, ⟨entry_ok Tryz.func10, ⟨entry_ok Tryz.func18, ⟨entry_ok Tryz.func34, ⟨entry_ok Tryz.func66, ⟨entry_ok Tryz.func130, trivial, trivial⟩, trivial⟩, trivial⟩, ⟨entry_ok Tryz.func50, ⟨entry_ok Tryz.func82, trivial, trivial⟩, ⟨entry_ok Tryz.func114, trivial, trivial⟩⟩⟩, ⟨entry_ok Tryz.func26, ⟨entry_ok Tryz.func42, ⟨entry_ok Tryz.func74, ⟨entry_ok Tryz.func138, trivial, trivial⟩, trivial⟩, trivial⟩, ⟨entry_ok Tryz.func58, ⟨entry_ok Tryz.func90, trivial, trivial⟩, ⟨entry_ok Tryz.func122, trivial, trivial⟩⟩⟩⟩, ⟨entry_ok Tryz.func14, ⟨entry_ok Tryz.func22, ⟨entry_ok Tryz.func38, ⟨entry_ok Tryz.func70, ⟨entry_ok Tryz.func134, trivial, trivial⟩, trivial⟩, trivial⟩, ⟨entry_ok Tryz.func54, ⟨entry_ok Tryz.func86, trivial, trivial⟩, trivial⟩⟩, ⟨entry_ok Tryz.func30, ⟨entry_ok Tryz.func46, trivial, trivial⟩, ⟨entry_ok Tryz.func62, ⟨entry_ok Tryz.func94, trivial, trivial⟩, ⟨entry_ok Tryz.func126, trivial, trivial⟩⟩⟩⟩⟩⟩⟩)
def Rows_3 : List Int := [0, 0, 0, 0, 0, 0, 0, 0, 0, 1, 1, 1, 1, 1, 0, 0, 0, 0, 0, 0, 0, 0, 0, 0, 0, 0, 0, 0, 0, 0, 0, 0, 1, 0, 0, 0, 0, 0, 0, 0, 0, 0, 0, 0, 0, 0, 0, 0, 0, 0, 0, 0, 0, 0, 0, 0, 0, 0, 0, 0, 0, 0, 0, 0, 0, 0, 0, 0, 0, 0, 0, 0, 0, 0, 0, 0, 0, 0, 0, 0, 0, 0, 0, 0, 0, 0, 0, 0, 0, 0, 0, 0, 0, 0, 0, 0, 0, 0, 0, 0, 0, 0, 0, 0, 0, 0, 0, 0, 0, 0, 0, 0, 0, 0, 0, 0, 0, 0, 0, 0, 0, 0, 0, 0, 0, 0, 0, 0, 0, 0, 0, 0, 0, 0, 0, 0, 0, 0, 0, 0, 0, 0, 0, 0, 0, 0, 0, 0, 0, 0, 0, 0, 0, 0, 0, 0, 0, 0, 0, 0, 0, 0, 0, 0, 0, 0, 0, 0, 0, 0, 0, 0, 0, 0, 0, 0, 0, 0, 0, 0, 0, 0, 0, 0, 0, 0, 0, 0, 0, 0, 0, 0, 0, 0, 0, 0, 0, 0, 0, 0, 0, 0, 0, 0, 0, 0, 0, 0, 0, 0, 0, 0, 0, 0, 0, 0, 0, 0, 0, 0, 0, 0, 0, 0, 0, 0, 0, 0, 0, 0, 0, 0, 0, 0, 0, 0, 0, 0, 0, 0, 0, 0, 0, 0, 0, 0, 0, 0, 0, 0, 0, 0, 0, 0, 0, 0]
def lk : List (Nat × List AV) := [(3, Rows_3.map fun z => .i .u8 z)]
theorem gsz : Tryz.prog.globals.size = 6 := by kernel_rfl
noncomputable def H0 : Heap := begin_ 6 lk
theorem H0_eq : begin_ Tryz.prog.globals.size lk = H0 := by rw [gsz]; rfl
set_option maxRecDepth 1000000 in
theorem known_run : goK tbl 100000 (toPa 7) [] H0 yesK = some () := by kernel_rfl
theorem lk_lt : ∀ x ∈ lk, x.1 < Tryz.prog.globals.size := by
  rw [gsz]; unfold lk
  intro x hx
  simp only [List.mem_cons, List.not_mem_nil, or_false] at hx
  rcases hx with rfl <;> decide
/-- The chapter's example. -/
theorem known_ok (w : World) (hn : Tryz.prog.globals.size ≤ w.heap.size) (hl : ∀ x ∈ lk, Knows w x) : Calls Tryz.prog 7 #[] w fun e w' => e = .returned (.bool true) ∧ Go.RowKit.Below w.heap.size w w' :=
  walk_of tbl_ok (args := []) hn (fun x hx => ⟨lk_lt x hx, hl x hx⟩) (fun _ => rfl) (by rw [H0_eq]; exact known_run)
end Go.Proofs.YtpoojngeloajhaaGreatDoor
