/- The functions that the law reaches, each compiled for the abstract run (a table), and that each entry is the function's own; what is known of the package-level variables. No condition. -/
import Derived.Test.YtijkdfalbpmjbaaDoorV34
import Derived.Test.YtijkdfalbpmjbaaDoorRows
namespace Go.Proofs.YtijkdfalbpmjbaaDoor
open Go Go.Vai
noncomputable def c3 : AF := (compF Tryd.prog Tryd.f3).getD dfl
noncomputable def c4 : AF := (compF Tryd.prog Tryd.f4).getD dfl
noncomputable def c5 : AF := (compF Tryd.prog Tryd.f5).getD dfl
noncomputable def c6 : AF := (compF Tryd.prog Tryd.f6).getD dfl
noncomputable def c7 : AF := (compF Tryd.prog Tryd.f7).getD dfl
noncomputable def c8 : AF := (compF Tryd.prog Tryd.f8).getD dfl
noncomputable def c9 : AF := (compF Tryd.prog Tryd.f9).getD dfl
noncomputable def c10 : AF := (compF Tryd.prog Tryd.f10).getD dfl
noncomputable def c11 : AF := (compF Tryd.prog Tryd.f11).getD dfl
noncomputable def c12 : AF := (compF Tryd.prog Tryd.f12).getD dfl
noncomputable def c13 : AF := (compF Tryd.prog Tryd.f13).getD dfl
noncomputable def c14 : AF := (compF Tryd.prog Tryd.f14).getD dfl
noncomputable def c15 : AF := (compF Tryd.prog Tryd.f15).getD dfl
noncomputable def c16 : AF := (compF Tryd.prog Tryd.f16).getD dfl
noncomputable def c17 : AF := (compF Tryd.prog Tryd.f17).getD dfl
noncomputable def c18 : AF := (compF Tryd.prog Tryd.f18).getD dfl
noncomputable def c19 : AF := (compF Tryd.prog Tryd.f19).getD dfl
noncomputable def c20 : AF := (compF Tryd.prog Tryd.f20).getD dfl
noncomputable def c21 : AF := (compF Tryd.prog Tryd.f21).getD dfl
noncomputable def c22 : AF := (compF Tryd.prog Tryd.f22).getD dfl
noncomputable def c23 : AF := (compF Tryd.prog Tryd.f23).getD dfl
noncomputable def c24 : AF := (compF Tryd.prog Tryd.f24).getD dfl
noncomputable def c25 : AF := (compF Tryd.prog Tryd.f25).getD dfl
noncomputable def c26 : AF := (compF Tryd.prog Tryd.f26).getD dfl
noncomputable def c27 : AF := (compF Tryd.prog Tryd.f27).getD dfl
noncomputable def c28 : AF := (compF Tryd.prog Tryd.f28).getD dfl
noncomputable def c29 : AF := (compF Tryd.prog Tryd.f29).getD dfl
noncomputable def c30 : AF := (compF Tryd.prog Tryd.f30).getD dfl
noncomputable def c31 : AF := (compF Tryd.prog Tryd.f31).getD dfl
noncomputable def c32 : AF := (compF Tryd.prog Tryd.f32).getD dfl
noncomputable def c34 : AF := (compF Tryd.prog Tryd.f34).getD dfl
noncomputable def c35 : AF := (compF Tryd.prog Tryd.f35).getD dfl
noncomputable def c36 : AF := (compF Tryd.prog Tryd.f36).getD dfl
noncomputable def c37 : AF := (compF Tryd.prog Tryd.f37).getD dfl
noncomputable def c38 : AF := (compF Tryd.prog Tryd.f38).getD dfl
noncomputable def c39 : AF := (compF Tryd.prog Tryd.f39).getD dfl
noncomputable def c40 : AF := (compF Tryd.prog Tryd.f40).getD dfl
noncomputable def c42 : AF := (compF Tryd.prog Tryd.f42).getD dfl
noncomputable def c43 : AF := (compF Tryd.prog Tryd.f43).getD dfl
noncomputable def c63 : AF := (compF Tryd.prog Tryd.f63).getD dfl
noncomputable def c66 : AF := (compF Tryd.prog Tryd.f66).getD dfl
noncomputable def c69 : AF := (compF Tryd.prog Tryd.f69).getD dfl
noncomputable def c72 : AF := (compF Tryd.prog Tryd.f72).getD dfl
noncomputable def c75 : AF := (compF Tryd.prog Tryd.f75).getD dfl
noncomputable def tbl : Tr AF := (.node (.node (.node (.node (.node (.node (.node .leaf c63 .leaf) c31 .leaf) c15 .leaf) c7 (.node (.node .leaf c39 .leaf) c23 .leaf)) c3 (.node (.node (.node .leaf c35 .leaf) c19 .leaf) c11 (.node (.node (.node .leaf c75 .leaf) c43 .leaf) c27 .leaf))) dfl (.node (.node (.node .leaf c17 .leaf) c9 (.node .leaf c25 .leaf)) c5 (.node (.node (.node (.node .leaf c69 .leaf) c37 .leaf) c21 .leaf) c13 (.node .leaf c29 .leaf)))) dfl (.node (.node (.node (.node (.node .leaf c32 .leaf) c16 .leaf) c8 (.node (.node (.node .leaf c72 .leaf) c40 .leaf) c24 .leaf)) c4 (.node (.node (.node .leaf c36 .leaf) c20 .leaf) c12 (.node .leaf c28 .leaf))) dfl (.node (.node (.node (.node (.node .leaf c66 .leaf) c34 .leaf) c18 .leaf) c10 (.node (.node .leaf c42 .leaf) c26 .leaf)) c6 (.node (.node (.node .leaf c38 .leaf) c22 .leaf) c14 (.node .leaf c30 .leaf)))))
theorem tbl_ok : TblOK Tryd.prog tbl := tblOK_of (show Tr.Forall (EntryOK Tryd.prog) tbl from
  ⟨.inl rfl, ⟨.inl rfl, ⟨entry_ok Tryd.func3, ⟨entry_ok Tryd.func7, ⟨entry_ok Tryd.func15, ⟨entry_ok Tryd.func31, ⟨entry_ok Tryd.func63, trivial, trivial⟩, trivial⟩, trivial⟩, ⟨entry_ok Tryd.func23, ⟨entry_ok Tryd.func39, trivial, trivial⟩, trivial⟩⟩, ⟨entry_ok Tryd.func11, ⟨entry_ok Tryd.func19, ⟨entry_ok Tryd.func35, trivial, trivial⟩, trivial⟩, ⟨entry_ok Tryd.func27, ⟨entry_ok Tryd.func43, ⟨entry_ok Tryd.func75, trivial, trivial⟩, trivial⟩, trivial⟩⟩⟩, ⟨entry_ok Tryd.func5, ⟨entry_ok Tryd.func9, ⟨entry_ok Tryd.func17, trivial, trivial⟩, ⟨entry_ok Tryd.func25, trivial, trivial⟩⟩, ⟨entry_ok Tryd.func13, ⟨entry_ok Tryd.func21, ⟨entry_ok Tryd.func37, ⟨entry_ok Tryd.func69, trivial, trivial⟩, trivial⟩, trivial⟩, ⟨entry_ok Tryd.func29, trivial, trivial⟩⟩⟩⟩, ⟨.inl rfl, ⟨entry_ok Tryd.func4, ⟨entry_ok Tryd.func8, ⟨entry_ok Tryd.func16, ⟨entry_ok Tryd.func32, trivial, trivial⟩, trivial⟩, ⟨entry_ok Tryd.func24, ⟨entry_ok Tryd.func40, ⟨entry_ok Tryd.func72, trivial, trivial⟩, trivial⟩, trivial⟩⟩, ⟨entry_ok Tryd.func12, ⟨entry_ok Tryd.func20, ⟨entry_ok Tryd.func36, trivial, trivial⟩, trivial⟩, ⟨entry_ok Tryd.func28, trivial, trivial⟩⟩⟩, ⟨entry_ok Tryd.func6, ⟨entry_ok Tryd.func10, ⟨entry_ok Tryd.func18, ⟨entry_ok Tryd.func34, ⟨entry_ok Tryd.func66, trivial, trivial⟩, trivial⟩, trivial⟩, ⟨entry_ok Tryd.func26, ⟨entry_ok Tryd.func42, trivial, trivial⟩, trivial⟩⟩, ⟨entry_ok Tryd.func14, ⟨entry_ok Tryd.func22, ⟨entry_ok Tryd.func38, trivial, trivial⟩, trivial⟩, ⟨entry_ok Tryd.func30, trivial, trivial⟩⟩⟩⟩⟩)
def lk : List (Nat × List AV) := []
theorem gsz : Tryd.prog.globals.size = 4 := by kernel_rfl
noncomputable def H0 : Heap := begin_ 4 lk
theorem H0_eq : begin_ Tryd.prog.globals.size lk = H0 := by rw [gsz]; rfl
set_option maxRecDepth 1000000 in
theorem known_run : goK tbl 100000 (toPa 5) [] H0 yesK = some () := by kernel_rfl
theorem lk_lt : ∀ x ∈ lk, x.1 < Tryd.prog.globals.size := by
  rw [gsz]; unfold lk
  intro x hx
  cases hx
/-- The chapter's example. -/
theorem known_ok (w : World) (hn : Tryd.prog.globals.size ≤ w.heap.size) (hl : ∀ x ∈ lk, Knows w x) : Calls Tryd.prog 5 #[] w fun e w' => e = .returned (.bool true) ∧ Go.RowKit.Below w.heap.size w w' :=
  walk_of tbl_ok (args := []) hn (fun x hx => ⟨lk_lt x hx, hl x hx⟩) (fun _ => rfl) (by rw [H0_eq]; exact known_run)
end Go.Proofs.YtijkdfalbpmjbaaDoor
