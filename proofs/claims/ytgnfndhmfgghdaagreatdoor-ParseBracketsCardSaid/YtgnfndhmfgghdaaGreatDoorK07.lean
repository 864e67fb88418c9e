/- A verified interpreter of the model's code, and what the functions that read expressions tell by it: part 7 (Q01c, Q02, Q03, Q04, Q05). No condition but those that each statement bears. -/
import Derived.Test.YtgnfndhmfgghdaaGreatDoorK06
import Derived.Test.YtgnfndhmfgghdaaGreatDoorProg
import Derived.KernelRfl
set_option linter.unusedVariables false
set_option linter.unusedSimpArgs false
set_option linter.unusedSectionVars false
set_option linter.constructorNameAsVariable false
set_option linter.unnecessarySimpa false
/- The functions that the laws reach,as abstract code: a table,and each one's code written out. -/
namespace Go.Proofs.YtgnfndhmfgghdaaGreatDoor
open Go Go.Vai
set_option maxRecDepth 100000
noncomputable def c6 : AF:=(compF Tryz.prog Tryz.f6).getD dfl
noncomputable def c11 : AF:=(compF Tryz.prog Tryz.f11).getD dfl
noncomputable def c18 : AF:=(compF Tryz.prog Tryz.f18).getD dfl
noncomputable def c19 : AF:=(compF Tryz.prog Tryz.f19).getD dfl
noncomputable def c21 : AF:=(compF Tryz.prog Tryz.f21).getD dfl
noncomputable def c22 : AF:=(compF Tryz.prog Tryz.f22).getD dfl
noncomputable def c23 : AF:=(compF Tryz.prog Tryz.f23).getD dfl
noncomputable def c24 : AF:=(compF Tryz.prog Tryz.f24).getD dfl
noncomputable def c54 : AF:=(compF Tryz.prog Tryz.f54).getD dfl
noncomputable def c55 : AF:=(compF Tryz.prog Tryz.f55).getD dfl
noncomputable def c56 : AF:=(compF Tryz.prog Tryz.f56).getD dfl
noncomputable def c57 : AF:=(compF Tryz.prog Tryz.f57).getD dfl
noncomputable def c71 : AF:=(compF Tryz.prog Tryz.f71).getD dfl
noncomputable def c73 : AF:=(compF Tryz.prog Tryz.f73).getD dfl
noncomputable def c115 : AF:=(compF Tryz.prog Tryz.f115).getD dfl
noncomputable def c116 : AF:=(compF Tryz.prog Tryz.f116).getD dfl
noncomputable def c117 : AF:=(compF Tryz.prog Tryz.f117).getD dfl
noncomputable def c118 : AF:=(compF Tryz.prog Tryz.f118).getD dfl
noncomputable def c125 : AF:=(compF Tryz.prog Tryz.f125).getD dfl
noncomputable def c130 : AF:=(compF Tryz.prog Tryz.f130).getD dfl
noncomputable def c131 : AF:=(compF Tryz.prog Tryz.f131).getD dfl
noncomputable def c151 : AF:=(compF Tryz.prog Tryz.f151).getD dfl
noncomputable def c168 : AF:=(compF Tryz.prog Tryz.f168).getD dfl
noncomputable def c169 : AF:=(compF Tryz.prog Tryz.f169).getD dfl
noncomputable def c172 : AF:=(compF Tryz.prog Tryz.f172).getD dfl
noncomputable def c173 : AF:=(compF Tryz.prog Tryz.f173).getD dfl
noncomputable def c174 : AF:=(compF Tryz.prog Tryz.f174).getD dfl
noncomputable def c175 : AF:=(compF Tryz.prog Tryz.f175).getD dfl
noncomputable def c176 : AF:=(compF Tryz.prog Tryz.f176).getD dfl
noncomputable def c177 : AF:=(compF Tryz.prog Tryz.f177).getD dfl
noncomputable def c178 : AF:=(compF Tryz.prog Tryz.f178).getD dfl
noncomputable def c179 : AF:=(compF Tryz.prog Tryz.f179).getD dfl
noncomputable def c187 : AF:=(compF Tryz.prog Tryz.f187).getD dfl
noncomputable def c202 : AF:=(compF Tryz.prog Tryz.f202).getD dfl
noncomputable def c220 : AF:=(compF Tryz.prog Tryz.f220).getD dfl
noncomputable def c221 : AF:=(compF Tryz.prog Tryz.f221).getD dfl
noncomputable def c222 : AF:=(compF Tryz.prog Tryz.f222).getD dfl
noncomputable def c223 : AF:=(compF Tryz.prog Tryz.f223).getD dfl
noncomputable def c224 : AF:=(compF Tryz.prog Tryz.f224).getD dfl
noncomputable def c225 : AF:=(compF Tryz.prog Tryz.f225).getD dfl
noncomputable def c226 : AF:=(compF Tryz.prog Tryz.f226).getD dfl
noncomputable def c227 : AF:=(compF Tryz.prog Tryz.f227).getD dfl
noncomputable def c229 : AF:=(compF Tryz.prog Tryz.f229).getD dfl
noncomputable def c230 : AF:=(compF Tryz.prog Tryz.f230).getD dfl
noncomputable def c231 : AF:=(compF Tryz.prog Tryz.f231).getD dfl
noncomputable def c242 : AF:=(compF Tryz.prog Tryz.f242).getD dfl
noncomputable def c261 : AF:=(compF Tryz.prog Tryz.f261).getD dfl
noncomputable def c262 : AF:=(compF Tryz.prog Tryz.f262).getD dfl
noncomputable def c263 : AF:=(compF Tryz.prog Tryz.f263).getD dfl
noncomputable def c264 : AF:=(compF Tryz.prog Tryz.f264).getD dfl
noncomputable def c265 : AF:=(compF Tryz.prog Tryz.f265).getD dfl
noncomputable def c268 : AF:=(compF Tryz.prog Tryz.f268).getD dfl
noncomputable def c269 : AF:=(compF Tryz.prog Tryz.f269).getD dfl
noncomputable def c270 : AF:=(compF Tryz.prog Tryz.f270).getD dfl
noncomputable def c290 : AF:=(compF Tryz.prog Tryz.f290).getD dfl
noncomputable def c294 : AF:=(compF Tryz.prog Tryz.f294).getD dfl
noncomputable def c295 : AF:=(compF Tryz.prog Tryz.f295).getD dfl
noncomputable def c299 : AF:=(compF Tryz.prog Tryz.f299).getD dfl
noncomputable def c300 : AF:=(compF Tryz.prog Tryz.f300).getD dfl
noncomputable def c314 : AF:=(compF Tryz.prog Tryz.f314).getD dfl
noncomputable def c315 : AF:=(compF Tryz.prog Tryz.f315).getD dfl
noncomputable def c323 : AF:=(compF Tryz.prog Tryz.f323).getD dfl
noncomputable def c326 : AF:=(compF Tryz.prog Tryz.f326).getD dfl
noncomputable def c327 : AF:=(compF Tryz.prog Tryz.f327).getD dfl
noncomputable def tbl : Tr AF:=(.node (.node (.node (.node (.node (.node .leaf dfl (.node .leaf dfl (.node .leaf c223 .leaf))) dfl (.node .leaf dfl (.node (.node .leaf c175 .leaf) dfl .leaf))) dfl (.node (.node (.node (.node (.node .leaf c263 .leaf) dfl .leaf) c71 (.node (.node .leaf c327 .leaf) dfl .leaf)) dfl (.node (.node (.node .leaf c295 .leaf) dfl .leaf) dfl (.node .leaf c231 .leaf))) c23 (.node (.node (.node .leaf c151 .leaf) dfl .leaf) c55 .leaf))) dfl (.node (.node (.node (.node (.node .leaf c131 .leaf) dfl (.node (.node .leaf c323 .leaf) dfl .leaf)) dfl (.node .leaf dfl (.node .leaf c227 .leaf))) c19 (.node .leaf dfl (.node (.node .leaf c179 .leaf) c115 .leaf))) c11 (.node (.node .leaf dfl (.node (.node (.node .leaf c299 .leaf) dfl .leaf) dfl .leaf)) dfl (.node .leaf dfl (.node (.node (.node .leaf c315 .leaf) c187 .leaf) dfl .leaf))))) dfl (.node (.node (.node (.node .leaf dfl (.node .leaf dfl (.node .leaf c225 .leaf))) dfl (.node .leaf dfl (.node (.node .leaf c177 .leaf) dfl .leaf))) dfl (.node (.node (.node (.node (.node .leaf c265 .leaf) dfl .leaf) c73 .leaf) dfl (.node (.node .leaf c169 .leaf) dfl .leaf)) dfl (.node .leaf c57 .leaf))) dfl (.node (.node (.node (.node (.node (.node .leaf c261 .leaf) dfl .leaf) dfl .leaf) dfl (.node .leaf dfl (.node .leaf c229 .leaf))) c21 (.node .leaf dfl (.node .leaf c117 .leaf))) dfl (.node (.node (.node (.node (.node .leaf c269 .leaf) dfl .leaf) dfl .leaf) dfl (.node (.node .leaf c173 .leaf) dfl .leaf)) dfl (.node (.node .leaf dfl (.node .leaf c221 .leaf)) dfl (.node .leaf c125 .leaf)))))) dfl (.node (.node (.node (.node (.node .leaf dfl (.node .leaf dfl (.node .leaf c224 .leaf))) dfl (.node .leaf dfl (.node (.node .leaf c176 .leaf) dfl .leaf))) dfl (.node (.node (.node (.node (.node .leaf c264 .leaf) dfl .leaf) dfl .leaf) dfl (.node (.node .leaf c168 .leaf) dfl .leaf)) c24 (.node .leaf c56 .leaf))) dfl (.node (.node .leaf dfl (.node .leaf dfl (.node .leaf c116 .leaf))) dfl (.node (.node (.node (.node (.node .leaf c268 .leaf) dfl .leaf) dfl .leaf) dfl (.node (.node (.node .leaf c300 .leaf) c172 .leaf) dfl .leaf)) dfl (.node (.node .leaf dfl (.node .leaf c220 .leaf)) dfl .leaf)))) dfl (.node (.node (.node (.node (.node (.node .leaf c130 .leaf) dfl .leaf) dfl (.node (.node (.node .leaf c290 .leaf) dfl .leaf) dfl (.node .leaf c226 .leaf))) c18 (.node .leaf dfl (.node (.node .leaf c178 .leaf) dfl (.node .leaf c242 .leaf)))) dfl (.node (.node (.node .leaf dfl (.node .leaf c202 .leaf)) dfl .leaf) dfl (.node .leaf dfl (.node (.node (.node .leaf c314 .leaf) dfl .leaf) dfl .leaf)))) c6 (.node (.node (.node (.node (.node (.node .leaf c262 .leaf) dfl .leaf) dfl (.node (.node .leaf c326 .leaf) dfl .leaf)) dfl (.node (.node (.node .leaf c294 .leaf) dfl .leaf) dfl (.node .leaf c230 .leaf))) c22 (.node .leaf c54 (.node .leaf c118 .leaf))) dfl (.node (.node (.node (.node (.node .leaf c270 .leaf) dfl .leaf) dfl .leaf) dfl (.node (.node .leaf c174 .leaf) dfl .leaf)) dfl (.node (.node .leaf dfl (.node .leaf c222 .leaf)) dfl .leaf))))))
theorem tbl_ok : TblOK Tryz.prog tbl:=tblOK_of (show Tr.Forall (EntryOK Tryz.prog) tbl from
 ⟨.inl rfl,⟨.inl rfl,⟨.inl rfl,⟨.inl rfl,⟨.inl rfl,⟨.inl rfl,trivial,⟨.inl rfl,trivial,⟨entry_ok Tryz.func223,trivial,trivial⟩⟩⟩,⟨.inl rfl,trivial,⟨.inl rfl,⟨entry_ok Tryz.func175,trivial,trivial⟩,trivial⟩⟩⟩,⟨entry_ok Tryz.func23,⟨.inl rfl,⟨entry_ok Tryz.func71,⟨.inl rfl,⟨entry_ok Tryz.func263,trivial,trivial⟩,trivial⟩,⟨.inl rfl,⟨entry_ok Tryz.func327,trivial,trivial⟩,trivial⟩⟩,⟨.inl rfl,⟨.inl rfl,⟨entry_ok Tryz.func295,trivial,trivial⟩,trivial⟩,⟨entry_ok Tryz.func231,trivial,trivial⟩⟩⟩,⟨entry_ok Tryz.func55,⟨.inl rfl,⟨entry_ok Tryz.func151,trivial,trivial⟩,trivial⟩,trivial⟩⟩⟩,⟨entry_ok Tryz.func11,⟨entry_ok Tryz.func19,⟨.inl rfl,⟨.inl rfl,⟨entry_ok Tryz.func131,trivial,trivial⟩,⟨.inl rfl,⟨entry_ok Tryz.func323,trivial,trivial⟩,trivial⟩⟩,⟨.inl rfl,trivial,⟨entry_ok Tryz.func227,trivial,trivial⟩⟩⟩,⟨.inl rfl,trivial,⟨entry_ok Tryz.func115,⟨entry_ok Tryz.func179,trivial,trivial⟩,trivial⟩⟩⟩,⟨.inl rfl,⟨.inl rfl,trivial,⟨.inl rfl,⟨.inl rfl,⟨entry_ok Tryz.func299,trivial,trivial⟩,trivial⟩,trivial⟩⟩,⟨.inl rfl,trivial,⟨.inl rfl,⟨entry_ok Tryz.func187,⟨entry_ok Tryz.func315,trivial,trivial⟩,trivial⟩,trivial⟩⟩⟩⟩⟩,⟨.inl rfl,⟨.inl rfl,⟨.inl rfl,⟨.inl rfl,trivial,⟨.inl rfl,trivial,⟨entry_ok Tryz.func225,trivial,trivial⟩⟩⟩,⟨.inl rfl,trivial,⟨.inl rfl,⟨entry_ok Tryz.func177,trivial,trivial⟩,trivial⟩⟩⟩,⟨.inl rfl,⟨.inl rfl,⟨entry_ok Tryz.func73,⟨.inl rfl,⟨entry_ok Tryz.func265,trivial,trivial⟩,trivial⟩,trivial⟩,⟨.inl rfl,⟨entry_ok Tryz.func169,trivial,trivial⟩,trivial⟩⟩,⟨entry_ok Tryz.func57,trivial,trivial⟩⟩⟩,⟨.inl rfl,⟨entry_ok Tryz.func21,⟨.inl rfl,⟨.inl rfl,⟨.inl rfl,⟨entry_ok Tryz.func261,trivial,trivial⟩,trivial⟩,trivial⟩,⟨.inl rfl,trivial,⟨entry_ok Tryz.func229,trivial,trivial⟩⟩⟩,⟨.inl rfl,trivial,⟨entry_ok Tryz.func117,trivial,trivial⟩⟩⟩,⟨.inl rfl,⟨.inl rfl,⟨.inl rfl,⟨.inl rfl,⟨entry_ok Tryz.func269,trivial,trivial⟩,trivial⟩,trivial⟩,⟨.inl rfl,⟨entry_ok Tryz.func173,trivial,trivial⟩,trivial⟩⟩,⟨.inl rfl,⟨.inl rfl,trivial,⟨entry_ok Tryz.func221,trivial,trivial⟩⟩,⟨entry_ok Tryz.func125,trivial,trivial⟩⟩⟩⟩⟩⟩,⟨.inl rfl,⟨.inl rfl,⟨.inl rfl,⟨.inl rfl,⟨.inl rfl,trivial,⟨.inl rfl,trivial,⟨entry_ok Tryz.func224,trivial,trivial⟩⟩⟩,⟨.inl rfl,trivial,⟨.inl rfl,⟨entry_ok Tryz.func176,trivial,trivial⟩,trivial⟩⟩⟩,⟨entry_ok Tryz.func24,⟨.inl rfl,⟨.inl rfl,⟨.inl rfl,⟨entry_ok Tryz.func264,trivial,trivial⟩,trivial⟩,trivial⟩,⟨.inl rfl,⟨entry_ok Tryz.func168,trivial,trivial⟩,trivial⟩⟩,⟨entry_ok Tryz.func56,trivial,trivial⟩⟩⟩,⟨.inl rfl,⟨.inl rfl,trivial,⟨.inl rfl,trivial,⟨entry_ok Tryz.func116,trivial,trivial⟩⟩⟩,⟨.inl rfl,⟨.inl rfl,⟨.inl rfl,⟨.inl rfl,⟨entry_ok Tryz.func268,trivial,trivial⟩,trivial⟩,trivial⟩,⟨.inl rfl,⟨entry_ok Tryz.func172,⟨entry_ok Tryz.func300,trivial,trivial⟩,trivial⟩,trivial⟩⟩,⟨.inl rfl,⟨.inl rfl,trivial,⟨entry_ok Tryz.func220,trivial,trivial⟩⟩,trivial⟩⟩⟩⟩,⟨entry_ok Tryz.func6,⟨.inl rfl,⟨entry_ok Tryz.func18,⟨.inl rfl,⟨.inl rfl,⟨entry_ok Tryz.func130,trivial,trivial⟩,trivial⟩,⟨.inl rfl,⟨.inl rfl,⟨entry_ok Tryz.func290,trivial,trivial⟩,trivial⟩,⟨entry_ok Tryz.func226,trivial,trivial⟩⟩⟩,⟨.inl rfl,trivial,⟨.inl rfl,⟨entry_ok Tryz.func178,trivial,trivial⟩,⟨entry_ok Tryz.func242,trivial,trivial⟩⟩⟩⟩,⟨.inl rfl,⟨.inl rfl,⟨.inl rfl,trivial,⟨entry_ok Tryz.func202,trivial,trivial⟩⟩,trivial⟩,⟨.inl rfl,trivial,⟨.inl rfl,⟨.inl rfl,⟨entry_ok Tryz.func314,trivial,trivial⟩,trivial⟩,trivial⟩⟩⟩⟩,⟨.inl rfl,⟨entry_ok Tryz.func22,⟨.inl rfl,⟨.inl rfl,⟨.inl rfl,⟨entry_ok Tryz.func262,trivial,trivial⟩,trivial⟩,⟨.inl rfl,⟨entry_ok Tryz.func326,trivial,trivial⟩,trivial⟩⟩,⟨.inl rfl,⟨.inl rfl,⟨entry_ok Tryz.func294,trivial,trivial⟩,trivial⟩,⟨entry_ok Tryz.func230,trivial,trivial⟩⟩⟩,⟨entry_ok Tryz.func54,trivial,⟨entry_ok Tryz.func118,trivial,trivial⟩⟩⟩,⟨.inl rfl,⟨.inl rfl,⟨.inl rfl,⟨.inl rfl,⟨entry_ok Tryz.func270,trivial,trivial⟩,trivial⟩,trivial⟩,⟨.inl rfl,⟨entry_ok Tryz.func174,trivial,trivial⟩,trivial⟩⟩,⟨.inl rfl,⟨.inl rfl,trivial,⟨entry_ok Tryz.func222,trivial,trivial⟩⟩,trivial⟩⟩⟩⟩⟩⟩)
/-- chancel/chancellaw5.ParseBrackets -/
noncomputable def B6 : AC:=(.seq (.ops [O 4 (.mv (K (.b false)))]) (.seq (.seq (.ops [O 16 (.call (toPa 11) []),O 17 (.not (T 16))]) (.cond (T 17) (.seq (.ops [O 4 (.mv (K (.b false)))]) .ret) .skip)) (.seq (.ops [O 18 (.call (toPa 24) []),O 5 (.mv (T 18))]) (.seq (.ops [O 6 (.mv (K (str [49])))]) (.seq (.seq (.ops [O 7 (.mv (K (.i .i64 0)))]) (.block 0 (.loop (.seq (.seq (.ops [O 19 (.mv (T 7)),O 20 (.mv (T 0)),O 21 (.len false (T 20)),O 22 (.bin .lss .no (T 19) (T 21)),O 23 (.mv (T 22)),G 24 23 true (.mv (T 7)),G 25 23 true (.bin .lss .no (T 24) (K (.i .i64 8))),O 26 (.pick (T 23) (T 25) (K (.b false)))]) (.cond (T 26) .skip (.exit 0))) (.seq (.block 1 (.draw 1 [(O 32 (.mv (T 0)),⟨0,0⟩),(O 33 (.mv (T 7)),⟨0,0⟩),(O 34 (.ixa 1 (T 32) (T 33)),⟨0,0⟩),(O 35 (.ld false 1 (T 34)),⟨1,0⟩),(O 36 (.call (toPa 22) [(T 35),(K (.i .i64 5))]),⟨3,0⟩),(O 29 (.mv (T 6)),⟨0,0⟩),(O 30 (.bin .add .no (T 29) (K (str [32]))),⟨0,0⟩),(O 31 (.mv (T 5)),⟨0,0⟩),(O 37 (.ixa 3 (T 31) (T 36)),⟨0,1⟩),(O 38 (.fa 0 (T 37)),⟨0,1⟩),(O 39 (.ld false 1 (T 38)),⟨1,1⟩),(O 40 (.bin .add .no (T 30) (T 39)),⟨0,1⟩),(O 41 (.bin .add .no (T 40) (K (str [32]))),⟨0,1⟩),(O 42 (.mv (T 7)),⟨0,0⟩),(O 43 (.bin .add .no (K (.i .i64 50)) (T 42)),⟨0,0⟩),(O 44 (.cvi .u8 (T 43)),⟨0,0⟩),(O 45 (.bsl 5 1 1 [(.i .u8 0)] [(0,1,(T 44))]),⟨2,0⟩),(O 46 (.b2s (T 45)),⟨1,1000000⟩),(O 47 (.bin .add .no (T 41) (T 46)),⟨0,1⟩),(O 6 (.mv (T 47)),⟨0,1⟩)])) (.ops [O 27 (.mv (T 7)),O 28 (.bin .add .no (T 27) (K (.i .i64 1))),O 7 (.mv (T 28))])))))) (.seq (.ops [O 49 (.mv (T 6)),O 50 (.call (toPa 19) [(T 49)]),O 48 (.mv (T 50)),O 51 (.ext 0 (T 48)),O 52 (.ext 1 (T 48)),O 8 (.new 35 [(.i .i64 0),(.b false),(.i .i64 0),(str []),(str []),(str []),.ns]),O_ (.st 7 (T 8) (T 51)),O 9 (.mv (T 52))]) (.seq (.ops [O 53 (.mv (T 6)),O 10 (.mv (T 53))]) (.seq (.seq (.ops [O 11 (.mv (K (.i .i64 0)))]) (.block 2 (.loop (.seq (.seq (.ops [O 54 (.mv (T 11)),O 55 (.mv (T 1)),O 56 (.call (toPa 22) [(T 55),(K (.i .i64 5))]),O 57 (.bin .lss .no (T 54) (T 56))]) (.cond (T 57) .skip (.exit 2))) (.seq (.block 3 (.ops [O 60 (.mv (T 10)),O 61 (.bin .add .no (K (str [40])) (T 60)),O 62 (.bin .add .no (T 61) (K (str [41]))),O 10 (.mv (T 62))])) (.ops [O 58 (.mv (T 11)),O 59 (.bin .add .no (T 58) (K (.i .i64 1))),O 11 (.mv (T 59))])))))) (.seq (.ops [O 64 (.mv (T 10)),O 65 (.call (toPa 19) [(T 64)]),O 63 (.mv (T 65)),O 66 (.ext 0 (T 63)),O 67 (.ext 1 (T 63)),O 12 (.new 35 [(.i .i64 0),(.b false),(.i .i64 0),(str []),(str []),(str []),.ns]),O_ (.st 7 (T 12) (T 66)),O 13 (.mv (T 67))]) (.seq (.ops [O 69 (.mv (T 6)),O 70 (.bin .add .no (K (str [48,32,42,32,40])) (T 69)),O 71 (.bin .add .no (T 70) (K (str [41]))),O 72 (.call (toPa 19) [(T 71)]),O 68 (.mv (T 72)),O 73 (.ext 0 (T 68)),O 74 (.ext 1 (T 68)),O 14 (.new 35 [(.i .i64 0),(.b false),(.i .i64 0),(str []),(str []),(str []),.ns]),O_ (.st 7 (T 14) (T 73)),O 15 (.mv (T 74))]) (.seq (.seq (.ops [O 75 (.mv (T 9)),O 76 (.bin .neq .no (T 75) (K (.i .i64 0))),O 77 (.mv (T 76)),G 78 77 false (.mv (T 13)),G 79 77 false (.bin .neq .no (T 78) (K (.i .i64 0))),O 80 (.pick (T 77) (K (.b true)) (T 79)),O 81 (.mv (T 80)),G 82 81 false (.ld true 7 (T 8)),G 83 81 false (.ld true 7 (T 12)),G 84 81 false (.call (toPa 21) [(T 82),(T 83)]),G 85 81 false (.not (T 84)),O 86 (.pick (T 81) (K (.b true)) (T 85))]) (.cond (T 86) (.seq (.ops [O 4 (.mv (K (.b false)))]) .ret) .skip)) (.seq (.seq (.ops [O 87 (.ld true 7 (T 8)),O 88 (.call (toPa 23) [(T 87)]),O 89 (.bin .eql .no (T 88) (K (.i .i64 10)))]) (.cond (T 89) (.seq (.ops [O 90 (.mv (T 15)),O 91 (.bin .eql .no (T 90) (K (.i .i64 14))),O 4 (.mv (T 91))]) .ret) .skip)) (.seq (.draw 0 [(O 92 (.mv (T 15)),⟨0,0⟩),(O 93 (.bin .eql .no (T 92) (K (.i .i64 0))),⟨0,0⟩),(O 94 (.mv (T 93)),⟨0,0⟩),(G 95 94 true (.fa 0 (T 14)),⟨0,0⟩),(G 96 94 true (.ld false 1 (T 95)),⟨1,0⟩),(G 97 94 true (.bin .eql .no (T 96) (K (.i .i64 13))),⟨0,0⟩),(O 98 (.pick (T 94) (T 97) (K (.b false))),⟨0,0⟩),(O 99 (.mv (T 98)),⟨0,0⟩),(G 100 99 true (.fa 6 (T 14)),⟨0,0⟩),(G 101 99 true (.ld false 1 (T 100)),⟨1,0⟩),(G 102 99 true (.ixa 7 (T 101) (K (.i .i64 1))),⟨0,0⟩),(G 103 99 true (.ld true 7 (T 102)),⟨1,0⟩),(G 104 99 true (.ld true 7 (T 8)),⟨1,0⟩),(G 105 99 true (.call (toPa 21) [(T 103),(T 104)]),⟨3,0⟩),(O 106 (.pick (T 99) (T 105) (K (.b false))),⟨0,1⟩),(O 4 (.mv (T 106)),⟨0,1⟩)]) .ret)))))))))))))
theorem L6 : Tr.get dfl tbl (toPa 6) = .mk B6 [(.tmp (toPa 4))]:=by kernel_rfl
/-- chancel/chancellaw5.known -/
noncomputable def B11 : AC:=(.seq (.ops [O 0 (.mv (K (.b false)))]) (.seq (.ops [O 4 (.call (toPa 19) [(K (str [49,32,45,32,50,32,45,32,51]))]),O 3 (.mv (T 4)),O 5 (.ext 0 (T 3)),O 6 (.ext 1 (T 3)),O 1 (.new 35 [(.i .i64 0),(.b false),(.i .i64 0),(str []),(str []),(str []),.ns]),O_ (.st 7 (T 1) (T 5)),O 2 (.mv (T 6))]) (.seq (.ops [O 7 (.mv (T 2)),O 8 (.bin .eql .no (T 7) (K (.i .i64 0))),O 9 (.mv (T 8)),G 10 9 true (.fa 0 (T 1)),G 11 9 true (.ld false 1 (T 10)),G 12 9 true (.bin .eql .no (T 11) (K (.i .i64 15))),O 13 (.pick (T 9) (T 12) (K (.b false))),O 14 (.mv (T 13)),G 15 14 true (.fa 6 (T 1)),G 16 14 true (.ld false 1 (T 15)),G 17 14 true (.len false (T 16)),G 18 14 true (.bin .eql .no (T 17) (K (.i .i64 2))),O 19 (.pick (T 14) (T 18) (K (.b false))),O 20 (.mv (T 19)),G 21 20 true (.fa 6 (T 1)),G 22 20 true (.ld false 1 (T 21)),G 23 20 true (.ixa 7 (T 22) (K (.i .i64 0))),G 24 20 true (.fa 0 (T 23)),G 25 20 true (.ld false 1 (T 24)),G 26 20 true (.bin .eql .no (T 25) (K (.i .i64 15))),O 27 (.pick (T 20) (T 26) (K (.b false))),O 28 (.mv (T 27)),G 29 28 true (.fa 6 (T 1)),G 30 28 true (.ld false 1 (T 29)),G 31 28 true (.ixa 7 (T 30) (K (.i .i64 1))),G 32 28 true (.fa 2 (T 31)),G 33 28 true (.ld false 1 (T 32)),G 34 28 true (.bin .eql .no (T 33) (K (.i .i64 3))),O 35 (.pick (T 28) (T 34) (K (.b false))),O 0 (.mv (T 35))]) .ret)))
theorem L11 : Tr.get dfl tbl (toPa 11) = .mk B11 [(.tmp (toPa 0))]:=by kernel_rfl
/-- chancel/parse.Check -/
noncomputable def B18 : AC:=(.seq (.ops [O 1 (.box 35 (T 0)),O 2 (.mv (K (.i .i64 0)))]) (.seq (.seq (.ops [O 4 (.ld true 7 (T 1)),O 5 (.call (toPa 54) [(T 4)]),O 3 (.mv (T 5))]) (.seq (.ops [O 6 (.mv (T 3)),O 7 (.bin .neq .no (T 6) (K (.i .i64 0)))]) (.cond (T 7) (.seq (.ops [O 8 (.mv (T 3)),O 2 (.mv (T 8))]) .ret) .skip))) (.seq (.seq (.ops [O 9 (.ld true 7 (T 1)),O 10 (.call (toPa 23) [(T 9)]),O 11 (.bin .gtr .no (T 10) (K (.i .i64 10)))]) (.cond (T 11) (.seq (.ops [O 2 (.mv (K (.i .i64 14)))]) .ret) .skip)) (.seq (.ops [O 2 (.mv (K (.i .i64 0)))]) .ret))))
theorem L18 : Tr.get dfl tbl (toPa 18) = .mk B18 [(.tmp (toPa 2))]:=by kernel_rfl
/-- chancel/parse.Expr -/
noncomputable def B19 : AC:=(.seq (.ops [O 2 (.new 35 [(.i .i64 0),(.b false),(.i .i64 0),(str []),(str []),(str []),.ns]),O 3 (.mv (K (.i .i64 0)))]) (.seq (.ops [O 10 (.mv (T 0)),O 11 (.call (toPa 55) [(T 10)]),O 9 (.mv (T 11)),O 12 (.ext 0 (T 9)),O 13 (.ext 1 (T 9)),O 4 (.mv (T 12)),O 5 (.mv (T 13))]) (.seq (.seq (.ops [O 14 (.mv (T 5)),O 15 (.bin .neq .no (T 14) (K (.i .i64 0)))]) (.cond (T 15) (.seq (.ops [O 16 (.build [(.i .i64 0),(.b false),(.i .i64 0),(str []),(str []),(str []),.ns] []),O 17 (.mv (T 5)),O_ (.st 7 (T 2) (T 16)),O 3 (.mv (T 17))]) .ret) .skip)) (.seq (.ops [O 18 (.mv (T 4)),O 19 (.call (toPa 56) [(T 18)]),O 6 (.new 35 [(.i .i64 0),(.b false),(.i .i64 0),(str []),(str []),(str []),.ns]),O_ (.st 7 (T 6) (T 19))]) (.seq (.seq (.ops [O 20 (.mv (T 4)),O 21 (.call (toPa 57) [(T 20)]),O 7 (.mv (T 21))]) (.seq (.ops [O 22 (.mv (T 7)),O 23 (.bin .neq .no (T 22) (K (.i .i64 0)))]) (.cond (T 23) (.seq (.ops [O 24 (.build [(.i .i64 0),(.b false),(.i .i64 0),(str []),(str []),(str []),.ns] []),O 25 (.mv (T 7)),O_ (.st 7 (T 2) (T 24)),O 3 (.mv (T 25))]) .ret) .skip))) (.seq (.seq (.ops [O 26 (.ld true 7 (T 6)),O 27 (.call (toPa 18) [(T 26)]),O 8 (.mv (T 27))]) (.seq (.ops [O 28 (.mv (T 8)),O 29 (.bin .neq .no (T 28) (K (.i .i64 0)))]) (.cond (T 29) (.seq (.ops [O 30 (.build [(.i .i64 0),(.b false),(.i .i64 0),(str []),(str []),(str []),.ns] []),O 31 (.mv (T 8)),O_ (.st 7 (T 2) (T 30)),O 3 (.mv (T 31))]) .ret) .skip))) (.seq (.ops [O 32 (.ld true 7 (T 6)),O_ (.st 7 (T 2) (T 32)),O 3 (.mv (K (.i .i64 0)))]) .ret)))))))
theorem L19 : Tr.get dfl tbl (toPa 19) = .mk B19 [(.cell (toPa 2) true 7),(.tmp (toPa 3))]:=by kernel_rfl
/-- chancel/chancelref15.SameExpr -/
noncomputable def B21 : AC:=(.seq (.ops [O 2 (.box 35 (T 0)),O 3 (.box 35 (T 1)),O 4 (.mv (K (.b false)))]) (.seq (.seq (.ops [O 6 (.fa 0 (T 2)),O 7 (.ld false 1 (T 6)),O 8 (.fa 0 (T 3)),O 9 (.ld false 1 (T 8)),O 10 (.bin .neq .no (T 7) (T 9)),O 11 (.mv (T 10)),G 12 11 false (.fa 1 (T 2)),G 13 11 false (.ld false 1 (T 12)),G 14 11 false (.fa 1 (T 3)),G 15 11 false (.ld false 1 (T 14)),G 16 11 false (.bin .neq .bool (T 13) (T 15)),O 17 (.pick (T 11) (K (.b true)) (T 16)),O 18 (.mv (T 17)),G 19 18 false (.fa 2 (T 2)),G 20 18 false (.ld false 1 (T 19)),G 21 18 false (.fa 2 (T 3)),G 22 18 false (.ld false 1 (T 21)),G 23 18 false (.bin .neq .no (T 20) (T 22)),O 24 (.pick (T 18) (K (.b true)) (T 23)),O 25 (.mv (T 24)),G 26 25 false (.fa 3 (T 2)),G 27 25 false (.ld false 1 (T 26)),G 28 25 false (.fa 3 (T 3)),G 29 25 false (.ld false 1 (T 28)),G 30 25 false (.bin .neq .no (T 27) (T 29)),O 31 (.pick (T 25) (K (.b true)) (T 30)),O 32 (.mv (T 31)),G 33 32 false (.fa 4 (T 2)),G 34 32 false (.ld true 2 (T 33)),G 35 32 false (.fa 4 (T 3)),G 36 32 false (.ld true 2 (T 35)),G 37 32 false (.bin .neq (.flat [2,2]) (T 34) (T 36)),O 38 (.pick (T 32) (K (.b true)) (T 37)),O 39 (.mv (T 38)),G 40 39 false (.fa 6 (T 2)),G 41 39 false (.ld false 1 (T 40)),G 42 39 false (.len false (T 41)),G 43 39 false (.fa 6 (T 3)),G 44 39 false (.ld false 1 (T 43)),G 45 39 false (.len false (T 44)),G 46 39 false (.bin .neq .no (T 42) (T 45)),O 47 (.pick (T 39) (K (.b true)) (T 46))]) (.cond (T 47) (.seq (.ops [O 4 (.mv (K (.b false)))]) .ret) .skip)) (.seq (.seq (.ops [O 5 (.mv (K (.i .i64 0)))]) (.block 0 (.loop (.seq (.seq (.ops [O 48 (.mv (T 5)),O 49 (.fa 6 (T 2)),O 50 (.ld false 1 (T 49)),O 51 (.len false (T 50)),O 52 (.bin .lss .no (T 48) (T 51))]) (.cond (T 52) .skip (.exit 0))) (.seq (.block 1 (.seq (.draw 0 [(O 55 (.fa 6 (T 2)),⟨0,0⟩),(O 56 (.ld false 1 (T 55)),⟨1,0⟩),(O 57 (.mv (T 5)),⟨0,0⟩),(O 58 (.ixa 7 (T 56) (T 57)),⟨0,0⟩),(O 59 (.ld true 7 (T 58)),⟨1,0⟩),(O 60 (.fa 6 (T 3)),⟨0,0⟩),(O 61 (.ld false 1 (T 60)),⟨1,0⟩),(O 62 (.mv (T 5)),⟨0,0⟩),(O 63 (.ixa 7 (T 61) (T 62)),⟨0,0⟩),(O 64 (.ld true 7 (T 63)),⟨1,0⟩),(O 65 (.call (toPa 21) [(T 59),(T 64)]),⟨3,0⟩),(O 66 (.not (T 65)),⟨0,1⟩)]) (.cond (T 66) (.seq (.ops [O 4 (.mv (K (.b false)))]) .ret) .skip))) (.ops [O 53 (.mv (T 5)),O 54 (.bin .add .no (T 53) (K (.i .i64 1))),O 5 (.mv (T 54))])))))) (.seq (.ops [O 4 (.mv (K (.b true)))]) .ret))))
theorem L21 : Tr.get dfl tbl (toPa 21) = .mk B21 [(.tmp (toPa 4))]:=by kernel_rfl
/-- chancel/chancellaw5.within -/
noncomputable def B22 : AC:=(.seq (.ops [O 4 (.mv (K (.i .i64 0)))]) (.seq (.ops [O 6 (.mv (T 0)),O 7 (.mv (T 1)),O 8 (.bin .rem .no (T 6) (T 7)),O 5 (.mv (T 8))]) (.seq (.seq (.ops [O 9 (.mv (T 5)),O 10 (.bin .lss .no (T 9) (K (.i .i64 0)))]) (.cond (T 10) (.ops [O 11 (.mv (T 5)),O 12 (.mv (T 1)),O 13 (.bin .add .no (T 11) (T 12)),O 5 (.mv (T 13))]) .skip)) (.seq (.ops [O 14 (.mv (T 5)),O 4 (.mv (T 14))]) .ret))))
theorem L22 : Tr.get dfl tbl (toPa 22) = .mk B22 [(.tmp (toPa 4))]:=by kernel_rfl
/-- chancel/parse.Depth -/
noncomputable def B23 : AC:=(.seq (.ops [O 1 (.box 35 (T 0)),O 2 (.mv (K (.i .i64 0)))]) (.seq (.ops [O 3 (.mv (K (.i .i64 0)))]) (.seq (.seq (.ops [O 6 (.fa 6 (T 1)),O 7 (.ld false 1 (T 6)),O 8 (.len false (T 7)),O 9 (.mv (K (.i .i64 0)))]) (.block 0 (.loop (.seq (.ops [O 10 (.bin .lss .no (T 9) (T 8))]) (.seq (.cond (T 10) .skip (.exit 0)) (.seq (.block 1 (.seq (.ops [O 11 (.ixa 7 (T 7) (T 9)),O 12 (.ld true 7 (T 11)),O 5 (.new 35 [(.i .i64 0),(.b false),(.i .i64 0),(str []),(str []),(str []),.ns]),O_ (.st 7 (T 5) (T 12))]) (.ops [O 13 (.mv (T 3)),O 14 (.ld true 7 (T 5)),O 15 (.call (toPa 23) [(T 14)]),O 16 (.mm true (T 13) (T 15)),O 3 (.mv (T 16))]))) (.ops [O 17 (.bin .add .no (T 9) (K (.i .i64 1))),O 9 (.mv (T 17))]))))))) (.seq (.ops [O 18 (.mv (T 3)),O 19 (.bin .add .no (T 18) (K (.i .i64 1))),O 2 (.mv (T 19))]) .ret))))
theorem L23 : Tr.get dfl tbl (toPa 23) = .mk B23 [(.tmp (toPa 2))]:=by kernel_rfl
/-- chancel/chancellaw5.ops -/
noncomputable def B24 : AC:=(.seq (.ops [O 0 (.mv (K .ns))]) (.seq (.ops [O 1 (.build [(str []),(.i .i64 0),(.i .i64 0)] [(0,1,(K (str [124,124]))),(1,1,(K (.i .i64 24))),(2,1,(K (.i .i64 1)))]),O 2 (.build [(str []),(.i .i64 0),(.i .i64 0)] [(0,1,(K (str [38,38]))),(1,1,(K (.i .i64 23))),(2,1,(K (.i .i64 2)))]),O 3 (.build [(str []),(.i .i64 0),(.i .i64 0)] [(0,1,(K (str [43]))),(1,1,(K (.i .i64 14))),(2,1,(K (.i .i64 4)))]),O 4 (.build [(str []),(.i .i64 0),(.i .i64 0)] [(0,1,(K (str [45]))),(1,1,(K (.i .i64 15))),(2,1,(K (.i .i64 4)))]),O 5 (.build [(str []),(.i .i64 0),(.i .i64 0)] [(0,1,(K (str [42]))),(1,1,(K (.i .i64 13))),(2,1,(K (.i .i64 5)))]),O 6 (.bsl 52 3 5 [(str []),(.i .i64 0),(.i .i64 0),(str []),(.i .i64 0),(.i .i64 0),(str []),(.i .i64 0),(.i .i64 0),(str []),(.i .i64 0),(.i .i64 0),(str []),(.i .i64 0),(.i .i64 0)] [(0,3,(T 1)),(3,3,(T 2)),(6,3,(T 3)),(9,3,(T 4)),(12,3,(T 5))]),O 0 (.mv (T 6))]) .ret))
theorem L24 : Tr.get dfl tbl (toPa 24) = .mk B24 [(.tmp (toPa 0))]:=by kernel_rfl
/-- chancel/parse.all -/
noncomputable def B54 : AC:=(.seq (.ops [O 1 (.box 35 (T 0)),O 2 (.mv (K (.i .i64 0)))]) (.seq (.seq (.ops [O 7 (.ld true 7 (T 1)),O 8 (.call (toPa 115) [(T 7)]),O 3 (.mv (T 8))]) (.seq (.ops [O 9 (.mv (T 3)),O 10 (.bin .neq .no (T 9) (K (.i .i64 0)))]) (.cond (T 10) (.seq (.ops [O 11 (.mv (T 3)),O 2 (.mv (T 11))]) .ret) .skip))) (.seq (.seq (.ops [O 12 (.fa 6 (T 1)),O 13 (.ld false 1 (T 12)),O 14 (.len false (T 13)),O 15 (.mv (K (.i .i64 0)))]) (.block 0 (.loop (.seq (.ops [O 16 (.bin .lss .no (T 15) (T 14))]) (.seq (.cond (T 16) .skip (.exit 0)) (.seq (.block 1 (.seq (.ops [O 17 (.ixa 7 (T 13) (T 15)),O 18 (.ld true 7 (T 17)),O 5 (.new 35 [(.i .i64 0),(.b false),(.i .i64 0),(str []),(str []),(str []),.ns]),O_ (.st 7 (T 5) (T 18))]) (.seq (.ops [O 19 (.ld true 7 (T 5)),O 20 (.call (toPa 54) [(T 19)]),O 6 (.mv (T 20))]) (.seq (.ops [O 21 (.mv (T 6)),O 22 (.bin .neq .no (T 21) (K (.i .i64 0)))]) (.cond (T 22) (.seq (.ops [O 23 (.mv (T 6)),O 2 (.mv (T 23))]) .ret) .skip))))) (.ops [O 24 (.bin .add .no (T 15) (K (.i .i64 1))),O 15 (.mv (T 24))]))))))) (.seq (.ops [O 2 (.mv (K (.i .i64 0)))]) .ret))))
theorem L54 : Tr.get dfl tbl (toPa 54) = .mk B54 [(.tmp (toPa 2))]:=by kernel_rfl
/-- chancel/parse.open -/
noncomputable def B55 : AC:=(.seq (.ops [O 2 (.mv (K .np)),O 3 (.mv (K (.i .i64 0)))]) (.seq (.ops [O 7 (.mv (T 0)),O 8 (.call (toPa 116) [(T 7)]),O 6 (.mv (T 8)),O 9 (.ext 0 (T 6)),O 10 (.ext 1 (T 6)),O 4 (.mv (T 9)),O 5 (.mv (T 10))]) (.seq (.ops [O 11 (.mv (T 4)),O 12 (.build [.ns,(.i .i64 0),(.b false)] [(0,1,(T 11))]),O 13 (.box 144 (T 12)),O 14 (.mv (T 5)),O 2 (.mv (T 13)),O 3 (.mv (T 14))]) .ret)))
theorem L55 : Tr.get dfl tbl (toPa 55) = .mk B55 [(.tmp (toPa 2)),(.tmp (toPa 3))]:=by kernel_rfl
/-- (*chancel/parse.reader).expr -/
noncomputable def B56 : AC:=(.seq (.ops [O 2 (.new 35 [(.i .i64 0),(.b false),(.i .i64 0),(str []),(str []),(str []),.ns])]) (.seq (.seq (.ops [O 5 (.mv (T 0)),O 6 (.call (toPa 117) [(T 5)]),O 7 (.mv (T 6)),G 8 7 false (.mv (T 0)),G 9 7 false (.call (toPa 71) [(T 8),(K (str [105,102]))]),G 10 7 false (.not (T 9)),O 11 (.pick (T 7) (K (.b true)) (T 10))]) (.cond (T 11) (.seq (.ops [O 12 (.mv (T 0)),O 13 (.call (toPa 118) [(T 12)]),O_ (.st 7 (T 2) (T 13))]) .ret) .skip)) (.seq (.ops [O 14 (.mv (T 0)),O 15 (.call (toPa 56) [(T 14)]),O 3 (.new 35 [(.i .i64 0),(.b false),(.i .i64 0),(str []),(str []),(str []),.ns]),O_ (.st 7 (T 3) (T 15))]) (.seq (.ops [O 16 (.mv (T 0)),O 17 (.mv (T 0)),O 18 (.call (toPa 71) [(T 17),(K (str [116,104,101,110]))]),O 19 (.call (toPa 73) [(T 16),(T 18)])]) (.seq (.ops [O 20 (.mv (T 0)),O 21 (.call (toPa 56) [(T 20)]),O 4 (.new 35 [(.i .i64 0),(.b false),(.i .i64 0),(str []),(str []),(str []),.ns]),O_ (.st 7 (T 4) (T 21))]) (.seq (.ops [O 22 (.mv (T 0)),O 23 (.mv (T 0)),O 24 (.call (toPa 71) [(T 23),(K (str [101,108,115,101]))]),O 25 (.call (toPa 73) [(T 22),(T 24)])]) (.seq (.draw 1 [(O 28 (.mv (T 0)),⟨0,0⟩),(O 29 (.call (toPa 56) [(T 28)]),⟨3,0⟩),(O 26 (.ld true 7 (T 3)),⟨1,0⟩),(O 27 (.ld true 7 (T 4)),⟨1,0⟩),(O 30 (.bsl 35 7 3 [(.i .i64 0),(.b false),(.i .i64 0),(str []),(str []),(str []),.ns,(.i .i64 0),(.b false),(.i .i64 0),(str []),(str []),(str []),.ns,(.i .i64 0),(.b false),(.i .i64 0),(str []),(str []),(str []),.ns] [(0,7,(T 26)),(7,7,(T 27)),(14,7,(T 29))]),⟨2,1⟩),(O 31 (.build [(.i .i64 0),(.b false),(.i .i64 0),(str []),(str []),(str []),.ns] [(0,1,(K (.i .i64 25))),(6,1,(T 30))]),⟨0,1⟩),(O_ (.st 7 (T 2) (T 31)),⟨3,1⟩)]) .ret)))))))
theorem L56 : Tr.get dfl tbl (toPa 56) = .mk B56 [(.cell (toPa 2) true 7)]:=by kernel_rfl
/-- (*chancel/parse.reader).end -/
noncomputable def B57 : AC:=(.seq (.ops [O 2 (.mv (K (.i .i64 0)))]) (.seq (.seq (.draw 0 [(O 3 (.mv (T 0)),⟨0,0⟩),(O 4 (.nilck (T 3)),⟨0,0⟩),(O 5 (.fa 2 (T 4)),⟨0,0⟩),(O 6 (.ld false 1 (T 5)),⟨1,0⟩),(O 7 (.mv (T 6)),⟨0,0⟩),(G 8 7 false (.mv (T 0)),⟨0,0⟩),(G 9 7 false (.nilck (T 8)),⟨0,0⟩),(G 10 7 false (.fa 1 (T 9)),⟨0,0⟩),(G 11 7 false (.ld false 1 (T 10)),⟨1,0⟩),(G 12 7 false (.mv (T 0)),⟨0,0⟩),(G 13 7 false (.nilck (T 12)),⟨0,0⟩),(G 14 7 false (.fa 0 (T 13)),⟨0,0⟩),(G 15 7 false (.ld false 1 (T 14)),⟨1,0⟩),(G 16 7 false (.len false (T 15)),⟨0,0⟩),(G 17 7 false (.bin .lss .no (T 11) (T 16)),⟨0,0⟩),(O 18 (.pick (T 7) (K (.b true)) (T 17)),⟨0,0⟩)]) (.cond (T 18) (.seq (.ops [O 2 (.mv (K (.i .i64 13)))]) .ret) .skip)) (.seq (.ops [O 2 (.mv (K (.i .i64 0)))]) .ret)))
theorem L57 : Tr.get dfl tbl (toPa 57) = .mk B57 [(.tmp (toPa 2))]:=by kernel_rfl
/-- (*chancel/parse.reader).word -/
noncomputable def B71 : AC:=(.seq (.ops [O 4 (.mv (K (.b false)))]) (.seq (.ops [O 5 (.mv (T 0)),O 6 (.mv (T 1)),O 7 (.call (toPa 130) [(T 5),(K (.i .i64 1)),(T 6)]),O 4 (.mv (T 7))]) .ret))
theorem L71 : Tr.get dfl tbl (toPa 71) = .mk B71 [(.tmp (toPa 4))]:=by kernel_rfl
/-- (*chancel/parse.reader).need -/
noncomputable def B73 : AC:=(.seq (.ops [O 4 (.mv (T 1)),O 5 (.not (T 4))]) (.cond (T 5) (.ops [O 6 (.mv (T 0)),O 7 (.nilck (T 6)),O 8 (.fa 2 (T 7)),O_ (.st 1 (T 8) (K (.b true)))]) .skip))
theorem L73 : Tr.get dfl tbl (toPa 73) = .mk B73 []:=by kernel_rfl
/-- chancel/parse.one -/
noncomputable def B115 : AC:=(.seq (.ops [O 1 (.box 35 (T 0)),O 2 (.mv (K (.i .i64 0)))]) (.seq (.ops [O 4 (.fa 0 (T 1)),O 5 (.ld false 1 (T 4)),O 6 (.call (toPa 168) [(T 5)]),O 3 (.mv (T 6))]) (.seq (.block 0 (.seq (.ops [O 8 (.mv (T 3)),O 9 (.bin .lss .no (T 8) (K (.i .i64 (-1)))),O 7 (.mv (T 9))]) (.cond (T 7) (.seq (.ops [O 2 (.mv (K (.i .i64 3)))]) .ret) (.seq (.ops [O 11 (.mv (T 3)),O 12 (.bin .geq .no (T 11) (K (.i .i64 0))),O 13 (.mv (T 12)),G 14 13 true (.fa 6 (T 1)),G 15 13 true (.ld false 1 (T 14)),G 16 13 true (.len false (T 15)),G 17 13 true (.mv (T 3)),G 18 13 true (.bin .neq .no (T 16) (T 17)),O 19 (.pick (T 13) (T 18) (K (.b false))),O 10 (.mv (T 19))]) (.cond (T 10) (.seq (.ops [O 2 (.mv (K (.i .i64 13)))]) .ret) (.seq (.ops [O 21 (.ld true 7 (T 1)),O 22 (.call (toPa 169) [(T 21)]),O 20 (.mv (T 22))]) (.cond (T 20) (.seq (.ops [O 2 (.mv (K (.i .i64 1)))]) .ret) .skip))))))) (.seq (.seq (.ops [O 23 (.fa 0 (T 1)),O 24 (.ld false 1 (T 23))]) (.block 1 (.seq (.seq (.ops [O 26 (.bin .eql .no (T 24) (K (.i .i64 3))),O 25 (.mv (T 26))]) (.cond (T 25) .skip (.ops [O 27 (.bin .eql .no (T 24) (K (.i .i64 10))),O 25 (.mv (T 27))]))) (.cond (T 25) (.seq (.ops [O 28 (.fa 3 (T 1)),O 29 (.ld false 1 (T 28)),O 30 (.build [(.i .i64 0),(.b false),(.i .i64 0),(str []),(str []),(str []),.ns] [(0,1,(K (.i .i64 3))),(3,1,(T 29))]),O 31 (.call (toPa 170) [(T 30)]),O 2 (.mv (T 31))]) .ret) (.seq (.ops [O 33 (.bin .eql .no (T 24) (K (.i .i64 4))),O 32 (.mv (T 33))]) (.cond (T 32) (.seq (.ops [O 34 (.fa 4 (T 1)),O 35 (.ld true 2 (T 34)),O 36 (.build [(.i .i64 0),(.b false),(.i .i64 0),(str []),(str []),(str []),.ns] [(0,1,(K (.i .i64 4))),(4,2,(T 35))]),O 37 (.call (toPa 170) [(T 36)]),O 2 (.mv (T 37))]) .ret) (.seq (.ops [O 39 (.bin .eql .no (T 24) (K (.i .i64 5))),O 38 (.mv (T 39))]) (.cond (T 38) (.seq (.ops [O 40 (.fa 3 (T 1)),O 41 (.ld false 1 (T 40)),O 42 (.bin .neq .no (T 41) (K (str [112,114,105,110,99,105,112,97,108]))),O 43 (.mv (T 42)),G 44 43 true (.fa 3 (T 1)),G 45 43 true (.ld false 1 (T 44)),G 46 43 true (.bin .neq .no (T 45) (K (str [97,99,116,105,111,110]))),O 47 (.pick (T 43) (T 46) (K (.b false))),O 48 (.mv (T 47)),G 49 48 true (.fa 3 (T 1)),G 50 48 true (.ld false 1 (T 49)),G 51 48 true (.bin .neq .no (T 50) (K (str [114,101,115,111,117,114,99,101]))),O 52 (.pick (T 48) (T 51) (K (.b false)))]) (.cond (T 52) (.seq (.ops [O 2 (.mv (K (.i .i64 15)))]) .ret) .skip)) (.seq (.seq (.ops [O 54 (.bin .eql .no (T 24) (K (.i .i64 7))),O 53 (.mv (T 54))]) (.cond (T 53) .skip (.ops [O 55 (.bin .eql .no (T 24) (K (.i .i64 8))),O 53 (.mv (T 55))]))) (.cond (T 53) (.seq (.ops [O 56 (.fa 3 (T 1)),O 57 (.ld false 1 (T 56)),O 58 (.call (toPa 171) [(T 57)]),O 59 (.not (T 58))]) (.cond (T 59) (.seq (.ops [O 2 (.mv (K (.i .i64 15)))]) .ret) .skip)) (.seq (.ops [O 61 (.bin .eql .no (T 24) (K (.i .i64 6))),O 60 (.mv (T 61))]) (.cond (T 60) (.seq (.ops [O 62 (.fa 6 (T 1)),O 63 (.ld false 1 (T 62)),O 64 (.len false (T 63)),O 65 (.bin .gtr .no (T 64) (K (.i .i64 8)))]) (.cond (T 65) (.seq (.ops [O 2 (.mv (K (.i .i64 4)))]) .ret) .skip)) .skip)))))))))))) (.seq (.ops [O 2 (.mv (K (.i .i64 0)))]) .ret)))))
theorem L115 : Tr.get dfl tbl (toPa 115) = .mk B115 [(.tmp (toPa 2))]:=by kernel_rfl
/-- chancel/lex.Tokens -/
noncomputable def B116 : AC:=(.seq (.ops [O 2 (.mv (K .ns)),O 3 (.mv (K (.i .i64 0)))]) (.seq (.seq (.ops [O 10 (.mv (T 0)),O 11 (.len true (T 10)),O 12 (.bin .gtr .no (T 11) (K (.i .i64 600)))]) (.cond (T 12) (.seq (.ops [O 2 (.mv (K .ns)),O 3 (.mv (K (.i .i64 5)))]) .ret) .skip)) (.seq (.seq (.ops [O 13 (.mv (T 0)),O 14 (.call (toPa 172) [(T 13)]),O 4 (.mv (T 14))]) (.seq (.ops [O 15 (.mv (T 4)),O 16 (.bin .neq .no (T 15) (K (.i .i64 0)))]) (.cond (T 16) (.seq (.ops [O 17 (.mv (T 4)),O 2 (.mv (K .ns)),O 3 (.mv (T 17))]) .ret) .skip))) (.seq (.ops [O 5 (.mv (K .ns))]) (.seq (.seq (.ops [O 18 (.mv (T 0)),O 19 (.call (toPa 173) [(T 18)]),O 6 (.mv (T 19))]) (.block 0 (.loop (.seq (.seq (.ops [O 20 (.mv (T 6)),O 21 (.mv (T 0)),O 22 (.len true (T 21)),O 23 (.bin .lss .no (T 20) (T 22))]) (.cond (T 23) .skip (.exit 0))) (.seq (.block 1 (.seq (.ops [O 31 (.mv (T 0)),O 32 (.mv (T 6)),O 33 (.sls (T 31) (some (T 32)) none),O 34 (.call (toPa 174) [(T 33)]),O 30 (.mv (T 34)),O 35 (.ext 0 (T 30)),O 36 (.ext 1 (T 30)),O 37 (.ext 2 (T 30)),O 7 (.new 236 [(.i .i64 0),(str []),(.i .i64 0),(.i .i64 0)]),O_ (.st 4 (T 7) (T 35)),O 8 (.mv (T 36)),O 9 (.mv (T 37))]) (.seq (.seq (.ops [O 38 (.mv (T 9)),O 39 (.bin .neq .no (T 38) (K (.i .i64 0)))]) (.cond (T 39) (.seq (.ops [O 40 (.mv (T 9)),O 2 (.mv (K .ns)),O 3 (.mv (T 40))]) .ret) .skip)) (.seq (.seq (.ops [O 41 (.mv (T 5)),O 42 (.len false (T 41)),O 43 (.bin .geq .no (T 42) (K (.i .i64 200)))]) (.cond (T 43) (.seq (.ops [O 2 (.mv (K .ns)),O 3 (.mv (K (.i .i64 4)))]) .ret) .skip)) (.seq (.ops [O 44 (.mv (T 6)),O 45 (.fa 3 (T 7)),O_ (.st 1 (T 45) (T 44))]) (.seq (.ops [O 46 (.mv (T 5)),O 47 (.ld true 4 (T 7)),O 48 (.bsl 236 4 1 [(.i .i64 0),(str []),(.i .i64 0),(.i .i64 0)] [(0,4,(T 47))]),O 49 (.app 236 4 40 (T 46) (T 48)),O 5 (.mv (T 49))]) (.ops [O 50 (.mv (T 6)),O 51 (.mv (T 8)),O 52 (.bin .add .no (T 50) (T 51)),O 6 (.mv (T 52))]))))))) (.ops [O 24 (.mv (T 6)),O 25 (.mv (T 0)),O 26 (.mv (T 6)),O 27 (.sls (T 25) (some (T 26)) none),O 28 (.call (toPa 173) [(T 27)]),O 29 (.bin .add .no (T 24) (T 28)),O 6 (.mv (T 29))])))))) (.seq (.ops [O 53 (.mv (T 5)),O 2 (.mv (T 53)),O 3 (.mv (K (.i .i64 0)))]) .ret))))))
theorem L116 : Tr.get dfl tbl (toPa 116) = .mk B116 [(.tmp (toPa 2)),(.tmp (toPa 3))]:=by kernel_rfl
/-- (*chancel/parse.reader).paired -/
noncomputable def B117 : AC:=(.seq (.ops [O 2 (.mv (K (.b false)))]) (.seq (.ops [O 4 (.mv (T 0)),O 5 (.call (toPa 175) [(T 4),(K (.i .i64 1))]),O 3 (.new 236 [(.i .i64 0),(str []),(.i .i64 0),(.i .i64 0)]),O_ (.st 4 (T 3) (T 5))]) (.seq (.ops [O 6 (.mv (T 0)),O 7 (.call (toPa 175) [(T 6),(K (.i .i64 0))]),O 8 (.fld false 0 1 (T 7)),O 9 (.bin .eql .no (T 8) (K (.i .i64 1))),O 10 (.mv (T 9)),G 11 10 true (.fa 0 (T 3)),G 12 10 true (.ld false 1 (T 11)),G 13 10 true (.bin .eql .no (T 12) (K (.i .i64 4))),O 14 (.pick (T 10) (T 13) (K (.b false))),O 15 (.mv (T 14)),G 16 15 true (.fa 1 (T 3)),G 17 15 true (.ld false 1 (T 16)),G 18 15 true (.bin .eql .no (T 17) (K (str [58,58]))),O 19 (.pick (T 15) (T 18) (K (.b false))),O 2 (.mv (T 19))]) .ret)))
theorem L117 : Tr.get dfl tbl (toPa 117) = .mk B117 [(.tmp (toPa 2))]:=by kernel_rfl
/-- (*chancel/parse.reader).or -/
noncomputable def B118 : AC:=(.seq (.ops [O 1 (.box 106 (T 0)),O 2 (.new 35 [(.i .i64 0),(.b false),(.i .i64 0),(str []),(str []),(str []),.ns])]) (.seq (.ops [O 3 (.ld false 1 (T 1)),O 4 (.ld false 1 (T 1)),O 5 (.mkfn (.func 177) [(T 4)] []),O 6 (.mkfn (.func 178) [] [(T 1)]),O 7 (.call (toPa 176) [(T 3),(T 5),(T 6)]),O_ (.st 7 (T 2) (T 7))]) .ret))
theorem L118 : Tr.get dfl tbl (toPa 118) = .mk B118 [(.cell (toPa 2) true 7)]:=by kernel_rfl
/-- (*chancel/parse.reader).sign -/
noncomputable def B125 : AC:=(.seq (.ops [O 4 (.mv (K (.b false)))]) (.seq (.ops [O 5 (.mv (T 0)),O 6 (.mv (T 1)),O 7 (.call (toPa 130) [(T 5),(K (.i .i64 4)),(T 6)]),O 4 (.mv (T 7))]) .ret))
theorem L125 : Tr.get dfl tbl (toPa 125) = .mk B125 [(.tmp (toPa 4))]:=by kernel_rfl
/-- (*chancel/parse.reader).is -/
noncomputable def B130 : AC:=(.seq (.ops [O 6 (.mv (K (.b false)))]) (.seq (.ops [O 8 (.mv (T 0)),O 9 (.call (toPa 175) [(T 8),(K (.i .i64 0))]),O 7 (.new 236 [(.i .i64 0),(str []),(.i .i64 0),(.i .i64 0)]),O_ (.st 4 (T 7) (T 9))]) (.seq (.seq (.ops [O 10 (.fa 0 (T 7)),O 11 (.ld false 1 (T 10)),O 12 (.mv (T 1)),O 13 (.bin .neq .no (T 11) (T 12)),O 14 (.mv (T 13)),G 15 14 false (.fa 1 (T 7)),G 16 14 false (.ld false 1 (T 15)),G 17 14 false (.mv (T 2)),G 18 14 false (.bin .neq .no (T 16) (T 17)),O 19 (.pick (T 14) (K (.b true)) (T 18))]) (.cond (T 19) (.seq (.ops [O 6 (.mv (K (.b false)))]) .ret) .skip)) (.seq (.ops [O 20 (.mv (T 0)),O 21 (.nilck (T 20)),O 22 (.fa 1 (T 21)),O 23 (.ld false 1 (T 22)),O 24 (.bin .add .no (T 23) (K (.i .i64 1))),O 25 (.nilck (T 20)),O 26 (.fa 1 (T 25)),O_ (.st 1 (T 26) (T 24))]) (.seq (.ops [O 6 (.mv (K (.b true)))]) .ret)))))
theorem L130 : Tr.get dfl tbl (toPa 130) = .mk B130 [(.tmp (toPa 6))]:=by kernel_rfl
/-- (*chancel/parse.reader).name -/
noncomputable def B131 : AC:=(.seq (.ops [O 2 (.mv (K (str [])))]) (.seq (.ops [O 3 (.mv (T 0)),O 4 (.call (toPa 187) [(T 3),(K (.i .i64 1))]),O 5 (.fld false 1 1 (T 4)),O 2 (.mv (T 5))]) .ret))
theorem L131 : Tr.get dfl tbl (toPa 131) = .mk B131 [(.tmp (toPa 2))]:=by kernel_rfl
/-- (*chancel/parse.reader).uid -/
noncomputable def B151 : AC:=(.seq (.ops [O 2 (.new 32 [(str []),(str [])])]) (.seq (.ops [O 4 (.mv (T 0)),O 5 (.call (toPa 131) [(T 4)]),O 6 (.build [(str []),(str [])] [(0,1,(T 5))]),O 3 (.new 32 [(str []),(str [])]),O_ (.st 2 (T 3) (T 6))]) (.seq (.ops [O 7 (.mv (T 0)),O 8 (.mv (T 0)),O 9 (.call (toPa 125) [(T 8),(K (str [58,58]))]),O 10 (.call (toPa 73) [(T 7),(T 9)])]) (.seq (.ops [O 11 (.mv (T 0)),O 12 (.call (toPa 202) [(T 11)]),O 13 (.fa 1 (T 3)),O_ (.st 1 (T 13) (T 12))]) (.seq (.seq (.ops [O 14 (.mv (T 0)),O 15 (.nilck (T 14)),O 16 (.fa 2 (T 15)),O 17 (.ld false 1 (T 16))]) (.cond (T 17) (.seq (.ops [O 18 (.build [(str []),(str [])] []),O_ (.st 2 (T 2) (T 18))]) .ret) .skip)) (.seq (.ops [O 19 (.ld true 2 (T 3)),O_ (.st 2 (T 2) (T 19))]) .ret))))))
theorem L151 : Tr.get dfl tbl (toPa 151) = .mk B151 [(.cell (toPa 2) true 2)]:=by kernel_rfl
/-- chancel/parse.kids -/
noncomputable def B168 : AC:=(.seq (.ops [O 2 (.mv (K (.i .i64 0)))]) (.seq (.block 0 (.seq (.ops [O 4 (.mv (T 0)),O 5 (.bin .eql .no (T 4) (K (.i .i64 6))),O 3 (.mv (T 5))]) (.cond (T 3) (.seq (.ops [O 2 (.mv (K (.i .i64 (-1))))]) .ret) (.seq (.ops [O 7 (.mv (T 0)),O 8 (.bin .geq .no (T 7) (K (.i .i64 1))),O 9 (.mv (T 8)),G 10 9 true (.mv (T 0)),G 11 9 true (.bin .leq .no (T 10) (K (.i .i64 5))),O 12 (.pick (T 9) (T 11) (K (.b false))),O 6 (.mv (T 12))]) (.cond (T 6) (.seq (.ops [O 2 (.mv (K (.i .i64 0)))]) .ret) (.seq (.ops [O 14 (.mv (T 0)),O 15 (.bin .eql .no (T 14) (K (.i .i64 7))),O 16 (.mv (T 15)),G 17 16 false (.mv (T 0)),G 18 16 false (.bin .eql .no (T 17) (K (.i .i64 8))),O 19 (.pick (T 16) (K (.b true)) (T 18)),O 20 (.mv (T 19)),G 21 20 false (.mv (T 0)),G 22 20 false (.bin .eql .no (T 21) (K (.i .i64 10))),O 23 (.pick (T 20) (K (.b true)) (T 22)),O 24 (.mv (T 23)),G 25 24 false (.mv (T 0)),G 26 24 false (.bin .eql .no (T 25) (K (.i .i64 11))),O 27 (.pick (T 24) (K (.b true)) (T 26)),O 28 (.mv (T 27)),G 29 28 false (.mv (T 0)),G 30 28 false (.bin .eql .no (T 29) (K (.i .i64 12))),O 31 (.pick (T 28) (K (.b true)) (T 30)),O 13 (.mv (T 31))]) (.cond (T 13) (.seq (.ops [O 2 (.mv (K (.i .i64 1)))]) .ret) (.seq (.ops [O 33 (.mv (T 0)),O 34 (.bin .eql .no (T 33) (K (.i .i64 9))),O 35 (.mv (T 34)),G 36 35 false (.mv (T 0)),G 37 35 false (.bin .geq .no (T 36) (K (.i .i64 13))),G 38 35 false (.mv (T 37)),G 39 38 true (.mv (T 0)),G 40 38 true (.bin .leq .no (T 39) (K (.i .i64 24))),G 41 35 false (.pick (T 38) (T 40) (K (.b false))),O 42 (.pick (T 35) (K (.b true)) (T 41)),O 32 (.mv (T 42))]) (.cond (T 32) (.seq (.ops [O 2 (.mv (K (.i .i64 2)))]) .ret) (.seq (.ops [O 44 (.mv (T 0)),O 45 (.bin .eql .no (T 44) (K (.i .i64 25))),O 43 (.mv (T 45))]) (.cond (T 43) (.seq (.ops [O 2 (.mv (K (.i .i64 3)))]) .ret) .skip))))))))))) (.seq (.ops [O 2 (.mv (K (.i .i64 (-2))))]) .ret)))
theorem L168 : Tr.get dfl tbl (toPa 168) = .mk B168 [(.tmp (toPa 2))]:=by kernel_rfl
/-- chancel/parse.extra -/
noncomputable def B169 : AC:=(.seq (.ops [O 1 (.box 35 (T 0)),O 2 (.mv (K (.b false)))]) (.seq (.seq (.ops [O 3 (.fa 0 (T 1)),O 4 (.ld false 1 (T 3))]) (.block 0 (.seq (.block 5 (.block 4 (.seq (.block 3 (.seq (.block 2 (.seq (.block 1 (.seq (.seq (.seq (.ops [O 6 (.bin .eql .no (T 4) (K (.i .i64 1))),O 5 (.mv (T 6))]) (.cond (T 5) (.exit 1) .skip)) (.seq (.seq (.ops [O 8 (.bin .eql .no (T 4) (K (.i .i64 2))),O 7 (.mv (T 8))]) (.cond (T 7) (.exit 2) .skip)) (.seq (.seq (.ops [O 10 (.bin .eql .no (T 4) (K (.i .i64 4))),O 9 (.mv (T 10))]) (.cond (T 9) (.exit 3) .skip)) (.seq (.seq (.seq (.ops [O 12 (.bin .eql .no (T 4) (K (.i .i64 3))),O 11 (.mv (T 12))]) (.cond (T 11) .skip (.seq (.ops [O 13 (.bin .eql .no (T 4) (K (.i .i64 5))),O 11 (.mv (T 13))]) (.cond (T 11) .skip (.ops [O 14 (.bin .eql .no (T 4) (K (.i .i64 7))),O 11 (.mv (T 14))]))))) (.cond (T 11) (.exit 4) .skip)) (.seq (.seq (.ops [O 16 (.bin .eql .no (T 4) (K (.i .i64 8))),O 15 (.mv (T 16))]) (.cond (T 15) .skip (.ops [O 17 (.bin .eql .no (T 4) (K (.i .i64 10))),O 15 (.mv (T 17))]))) (.cond (T 15) (.exit 5) .skip)))))) (.exit 0))) (.seq (.ops [O 18 (.fa 1 (T 1)),O_ (.st 1 (T 18) (K (.b false)))]) (.exit 0)))) (.seq (.seq (.seq (.ops [O 19 (.fa 2 (T 1)),O 20 (.ld false 1 (T 19)),O 21 (.bin .lss .no (T 20) (K (.i .i64 0)))]) (.cond (T 21) (.seq (.ops [O 2 (.mv (K (.b true)))]) .ret) .skip)) (.ops [O 22 (.fa 2 (T 1)),O_ (.st 1 (T 22) (K (.i .i64 0)))])) (.exit 0)))) (.seq (.ops [O 23 (.build [(str []),(str [])] []),O 24 (.fa 4 (T 1)),O_ (.st 2 (T 24) (T 23))]) (.exit 0))))) (.seq (.ops [O 25 (.fa 3 (T 1)),O_ (.st 1 (T 25) (K (str [])))]) (.exit 0))))) (.seq (.ops [O 26 (.fa 1 (T 1)),O 27 (.ld false 1 (T 26)),O 28 (.mv (T 27)),G 29 28 false (.fa 2 (T 1)),G 30 28 false (.ld false 1 (T 29)),G 31 28 false (.bin .neq .no (T 30) (K (.i .i64 0))),O 32 (.pick (T 28) (K (.b true)) (T 31)),O 33 (.mv (T 32)),G 34 33 false (.fa 3 (T 1)),G 35 33 false (.ld false 1 (T 34)),G 36 33 false (.bin .neq .no (T 35) (K (str []))),O 37 (.pick (T 33) (K (.b true)) (T 36)),O 38 (.mv (T 37)),G 39 38 false (.fa 4 (T 1)),G 40 38 false (.ld true 2 (T 39)),G 41 38 false (.build [(str []),(str [])] []),G 42 38 false (.bin .neq (.flat [2,2]) (T 40) (T 41)),O 43 (.pick (T 38) (K (.b true)) (T 42)),O 2 (.mv (T 43))]) .ret)))
theorem L169 : Tr.get dfl tbl (toPa 169) = .mk B169 [(.tmp (toPa 2))]:=by kernel_rfl
/-- chancel/text.Check -/
noncomputable def B172 : AC:=(.seq (.ops [O 2 (.mv (K (.i .i64 0)))]) (.seq (.seq (.ops [O 7 (.mv (T 0)),O 8 (.rng (T 7))]) (.block 0 (.loop (.seq (.ops [O 9 (.nxt (T 8)),O 10 (.ext 0 (T 9))]) (.seq (.cond (T 10) .skip (.exit 0)) (.block 1 (.seq (.ops [O 11 (.ext 1 (T 9)),O 12 (.ext 2 (T 9)),O 3 (.mv (T 11)),O 4 (.mv (T 12))]) (.seq (.ops [O 14 (.mv (T 0)),O 15 (.mv (T 3)),O 16 (.sls (T 14) (some (T 15)) none),O 17 (.call (toPa 222) [(T 16)]),O 13 (.mv (T 17)),O 18 (.ext 0 (T 13)),O 19 (.ext 1 (T 13)),O 5 (.mv (T 18)),O 6 (.mv (T 19))]) (.seq (.ops [O 20 (.mv (T 4)),O 21 (.bin .eql .no (T 20) (K (.i .i32 65533))),O 22 (.mv (T 21)),G 23 22 true (.mv (T 6)),G 24 22 true (.bin .leq .no (T 23) (K (.i .i64 1))),O 25 (.pick (T 22) (T 24) (K (.b false)))]) (.cond (T 25) (.seq (.ops [O 2 (.mv (K (.i .i64 11)))]) .ret) .skip)))))))))) (.seq (.ops [O 2 (.mv (K (.i .i64 0)))]) .ret)))
theorem L172 : Tr.get dfl tbl (toPa 172) = .mk B172 [(.tmp (toPa 2))]:=by kernel_rfl
/-- chancel/lex.over -/
noncomputable def B173 : AC:=(.seq (.ops [O 2 (.mv (K (.i .i64 0)))]) (.seq (.ops [O 3 (.mv (K (.i .i64 0)))]) (.seq (.block 0 (.loop (.seq (.seq (.ops [O 5 (.mv (T 3)),O 6 (.mv (T 0)),O 7 (.len true (T 6)),O 8 (.bin .lss .no (T 5) (T 7))]) (.cond (T 8) .skip (.exit 0))) (.block 1 (.block 2 (.seq (.ops [O 11 (.mv (T 0)),O 12 (.mv (T 3)),O 13 (.sls (T 11) (some (T 12)) none),O 14 (.call (toPa 223) [(T 13),(K (str [47,47]))]),O 10 (.mv (T 14))]) (.cond (T 10) (.seq (.ops [O 15 (.mv (T 0)),O 16 (.mv (T 3)),O 17 (.sls (T 15) (some (T 16)) none),O 18 (.call (toPa 224) [(T 17),(K (str [10]))]),O 4 (.mv (T 18))]) (.seq (.seq (.ops [O 19 (.mv (T 4)),O 20 (.bin .lss .no (T 19) (K (.i .i64 0)))]) (.cond (T 20) (.seq (.ops [O 21 (.mv (T 0)),O 22 (.len true (T 21)),O 2 (.mv (T 22))]) .ret) .skip)) (.ops [O 23 (.mv (T 3)),O 24 (.mv (T 4)),O 25 (.bin .add .no (T 23) (T 24)),O 3 (.mv (T 25))]))) (.seq (.ops [O 27 (.mv (T 0)),O 28 (.mv (T 3)),O 29 (.mv (T 3)),O 30 (.bin .add .no (T 29) (K (.i .i64 1))),O 31 (.sls (T 27) (some (T 28)) (some (T 30))),O 32 (.call (toPa 225) [(K (str [32,9,10,13])),(T 31)]),O 26 (.mv (T 32))]) (.cond (T 26) (.ops [O 33 (.mv (T 3)),O 34 (.bin .add .no (T 33) (K (.i .i64 1))),O 3 (.mv (T 34))]) (.seq (.ops [O 9 (.mv (T 3)),O 2 (.mv (T 9))]) .ret)))))))))) (.seq (.ops [O 35 (.mv (T 3)),O 2 (.mv (T 35))]) .ret))))
theorem L173 : Tr.get dfl tbl (toPa 173) = .mk B173 [(.tmp (toPa 2))]:=by kernel_rfl
/-- chancel/lex.next -/
noncomputable def B174 : AC:=(.seq (.ops [O 2 (.new 236 [(.i .i64 0),(str []),(.i .i64 0),(.i .i64 0)]),O 3 (.mv (K (.i .i64 0))),O 4 (.mv (K (.i .i64 0)))]) (.seq (.seq (.ops [O 6 (.mv (T 0)),O 7 (.ixs (T 6) (K (.i .i64 0))),O 5 (.mv (T 7))]) (.block 0 (.seq (.ops [O 9 (.mv (T 5)),O 10 (.call (toPa 220) [(T 9)]),O 8 (.mv (T 10))]) (.cond (T 8) (.seq (.ops [O 11 (.mv (T 0)),O 12 (.call (toPa 226) [(T 11)]),O 13 (.ext 0 (T 12)),O 14 (.ext 1 (T 12)),O 15 (.ext 2 (T 12)),O_ (.st 4 (T 2) (T 13)),O 3 (.mv (T 14)),O 4 (.mv (T 15))]) .ret) (.seq (.ops [O 17 (.mv (T 5)),O 18 (.call (toPa 221) [(T 17)]),O 16 (.mv (T 18))]) (.cond (T 16) (.seq (.ops [O 19 (.mv (T 0)),O 20 (.call (toPa 227) [(T 19)]),O 21 (.ext 0 (T 20)),O 22 (.ext 1 (T 20)),O 23 (.ext 2 (T 20)),O_ (.st 4 (T 2) (T 21)),O 3 (.mv (T 22)),O 4 (.mv (T 23))]) .ret) (.seq (.ops [O 25 (.mv (T 5)),O 26 (.bin .eql .no (T 25) (K (.i .u8 34))),O 24 (.mv (T 26))]) (.cond (T 24) (.seq (.ops [O 27 (.mv (T 0)),O 28 (.call (toPa 228) [(T 27)]),O 29 (.ext 0 (T 28)),O 30 (.ext 1 (T 28)),O 31 (.ext 2 (T 28)),O_ (.st 4 (T 2) (T 29)),O 3 (.mv (T 30)),O 4 (.mv (T 31))]) .ret) .skip)))))))) (.seq (.ops [O 32 (.mv (T 0)),O 33 (.call (toPa 229) [(T 32)]),O 34 (.ext 0 (T 33)),O 35 (.ext 1 (T 33)),O 36 (.ext 2 (T 33)),O_ (.st 4 (T 2) (T 34)),O 3 (.mv (T 35)),O 4 (.mv (T 36))]) .ret)))
theorem L174 : Tr.get dfl tbl (toPa 174) = .mk B174 [(.cell (toPa 2) true 4),(.tmp (toPa 3)),(.tmp (toPa 4))]:=by kernel_rfl
/-- (*chancel/parse.reader).peek -/
noncomputable def B175 : AC:=(.seq (.ops [O 4 (.new 236 [(.i .i64 0),(str []),(.i .i64 0),(.i .i64 0)])]) (.seq (.seq (.draw 0 [(O 5 (.mv (T 0)),⟨0,0⟩),(O 6 (.nilck (T 5)),⟨0,0⟩),(O 7 (.fa 2 (T 6)),⟨0,0⟩),(O 8 (.ld false 1 (T 7)),⟨1,0⟩),(O 9 (.mv (T 8)),⟨0,0⟩),(G 10 9 false (.mv (T 0)),⟨0,0⟩),(G 11 9 false (.nilck (T 10)),⟨0,0⟩),(G 12 9 false (.fa 1 (T 11)),⟨0,0⟩),(G 13 9 false (.ld false 1 (T 12)),⟨1,0⟩),(G 14 9 false (.mv (T 1)),⟨0,0⟩),(G 15 9 false (.bin .add .no (T 13) (T 14)),⟨0,0⟩),(G 16 9 false (.mv (T 0)),⟨0,0⟩),(G 17 9 false (.nilck (T 16)),⟨0,0⟩),(G 18 9 false (.fa 0 (T 17)),⟨0,0⟩),(G 19 9 false (.ld false 1 (T 18)),⟨1,0⟩),(G 20 9 false (.len false (T 19)),⟨0,0⟩),(G 21 9 false (.bin .geq .no (T 15) (T 20)),⟨0,0⟩),(O 22 (.pick (T 9) (K (.b true)) (T 21)),⟨0,0⟩)]) (.cond (T 22) (.seq (.ops [O 23 (.build [(.i .i64 0),(str []),(.i .i64 0),(.i .i64 0)] []),O_ (.st 4 (T 4) (T 23))]) .ret) .skip)) (.seq (.draw 0 [(O 24 (.mv (T 0)),⟨0,0⟩),(O 25 (.nilck (T 24)),⟨0,0⟩),(O 26 (.fa 0 (T 25)),⟨0,0⟩),(O 27 (.ld false 1 (T 26)),⟨1,0⟩),(O 28 (.mv (T 0)),⟨0,0⟩),(O 29 (.nilck (T 28)),⟨0,0⟩),(O 30 (.fa 1 (T 29)),⟨0,0⟩),(O 31 (.ld false 1 (T 30)),⟨1,0⟩),(O 32 (.mv (T 1)),⟨0,0⟩),(O 33 (.bin .add .no (T 31) (T 32)),⟨0,0⟩),(O 34 (.ixa 4 (T 27) (T 33)),⟨0,0⟩),(O 35 (.ld true 4 (T 34)),⟨1,0⟩),(O_ (.st 4 (T 4) (T 35)),⟨3,0⟩)]) .ret)))
theorem L175 : Tr.get dfl tbl (toPa 175) = .mk B175 [(.cell (toPa 4) true 4)]:=by kernel_rfl
/-- (*chancel/parse.reader).left -/
noncomputable def B176 : AC:=(.seq (.ops [O 6 (.new 35 [(.i .i64 0),(.b false),(.i .i64 0),(str []),(str []),(str []),.ns])]) (.seq (.ops [O 9 (.mv (T 1)),O 10 (.callv (T 9) []),O 7 (.new 35 [(.i .i64 0),(.b false),(.i .i64 0),(str []),(str []),(str []),.ns]),O_ (.st 7 (T 7) (T 10))]) (.seq (.seq (.ops [O 11 (.mv (T 2)),O 12 (.callv (T 11) []),O 8 (.mv (T 12))]) (.block 0 (.loop (.seq (.seq (.ops [O 13 (.mv (T 8)),O 14 (.bin .neq .no (T 13) (K (.i .i64 0)))]) (.cond (T 14) .skip (.exit 0))) (.seq (.block 1 (.draw 1 [(O 19 (.mv (T 1)),⟨0,0⟩),(O 20 (.callv (T 19) []),⟨3,0⟩),(O 17 (.mv (T 8)),⟨0,0⟩),(O 18 (.ld true 7 (T 7)),⟨1,0⟩),(O 21 (.bsl 35 7 2 [(.i .i64 0),(.b false),(.i .i64 0),(str []),(str []),(str []),.ns,(.i .i64 0),(.b false),(.i .i64 0),(str []),(str []),(str []),.ns] [(0,7,(T 18)),(7,7,(T 20))]),⟨2,1⟩),(O 22 (.build [(.i .i64 0),(.b false),(.i .i64 0),(str []),(str []),(str []),.ns] [(0,1,(T 17)),(6,1,(T 21))]),⟨0,1⟩),(O_ (.st 7 (T 7) (T 22)),⟨3,1⟩)])) (.ops [O 15 (.mv (T 2)),O 16 (.callv (T 15) []),O 8 (.mv (T 16))])))))) (.seq (.ops [O 23 (.ld true 7 (T 7)),O_ (.st 7 (T 6) (T 23))]) .ret))))
theorem L176 : Tr.get dfl tbl (toPa 176) = .mk B176 [(.cell (toPa 6) true 7)]:=by kernel_rfl
/-- (*chancel/parse.reader).and -/
noncomputable def B177 : AC:=(.seq (.ops [O 1 (.box 106 (T 0)),O 2 (.new 35 [(.i .i64 0),(.b false),(.i .i64 0),(str []),(str []),(str []),.ns])]) (.seq (.ops [O 3 (.ld false 1 (T 1)),O 4 (.ld false 1 (T 1)),O 5 (.mkfn (.func 230) [(T 4)] []),O 6 (.mkfn (.func 231) [] [(T 1)]),O 7 (.call (toPa 176) [(T 3),(T 5),(T 6)]),O_ (.st 7 (T 2) (T 7))]) .ret))
theorem L177 : Tr.get dfl tbl (toPa 177) = .mk B177 [(.cell (toPa 2) true 7)]:=by kernel_rfl
/-- (*chancel/parse.reader).or$1 -/
noncomputable def B178 : AC:=(.seq (.ops [O 1 (.mv (K (.i .i64 0)))]) (.seq (.ops [O 2 (.ld false 1 (T 0)),O 3 (.call (toPa 179) [(T 2),(K (str [124,124])),(K (.i .i64 24))]),O 1 (.mv (T 3))]) .ret))
theorem L178 : Tr.get dfl tbl (toPa 178) = .mk B178 [(.tmp (toPa 1))]:=by kernel_rfl
/-- (*chancel/parse.reader).of -/
noncomputable def B179 : AC:=(.seq (.ops [O 6 (.mv (K (.i .i64 0)))]) (.seq (.seq (.ops [O 7 (.mv (T 0)),O 8 (.mv (T 1)),O 9 (.call (toPa 125) [(T 7),(T 8)])]) (.cond (T 9) (.seq (.ops [O 10 (.mv (T 2)),O 6 (.mv (T 10))]) .ret) .skip)) (.seq (.ops [O 6 (.mv (K (.i .i64 0)))]) .ret)))
theorem L179 : Tr.get dfl tbl (toPa 179) = .mk B179 [(.tmp (toPa 6))]:=by kernel_rfl
/-- (*chancel/parse.reader).any -/
noncomputable def B187 : AC:=(.seq (.ops [O 4 (.new 236 [(.i .i64 0),(str []),(.i .i64 0),(.i .i64 0)])]) (.seq (.ops [O 6 (.mv (T 0)),O 7 (.call (toPa 175) [(T 6),(K (.i .i64 0))]),O 5 (.new 236 [(.i .i64 0),(str []),(.i .i64 0),(.i .i64 0)]),O_ (.st 4 (T 5) (T 7))]) (.seq (.ops [O 8 (.mv (T 0)),O 9 (.fa 0 (T 5)),O 10 (.ld false 1 (T 9)),O 11 (.mv (T 1)),O 12 (.bin .eql .no (T 10) (T 11)),O 13 (.call (toPa 73) [(T 8),(T 12)])]) (.seq (.seq (.ops [O 14 (.mv (T 0)),O 15 (.nilck (T 14)),O 16 (.fa 2 (T 15)),O 17 (.ld false 1 (T 16))]) (.cond (T 17) (.seq (.ops [O 18 (.build [(.i .i64 0),(str []),(.i .i64 0),(.i .i64 0)] []),O_ (.st 4 (T 4) (T 18))]) .ret) .skip)) (.seq (.ops [O 19 (.mv (T 0)),O 20 (.nilck (T 19)),O 21 (.fa 1 (T 20)),O 22 (.ld false 1 (T 21)),O 23 (.bin .add .no (T 22) (K (.i .i64 1))),O 24 (.nilck (T 19)),O 25 (.fa 1 (T 24)),O_ (.st 1 (T 25) (T 23))]) (.seq (.ops [O 26 (.ld true 4 (T 5)),O_ (.st 4 (T 4) (T 26))]) .ret))))))
theorem L187 : Tr.get dfl tbl (toPa 187) = .mk B187 [(.cell (toPa 4) true 4)]:=by kernel_rfl
/-- (*chancel/parse.reader).str -/
noncomputable def B202 : AC:=(.seq (.ops [O 2 (.mv (K (str [])))]) (.seq (.ops [O 3 (.mv (T 0)),O 4 (.call (toPa 187) [(T 3),(K (.i .i64 3))]),O 5 (.fld false 1 1 (T 4)),O 2 (.mv (T 5))]) .ret))
theorem L202 : Tr.get dfl tbl (toPa 202) = .mk B202 [(.tmp (toPa 2))]:=by kernel_rfl
/-- chancel/lex.letter -/
noncomputable def B220 : AC:=(.seq (.ops [O 2 (.mv (K (.b false)))]) (.seq (.ops [O 3 (.mv (T 0)),O 4 (.bin .geq .no (T 3) (K (.i .u8 97))),O 5 (.mv (T 4)),G 6 5 true (.mv (T 0)),G 7 5 true (.bin .leq .no (T 6) (K (.i .u8 122))),O 8 (.pick (T 5) (T 7) (K (.b false))),O 9 (.mv (T 8)),G 10 9 false (.mv (T 0)),G 11 9 false (.bin .geq .no (T 10) (K (.i .u8 65))),G 12 9 false (.mv (T 11)),G 13 12 true (.mv (T 0)),G 14 12 true (.bin .leq .no (T 13) (K (.i .u8 90))),G 15 9 false (.pick (T 12) (T 14) (K (.b false))),O 16 (.pick (T 9) (K (.b true)) (T 15)),O 17 (.mv (T 16)),G 18 17 false (.mv (T 0)),G 19 17 false (.bin .eql .no (T 18) (K (.i .u8 95))),O 20 (.pick (T 17) (K (.b true)) (T 19)),O 2 (.mv (T 20))]) .ret))
theorem L220 : Tr.get dfl tbl (toPa 220) = .mk B220 [(.tmp (toPa 2))]:=by kernel_rfl
/-- chancel/lex.digit -/
noncomputable def B221 : AC:=(.seq (.ops [O 2 (.mv (K (.b false)))]) (.seq (.ops [O 3 (.mv (T 0)),O 4 (.bin .geq .no (T 3) (K (.i .u8 48))),O 5 (.mv (T 4)),G 6 5 true (.mv (T 0)),G 7 5 true (.bin .leq .no (T 6) (K (.i .u8 57))),O 8 (.pick (T 5) (T 7) (K (.b false))),O 2 (.mv (T 8))]) .ret))
theorem L221 : Tr.get dfl tbl (toPa 221) = .mk B221 [(.tmp (toPa 2))]:=by kernel_rfl
/-- unicode/utf8.DecodeRuneInString -/
noncomputable def B222 : AC:=(.seq (.ops [O 2 (.mv (K (.i .i32 0))),O 3 (.mv (K (.i .i64 0)))]) (.seq (.seq (.ops [O 4 (.mv (T 0)),O 5 (.bin .neq .no (T 4) (K (str []))),O 6 (.mv (T 5)),G 7 6 true (.mv (T 0)),G 8 6 true (.ixs (T 7) (K (.i .i64 0))),G 9 6 true (.bin .lss .no (T 8) (K (.i .u8 128))),O 10 (.pick (T 6) (T 9) (K (.b false)))]) (.cond (T 10) (.seq (.ops [O 11 (.mv (T 0)),O 12 (.ixs (T 11) (K (.i .i64 0))),O 13 (.cvi .i32 (T 12)),O 2 (.mv (T 13)),O 3 (.mv (K (.i .i64 1)))]) .ret) (.ops [O 15 (.mv (T 0)),O 16 (.call (toPa 260) [(T 15)]),O 14 (.mv (T 16)),O 17 (.ext 0 (T 14)),O 18 (.ext 1 (T 14)),O 2 (.mv (T 17)),O 3 (.mv (T 18))]))) .ret))
theorem L222 : Tr.get dfl tbl (toPa 222) = .mk B222 [(.tmp (toPa 2)),(.tmp (toPa 3))]:=by kernel_rfl
/-- strings.HasPrefix -/
noncomputable def B223 : AC:=(.seq (.ops [O 4 (.mv (K (.b false)))]) (.seq (.ops [O 5 (.mv (T 0)),O 6 (.mv (T 1)),O 7 (.call (toPa 261) [(T 5),(T 6)]),O 4 (.mv (T 7))]) .ret))
theorem L223 : Tr.get dfl tbl (toPa 223) = .mk B223 [(.tmp (toPa 4))]:=by kernel_rfl
/-- strings.Index -/
noncomputable def B224 : AC:=(.seq (.ops [O 4 (.mv (K (.i .i64 0)))]) (.seq (.ops [O 5 (.mv (T 0)),O 6 (.mv (T 1)),O 7 (.call (toPa 262) [(T 5),(T 6)]),O 4 (.mv (T 7))]) .ret))
theorem L224 : Tr.get dfl tbl (toPa 224) = .mk B224 [(.tmp (toPa 4))]:=by kernel_rfl
/-- strings.Contains -/
noncomputable def B225 : AC:=(.seq (.ops [O 4 (.mv (K (.b false)))]) (.seq (.ops [O 5 (.mv (T 0)),O 6 (.mv (T 1)),O 7 (.call (toPa 224) [(T 5),(T 6)]),O 8 (.bin .geq .no (T 7) (K (.i .i64 0))),O 4 (.mv (T 8))]) .ret))
theorem L225 : Tr.get dfl tbl (toPa 225) = .mk B225 [(.tmp (toPa 4))]:=by kernel_rfl
/-- chancel/lex.name -/
noncomputable def B226 : AC:=(.seq (.ops [O 2 (.new 236 [(.i .i64 0),(str []),(.i .i64 0),(.i .i64 0)]),O 3 (.mv (K (.i .i64 0))),O 4 (.mv (K (.i .i64 0)))]) (.seq (.ops [O 6 (.mv (T 0)),O 7 (.call (toPa 263) [(T 6),(K (.fn (.func 264) [] []))]),O 5 (.mv (T 7))]) (.seq (.seq (.ops [O 8 (.mv (T 5)),O 9 (.bin .gtr .no (T 8) (K (.i .i64 12)))]) (.cond (T 9) (.seq (.ops [O 10 (.build [(.i .i64 0),(str []),(.i .i64 0),(.i .i64 0)] []),O_ (.st 4 (T 2) (T 10)),O 3 (.mv (K (.i .i64 0))),O 4 (.mv (K (.i .i64 5)))]) .ret) .skip)) (.seq (.ops [O 11 (.mv (T 0)),O 12 (.mv (T 5)),O 13 (.sls (T 11) none (some (T 12))),O 14 (.build [(.i .i64 0),(str []),(.i .i64 0),(.i .i64 0)] [(0,1,(K (.i .i64 1))),(1,1,(T 13))]),O 15 (.mv (T 5)),O_ (.st 4 (T 2) (T 14)),O 3 (.mv (T 15)),O 4 (.mv (K (.i .i64 0)))]) .ret))))
theorem L226 : Tr.get dfl tbl (toPa 226) = .mk B226 [(.cell (toPa 2) true 4),(.tmp (toPa 3)),(.tmp (toPa 4))]:=by kernel_rfl
/-- chancel/lex.long -/
noncomputable def B227 : AC:=(.seq (.ops [O 2 (.new 236 [(.i .i64 0),(str []),(.i .i64 0),(.i .i64 0)]),O 3 (.mv (K (.i .i64 0))),O 4 (.mv (K (.i .i64 0)))]) (.seq (.ops [O 8 (.mv (T 0)),O 9 (.call (toPa 263) [(T 8),(K (.fn (.func 221) [] []))]),O 5 (.mv (T 9))]) (.seq (.ops [O 11 (.mv (T 0)),O 12 (.mv (T 5)),O 13 (.sls (T 11) none (some (T 12))),O 14 (.call (toPa 265) [(T 13)]),O 10 (.mv (T 14)),O 15 (.ext 0 (T 10)),O 16 (.ext 1 (T 10)),O 6 (.mv (T 15)),O 7 (.mv (T 16))]) (.seq (.ops [O 17 (.mv (T 6)),O 18 (.build [(.i .i64 0),(str []),(.i .i64 0),(.i .i64 0)] [(0,1,(K (.i .i64 2))),(2,1,(T 17))]),O 19 (.mv (T 5)),O 20 (.mv (T 7)),O_ (.st 4 (T 2) (T 18)),O 3 (.mv (T 19)),O 4 (.mv (T 20))]) .ret))))
theorem L227 : Tr.get dfl tbl (toPa 227) = .mk B227 [(.cell (toPa 2) true 4),(.tmp (toPa 3)),(.tmp (toPa 4))]:=by kernel_rfl
/-- chancel/lex.sign -/
noncomputable def B229 : AC:=(.seq (.ops [O 2 (.new 236 [(.i .i64 0),(str []),(.i .i64 0),(.i .i64 0)]),O 3 (.mv (K (.i .i64 0))),O 4 (.mv (K (.i .i64 0)))]) (.seq (.seq (.ops [O 7 (.call (toPa 268) [(K (str [58,58,32,61,61,32,33,61,32,60,61,32,62,61,32,38,38,32,124,124,32,45,62]))]),O 8 (.len false (T 7)),O 9 (.mv (K (.i .i64 0)))]) (.block 0 (.loop (.seq (.ops [O 10 (.bin .lss .no (T 9) (T 8))]) (.seq (.cond (T 10) .skip (.exit 0)) (.seq (.block 1 (.seq (.ops [O 11 (.ixa 1 (T 7) (T 9)),O 12 (.ld false 1 (T 11)),O 6 (.mv (T 12))]) (.seq (.ops [O 13 (.mv (T 0)),O 14 (.mv (T 6)),O 15 (.call (toPa 223) [(T 13),(T 14)])]) (.cond (T 15) (.seq (.ops [O 16 (.mv (T 6)),O 17 (.build [(.i .i64 0),(str []),(.i .i64 0),(.i .i64 0)] [(0,1,(K (.i .i64 4))),(1,1,(T 16))]),O 18 (.mv (T 6)),O 19 (.len true (T 18)),O_ (.st 4 (T 2) (T 17)),O 3 (.mv (T 19)),O 4 (.mv (K (.i .i64 0)))]) .ret) .skip)))) (.ops [O 20 (.bin .add .no (T 9) (K (.i .i64 1))),O 9 (.mv (T 20))]))))))) (.seq (.seq (.ops [O 21 (.mv (T 0)),O 22 (.sls (T 21) none (some (K (.i .i64 1)))),O 23 (.call (toPa 225) [(K (str [40,41,123,125,91,93,44,59,58,46,60,62,33,43,45,42])),(T 22)])]) (.cond (T 23) (.seq (.ops [O 24 (.mv (T 0)),O 25 (.sls (T 24) none (some (K (.i .i64 1)))),O 26 (.build [(.i .i64 0),(str []),(.i .i64 0),(.i .i64 0)] [(0,1,(K (.i .i64 4))),(1,1,(T 25))]),O_ (.st 4 (T 2) (T 26)),O 3 (.mv (K (.i .i64 1))),O 4 (.mv (K (.i .i64 0)))]) .ret) .skip)) (.seq (.ops [O 27 (.build [(.i .i64 0),(str []),(.i .i64 0),(.i .i64 0)] []),O_ (.st 4 (T 2) (T 27)),O 3 (.mv (K (.i .i64 0))),O 4 (.mv (K (.i .i64 12)))]) .ret))))
theorem L229 : Tr.get dfl tbl (toPa 229) = .mk B229 [(.cell (toPa 2) true 4),(.tmp (toPa 3)),(.tmp (toPa 4))]:=by kernel_rfl
/-- (*chancel/parse.reader).rel -/
noncomputable def B230 : AC:=(.seq (.ops [O 2 (.new 35 [(.i .i64 0),(.b false),(.i .i64 0),(str []),(str []),(str []),.ns])]) (.seq (.ops [O 5 (.mv (T 0)),O 6 (.call (toPa 269) [(T 5)]),O 3 (.new 35 [(.i .i64 0),(.b false),(.i .i64 0),(str []),(str []),(str []),.ns]),O_ (.st 7 (T 3) (T 6))]) (.seq (.seq (.ops [O 7 (.mv (T 0)),O 8 (.call (toPa 270) [(T 7)]),O 4 (.mv (T 8))]) (.seq (.ops [O 9 (.mv (T 4)),O 10 (.bin .neq .no (T 9) (K (.i .i64 0)))]) (.cond (T 10) (.seq (.draw 1 [(O 13 (.mv (T 0)),⟨0,0⟩),(O 14 (.call (toPa 269) [(T 13)]),⟨3,0⟩),(O 11 (.mv (T 4)),⟨0,0⟩),(O 12 (.ld true 7 (T 3)),⟨1,0⟩),(O 15 (.bsl 35 7 2 [(.i .i64 0),(.b false),(.i .i64 0),(str []),(str []),(str []),.ns,(.i .i64 0),(.b false),(.i .i64 0),(str []),(str []),(str []),.ns] [(0,7,(T 12)),(7,7,(T 14))]),⟨2,1⟩),(O 16 (.build [(.i .i64 0),(.b false),(.i .i64 0),(str []),(str []),(str []),.ns] [(0,1,(T 11)),(6,1,(T 15))]),⟨0,1⟩),(O_ (.st 7 (T 2) (T 16)),⟨3,1⟩)]) .ret) .skip))) (.seq (.block 0 (.seq (.ops [O 18 (.mv (T 0)),O 19 (.call (toPa 71) [(T 18),(K (str [104,97,115]))]),O 17 (.mv (T 19))]) (.cond (T 17) (.seq (.draw 1 [(O 20 (.mv (T 0)),⟨0,0⟩),(O 21 (.call (toPa 131) [(T 20)]),⟨3,0⟩),(O 22 (.ld true 7 (T 3)),⟨1,0⟩),(O 23 (.bsl 35 7 1 [(.i .i64 0),(.b false),(.i .i64 0),(str []),(str []),(str []),.ns] [(0,7,(T 22))]),⟨2,0⟩),(O 24 (.build [(.i .i64 0),(.b false),(.i .i64 0),(str []),(str []),(str []),.ns] [(0,1,(K (.i .i64 8))),(3,1,(T 21)),(6,1,(T 23))]),⟨0,1⟩),(O_ (.st 7 (T 2) (T 24)),⟨3,1⟩)]) .ret) (.seq (.ops [O 26 (.mv (T 0)),O 27 (.call (toPa 71) [(T 26),(K (str [108,105,107,101]))]),O 25 (.mv (T 27))]) (.cond (T 25) (.seq (.draw 1 [(O 28 (.mv (T 0)),⟨0,0⟩),(O 29 (.call (toPa 202) [(T 28)]),⟨3,0⟩),(O 30 (.ld true 7 (T 3)),⟨1,0⟩),(O 31 (.bsl 35 7 1 [(.i .i64 0),(.b false),(.i .i64 0),(str []),(str []),(str []),.ns] [(0,7,(T 30))]),⟨2,0⟩),(O 32 (.build [(.i .i64 0),(.b false),(.i .i64 0),(str []),(str []),(str []),.ns] [(0,1,(K (.i .i64 10))),(3,1,(T 29)),(6,1,(T 31))]),⟨0,1⟩),(O_ (.st 7 (T 2) (T 32)),⟨3,1⟩)]) .ret) .skip))))) (.seq (.ops [O 33 (.ld true 7 (T 3)),O_ (.st 7 (T 2) (T 33))]) .ret)))))
theorem L230 : Tr.get dfl tbl (toPa 230) = .mk B230 [(.cell (toPa 2) true 7)]:=by kernel_rfl
/-- (*chancel/parse.reader).and$1 -/
noncomputable def B231 : AC:=(.seq (.ops [O 1 (.mv (K (.i .i64 0)))]) (.seq (.ops [O 2 (.ld false 1 (T 0)),O 3 (.call (toPa 179) [(T 2),(K (str [38,38])),(K (.i .i64 23))]),O 1 (.mv (T 3))]) .ret))
theorem L231 : Tr.get dfl tbl (toPa 231) = .mk B231 [(.tmp (toPa 1))]:=by kernel_rfl
/-- (*chancel/parse.reader).long -/
noncomputable def B242 : AC:=(.seq (.ops [O 2 (.mv (K (.i .i64 0)))]) (.seq (.ops [O 3 (.mv (T 0)),O 4 (.call (toPa 187) [(T 3),(K (.i .i64 2))]),O 5 (.fld false 2 1 (T 4)),O 2 (.mv (T 5))]) .ret))
theorem L242 : Tr.get dfl tbl (toPa 242) = .mk B242 [(.tmp (toPa 2))]:=by kernel_rfl
/-- internal/stringslite.HasPrefix -/
noncomputable def B261 : AC:=(.seq (.ops [O 4 (.mv (K (.b false)))]) (.seq (.ops [O 5 (.mv (T 0)),O 6 (.len true (T 5)),O 7 (.mv (T 1)),O 8 (.len true (T 7)),O 9 (.bin .geq .no (T 6) (T 8)),O 10 (.mv (T 9)),G 11 10 true (.mv (T 0)),G 12 10 true (.mv (T 1)),G 13 10 true (.len true (T 12)),G 14 10 true (.sls (T 11) none (some (T 13))),G 15 10 true (.mv (T 1)),G 16 10 true (.bin .eql .no (T 14) (T 15)),O 17 (.pick (T 10) (T 16) (K (.b false))),O 4 (.mv (T 17))]) .ret))
theorem L261 : Tr.get dfl tbl (toPa 261) = .mk B261 [(.tmp (toPa 4))]:=by kernel_rfl
/-- internal/stringslite.Index -/
noncomputable def B262 : AC:=(.seq (.ops [O 4 (.mv (K (.i .i64 0)))]) (.seq (.ops [O 14 (.mv (T 1)),O 15 (.len true (T 14)),O 5 (.mv (T 15))]) (.seq (.block 0 (.seq (.ops [O 17 (.mv (T 5)),O 18 (.bin .eql .no (T 17) (K (.i .i64 0))),O 19 (.mv (T 18)),G 20 19 false (.mv (T 1)),G 21 19 false (.mv (T 0)),G 22 19 false (.bin .eql .no (T 20) (T 21)),O 23 (.pick (T 19) (K (.b true)) (T 22)),O 16 (.mv (T 23))]) (.cond (T 16) (.seq (.ops [O 4 (.mv (K (.i .i64 0)))]) .ret) (.seq (.ops [O 25 (.mv (T 5)),O 26 (.bin .eql .no (T 25) (K (.i .i64 1))),O 24 (.mv (T 26))]) (.cond (T 24) (.seq (.ops [O 27 (.mv (T 0)),O 28 (.mv (T 1)),O 29 (.ixs (T 28) (K (.i .i64 0))),O 30 (.call (toPa 290) [(T 27),(T 29)]),O 4 (.mv (T 30))]) .ret) (.seq (.ops [O 32 (.mv (T 5)),O 33 (.mv (T 0)),O 34 (.len true (T 33)),O 35 (.bin .geq .no (T 32) (T 34)),O 31 (.mv (T 35))]) (.cond (T 31) (.seq (.ops [O 4 (.mv (K (.i .i64 (-1))))]) .ret) (.seq (.ops [O 37 (.mv (T 5)),O 38 (.ld false 1 (K (.p (toPa 0) 0))),O 39 (.bin .leq .no (T 37) (T 38)),O 40 (.mv (T 39)),G 41 40 true (.mv (T 0)),G 42 40 true (.len true (T 41)),G 43 40 true (.bin .leq .no (T 42) (K (.i .i64 64))),O 44 (.pick (T 40) (T 43) (K (.b false))),O 36 (.mv (T 44))]) (.cond (T 36) (.seq (.ops [O 45 (.mv (T 0)),O 46 (.mv (T 1)),O 47 (.bad),O 4 (.mv (T 47))]) .ret) .skip))))))))) (.seq (.ops [O 48 (.mv (T 1)),O 49 (.ixs (T 48) (K (.i .i64 0))),O 6 (.mv (T 49))]) (.seq (.ops [O 50 (.mv (T 1)),O 51 (.ixs (T 50) (K (.i .i64 1))),O 7 (.mv (T 51))]) (.seq (.ops [O 8 (.mv (K (.i .i64 0)))]) (.seq (.ops [O 52 (.mv (T 0)),O 53 (.len true (T 52)),O 54 (.mv (T 5)),O 55 (.bin .sub .no (T 53) (T 54)),O 56 (.bin .add .no (T 55) (K (.i .i64 1))),O 9 (.mv (T 56))]) (.seq (.ops [O 10 (.mv (K (.i .i64 0)))]) (.seq (.block 1 (.loop (.seq (.seq (.ops [O 57 (.mv (T 8)),O 58 (.mv (T 9)),O 59 (.bin .lss .no (T 57) (T 58))]) (.cond (T 59) .skip (.exit 1))) (.block 2 (.seq (.seq (.ops [O 60 (.mv (T 0)),O 61 (.mv (T 8)),O 62 (.ixs (T 60) (T 61)),O 63 (.mv (T 6)),O 64 (.bin .neq .no (T 62) (T 63))]) (.cond (T 64) (.seq (.ops [O 65 (.mv (T 0)),O 66 (.mv (T 8)),O 67 (.bin .add .no (T 66) (K (.i .i64 1))),O 68 (.mv (T 9)),O 69 (.sls (T 65) (some (T 67)) (some (T 68))),O 70 (.mv (T 6)),O 71 (.call (toPa 290) [(T 69),(T 70)]),O 11 (.mv (T 71))]) (.seq (.seq (.ops [O 72 (.mv (T 11)),O 73 (.bin .lss .no (T 72) (K (.i .i64 0)))]) (.cond (T 73) (.seq (.ops [O 4 (.mv (K (.i .i64 (-1))))]) .ret) .skip)) (.ops [O 74 (.mv (T 8)),O 75 (.mv (T 11)),O 76 (.bin .add .no (T 75) (K (.i .i64 1))),O 77 (.bin .add .no (T 74) (T 76)),O 8 (.mv (T 77))]))) .skip)) (.seq (.seq (.ops [O 78 (.mv (T 0)),O 79 (.mv (T 8)),O 80 (.bin .add .no (T 79) (K (.i .i64 1))),O 81 (.ixs (T 78) (T 80)),O 82 (.mv (T 7)),O 83 (.bin .eql .no (T 81) (T 82)),O 84 (.mv (T 83)),G 85 84 true (.mv (T 0)),G 86 84 true (.mv (T 8)),G 87 84 true (.mv (T 8)),G 88 84 true (.mv (T 5)),G 89 84 true (.bin .add .no (T 87) (T 88)),G 90 84 true (.sls (T 85) (some (T 86)) (some (T 89))),G 91 84 true (.mv (T 1)),G 92 84 true (.bin .eql .no (T 90) (T 91)),O 93 (.pick (T 84) (T 92) (K (.b false)))]) (.cond (T 93) (.seq (.ops [O 94 (.mv (T 8)),O 4 (.mv (T 94))]) .ret) .skip)) (.seq (.ops [O 95 (.mv (T 8)),O 96 (.bin .add .no (T 95) (K (.i .i64 1))),O 8 (.mv (T 96))]) (.seq (.ops [O 97 (.mv (T 10)),O 98 (.bin .add .no (T 97) (K (.i .i64 1))),O 10 (.mv (T 98))]) (.seq (.ops [O 99 (.mv (T 5)),O 100 (.ld false 1 (K (.p (toPa 0) 0))),O 101 (.bin .leq .no (T 99) (T 100)),O 102 (.mv (T 101)),G 103 102 true (.mv (T 10)),G 104 102 true (.mv (T 8)),G 105 102 true (.call (toPa 292) [(T 104)]),G 106 102 true (.bin .gtr .no (T 103) (T 105)),O 107 (.pick (T 102) (T 106) (K (.b false)))]) (.cond (T 107) (.seq (.ops [O 108 (.mv (T 0)),O 109 (.mv (T 8)),O 110 (.sls (T 108) (some (T 109)) none),O 111 (.mv (T 1)),O 112 (.bad),O 12 (.mv (T 112))]) (.seq (.seq (.ops [O 113 (.mv (T 12)),O 114 (.bin .geq .no (T 113) (K (.i .i64 0)))]) (.cond (T 114) (.seq (.ops [O 115 (.mv (T 12)),O 116 (.mv (T 8)),O 117 (.bin .add .no (T 115) (T 116)),O 4 (.mv (T 117))]) .ret) .skip)) (.seq (.ops [O 4 (.mv (K (.i .i64 (-1))))]) .ret))) (.seq (.ops [O 118 (.mv (T 5)),O 119 (.ld false 1 (K (.p (toPa 0) 0))),O 120 (.bin .gtr .no (T 118) (T 119)),O 121 (.mv (T 120)),G 122 121 true (.mv (T 10)),G 123 121 true (.mv (T 8)),G 124 121 true (.bin .shr .no (T 123) (K (.i .u64 4))),G 125 121 true (.bin .add .no (K (.i .i64 4)) (T 124)),G 126 121 true (.bin .geq .no (T 122) (T 125)),O 127 (.pick (T 121) (T 126) (K (.b false))),O 128 (.mv (T 127)),G 129 128 true (.mv (T 8)),G 130 128 true (.mv (T 9)),G 131 128 true (.bin .lss .no (T 129) (T 130)),O 132 (.pick (T 128) (T 131) (K (.b false)))]) (.cond (T 132) (.seq (.ops [O 133 (.mv (T 0)),O 134 (.mv (T 8)),O 135 (.sls (T 133) (some (T 134)) none),O 136 (.mv (T 1)),O 137 (.call (toPa 293) [(T 135),(T 136)]),O 13 (.mv (T 137))]) (.seq (.seq (.ops [O 138 (.mv (T 13)),O 139 (.bin .lss .no (T 138) (K (.i .i64 0)))]) (.cond (T 139) (.seq (.ops [O 4 (.mv (K (.i .i64 (-1))))]) .ret) .skip)) (.seq (.ops [O 140 (.mv (T 8)),O 141 (.mv (T 13)),O 142 (.bin .add .no (T 140) (T 141)),O 4 (.mv (T 142))]) .ret))) .skip)))))))))))) (.seq (.ops [O 4 (.mv (K (.i .i64 (-1))))]) .ret))))))))))
theorem L262 : Tr.get dfl tbl (toPa 262) = .mk B262 [(.tmp (toPa 4))]:=by kernel_rfl
/-- chancel/lex.row -/
noncomputable def B263 : AC:=(.seq (.ops [O 4 (.mv (K (.i .i64 0)))]) (.seq (.ops [O 5 (.mv (K (.i .i64 0)))]) (.seq (.block 0 (.loop (.seq (.seq (.ops [O 6 (.mv (T 5)),O 7 (.mv (T 0)),O 8 (.len true (T 7)),O 9 (.bin .lss .no (T 6) (T 8)),O 10 (.mv (T 9)),G 11 10 true (.mv (T 1)),G 12 10 true (.mv (T 0)),G 13 10 true (.mv (T 5)),G 14 10 true (.ixs (T 12) (T 13)),G 15 10 true (.callv (T 11) [(T 14)]),O 16 (.pick (T 10) (T 15) (K (.b false)))]) (.cond (T 16) .skip (.exit 0))) (.block 1 (.ops [O 17 (.mv (T 5)),O 18 (.bin .add .no (T 17) (K (.i .i64 1))),O 5 (.mv (T 18))]))))) (.seq (.ops [O 19 (.mv (T 5)),O 4 (.mv (T 19))]) .ret))))
theorem L263 : Tr.get dfl tbl (toPa 263) = .mk B263 [(.tmp (toPa 4))]:=by kernel_rfl
/-- chancel/lex.name$1 -/
noncomputable def B264 : AC:=(.seq (.ops [O 2 (.mv (K (.b false)))]) (.seq (.ops [O 3 (.mv (T 0)),O 4 (.call (toPa 220) [(T 3)]),O 5 (.mv (T 4)),G 6 5 false (.mv (T 0)),G 7 5 false (.call (toPa 221) [(T 6)]),O 8 (.pick (T 5) (K (.b true)) (T 7)),O 2 (.mv (T 8))]) .ret))
theorem L264 : Tr.get dfl tbl (toPa 264) = .mk B264 [(.tmp (toPa 2))]:=by kernel_rfl
/-- chancel/num.Parse -/
noncomputable def B265 : AC:=(.seq (.ops [O 2 (.mv (K (.i .i64 0))),O 3 (.mv (K (.i .i64 0)))]) (.seq (.seq (.ops [O 11 (.mv (T 0)),O 12 (.bin .eql .no (T 11) (K (str []))),O 13 (.mv (T 12)),G 14 13 false (.mv (T 0)),G 15 13 false (.ixs (T 14) (K (.i .i64 0))),G 16 13 false (.bin .eql .no (T 15) (K (.i .u8 48))),G 17 13 false (.mv (T 16)),G 18 17 true (.mv (T 0)),G 19 17 true (.len true (T 18)),G 20 17 true (.bin .gtr .no (T 19) (K (.i .i64 1))),G 21 13 false (.pick (T 17) (T 20) (K (.b false))),O 22 (.pick (T 13) (K (.b true)) (T 21))]) (.cond (T 22) (.seq (.ops [O 2 (.mv (K (.i .i64 0))),O 3 (.mv (K (.i .i64 12)))]) .ret) .skip)) (.seq (.seq (.ops [O 23 (.mv (T 0)),O 24 (.rng (T 23))]) (.block 0 (.loop (.seq (.ops [O 25 (.nxt (T 24)),O 26 (.ext 0 (T 25))]) (.seq (.cond (T 26) .skip (.exit 0)) (.block 1 (.seq (.ops [O 27 (.ext 2 (T 25)),O 5 (.mv (T 27))]) (.seq (.ops [O 28 (.mv (T 5)),O 29 (.bin .lss .no (T 28) (K (.i .i32 48))),O 30 (.mv (T 29)),G 31 30 false (.mv (T 5)),G 32 30 false (.bin .gtr .no (T 31) (K (.i .i32 57))),O 33 (.pick (T 30) (K (.b true)) (T 32))]) (.cond (T 33) (.seq (.ops [O 2 (.mv (K (.i .i64 0))),O 3 (.mv (K (.i .i64 12)))]) .ret) .skip))))))))) (.seq (.ops [O 6 (.mv (K (.i .i64 0)))]) (.seq (.seq (.ops [O 34 (.mv (T 0)),O 35 (.rng (T 34))]) (.block 2 (.loop (.seq (.ops [O 36 (.nxt (T 35)),O 37 (.ext 0 (T 36))]) (.seq (.cond (T 37) .skip (.exit 2)) (.block 3 (.seq (.ops [O 38 (.ext 2 (T 36)),O 8 (.mv (T 38))]) (.seq (.ops [O 40 (.mv (T 6)),O 41 (.call (toPa 294) [(T 40),(K (.i .i64 10))]),O 39 (.mv (T 41)),O 42 (.ext 0 (T 39)),O 43 (.ext 1 (T 39)),O 9 (.mv (T 42)),O 10 (.mv (T 43))]) (.seq (.seq (.ops [O 44 (.mv (T 10)),O 45 (.bin .neq .no (T 44) (K (.i .i64 0)))]) (.cond (T 45) (.seq (.ops [O 46 (.mv (T 10)),O 2 (.mv (K (.i .i64 0))),O 3 (.mv (T 46))]) .ret) .skip)) (.seq (.ops [O 48 (.mv (T 9)),O 49 (.mv (T 8)),O 50 (.bin .sub .no (T 49) (K (.i .i32 48))),O 51 (.cvi .i64 (T 50)),O 52 (.call (toPa 295) [(T 48),(T 51)]),O 47 (.mv (T 52)),O 53 (.ext 0 (T 47)),O 54 (.ext 1 (T 47)),O 6 (.mv (T 53)),O 10 (.mv (T 54))]) (.seq (.ops [O 55 (.mv (T 10)),O 56 (.bin .neq .no (T 55) (K (.i .i64 0)))]) (.cond (T 56) (.seq (.ops [O 57 (.mv (T 10)),O 2 (.mv (K (.i .i64 0))),O 3 (.mv (T 57))]) .ret) .skip)))))))))))) (.seq (.ops [O 58 (.mv (T 6)),O 2 (.mv (T 58)),O 3 (.mv (K (.i .i64 0)))]) .ret))))))
theorem L265 : Tr.get dfl tbl (toPa 265) = .mk B265 [(.tmp (toPa 2)),(.tmp (toPa 3))]:=by kernel_rfl
/-- strings.Fields -/
noncomputable def B268 : AC:=(.seq (.ops [O 2 (.mv (K .ns))]) (.seq (.ops [O 3 (.mv (K (.i .i64 0)))]) (.seq (.ops [O 4 (.mv (K (.i .i64 1)))]) (.seq (.ops [O 5 (.mv (K (.i .u8 0)))]) (.seq (.seq (.ops [O 6 (.mv (K (.i .i64 0)))]) (.block 0 (.loop (.seq (.seq (.ops [O 13 (.mv (T 6)),O 14 (.mv (T 0)),O 15 (.len true (T 14)),O 16 (.bin .lss .no (T 13) (T 15))]) (.cond (T 16) .skip (.exit 0))) (.seq (.block 1 (.seq (.ops [O 19 (.mv (T 0)),O 20 (.mv (T 6)),O 21 (.ixs (T 19) (T 20)),O 7 (.mv (T 21))]) (.seq (.ops [O 22 (.mv (T 5)),O 23 (.mv (T 7)),O 24 (.bin .or .no (T 22) (T 23)),O 5 (.mv (T 24))]) (.seq (.ops [O 25 (.mv (T 7)),O 26 (.ixp 256 1 (K (.p (toPa 3) 0)) (T 25)),O 27 (.ld false 1 (T 26)),O 28 (.cvi .i64 (T 27)),O 8 (.mv (T 28))]) (.seq (.ops [O 29 (.mv (T 3)),O 30 (.mv (T 4)),O 31 (.mv (T 8)),O 32 (.cpl (T 31)),O 33 (.bin .and .no (T 30) (T 32)),O 34 (.bin .add .no (T 29) (T 33)),O 3 (.mv (T 34))]) (.ops [O 35 (.mv (T 8)),O 4 (.mv (T 35))])))))) (.ops [O 17 (.mv (T 6)),O 18 (.bin .add .no (T 17) (K (.i .i64 1))),O 6 (.mv (T 18))])))))) (.seq (.seq (.ops [O 36 (.mv (T 5)),O 37 (.bin .geq .no (T 36) (K (.i .u8 128)))]) (.cond (T 37) (.seq (.ops [O 38 (.mv (T 0)),O 39 (.call (toPa 297) [(T 38),(K (.fn (.func 298) [] []))]),O 2 (.mv (T 39))]) .ret) .skip)) (.seq (.ops [O 40 (.mv (T 3)),O 41 (.mks 9 1 16 [(str [])] (T 40) (T 40)),O 9 (.mv (T 41))]) (.seq (.ops [O 10 (.mv (K (.i .i64 0)))]) (.seq (.ops [O 11 (.mv (K (.i .i64 0)))]) (.seq (.ops [O 12 (.mv (K (.i .i64 0)))]) (.seq (.block 2 (.loop (.seq (.seq (.ops [O 42 (.mv (T 12)),O 43 (.mv (T 0)),O 44 (.len true (T 43)),O 45 (.bin .lss .no (T 42) (T 44)),O 46 (.mv (T 45)),G 47 46 true (.mv (T 0)),G 48 46 true (.mv (T 12)),G 49 46 true (.ixs (T 47) (T 48)),G 50 46 true (.ixp 256 1 (K (.p (toPa 3) 0)) (T 49)),G 51 46 true (.ld false 1 (T 50)),G 52 46 true (.bin .neq .no (T 51) (K (.i .u8 0))),O 53 (.pick (T 46) (T 52) (K (.b false)))]) (.cond (T 53) .skip (.exit 2))) (.block 3 (.ops [O 54 (.mv (T 12)),O 55 (.bin .add .no (T 54) (K (.i .i64 1))),O 12 (.mv (T 55))]))))) (.seq (.ops [O 56 (.mv (T 12)),O 11 (.mv (T 56))]) (.seq (.block 4 (.loop (.seq (.seq (.ops [O 57 (.mv (T 12)),O 58 (.mv (T 0)),O 59 (.len true (T 58)),O 60 (.bin .lss .no (T 57) (T 59))]) (.cond (T 60) .skip (.exit 4))) (.block 5 (.seq (.seq (.ops [O 61 (.mv (T 0)),O 62 (.mv (T 12)),O 63 (.ixs (T 61) (T 62)),O 64 (.ixp 256 1 (K (.p (toPa 3) 0)) (T 63)),O 65 (.ld false 1 (T 64)),O 66 (.bin .eql .no (T 65) (K (.i .u8 0)))]) (.cond (T 66) (.seq (.ops [O 67 (.mv (T 12)),O 68 (.bin .add .no (T 67) (K (.i .i64 1))),O 12 (.mv (T 68))]) (.exit 5)) .skip)) (.seq (.ops [O 69 (.mv (T 9)),O 70 (.mv (T 10)),O 71 (.mv (T 0)),O 72 (.mv (T 11)),O 73 (.mv (T 12)),O 74 (.sls (T 71) (some (T 72)) (some (T 73))),O 75 (.ixa 1 (T 69) (T 70)),O_ (.st 1 (T 75) (T 74))]) (.seq (.ops [O 76 (.mv (T 10)),O 77 (.bin .add .no (T 76) (K (.i .i64 1))),O 10 (.mv (T 77))]) (.seq (.ops [O 78 (.mv (T 12)),O 79 (.bin .add .no (T 78) (K (.i .i64 1))),O 12 (.mv (T 79))]) (.seq (.block 6 (.loop (.seq (.seq (.ops [O 80 (.mv (T 12)),O 81 (.mv (T 0)),O 82 (.len true (T 81)),O 83 (.bin .lss .no (T 80) (T 82)),O 84 (.mv (T 83)),G 85 84 true (.mv (T 0)),G 86 84 true (.mv (T 12)),G 87 84 true (.ixs (T 85) (T 86)),G 88 84 true (.ixp 256 1 (K (.p (toPa 3) 0)) (T 87)),G 89 84 true (.ld false 1 (T 88)),G 90 84 true (.bin .neq .no (T 89) (K (.i .u8 0))),O 91 (.pick (T 84) (T 90) (K (.b false)))]) (.cond (T 91) .skip (.exit 6))) (.block 7 (.ops [O 92 (.mv (T 12)),O 93 (.bin .add .no (T 92) (K (.i .i64 1))),O 12 (.mv (T 93))]))))) (.ops [O 94 (.mv (T 12)),O 11 (.mv (T 94))])))))))))) (.seq (.seq (.ops [O 95 (.mv (T 11)),O 96 (.mv (T 0)),O 97 (.len true (T 96)),O 98 (.bin .lss .no (T 95) (T 97))]) (.cond (T 98) (.ops [O 99 (.mv (T 9)),O 100 (.mv (T 10)),O 101 (.mv (T 0)),O 102 (.mv (T 11)),O 103 (.sls (T 101) (some (T 102)) none),O 104 (.ixa 1 (T 99) (T 100)),O_ (.st 1 (T 104) (T 103))]) .skip)) (.seq (.ops [O 105 (.mv (T 9)),O 2 (.mv (T 105))]) .ret)))))))))))))))
theorem L268 : Tr.get dfl tbl (toPa 268) = .mk B268 [(.tmp (toPa 2))]:=by kernel_rfl
/-- (*chancel/parse.reader).add -/
noncomputable def B269 : AC:=(.seq (.ops [O 1 (.box 106 (T 0)),O 2 (.new 35 [(.i .i64 0),(.b false),(.i .i64 0),(str []),(str []),(str []),.ns])]) (.seq (.ops [O 3 (.ld false 1 (T 1)),O 4 (.ld false 1 (T 1)),O 5 (.mkfn (.func 299) [(T 4)] []),O 6 (.mkfn (.func 300) [] [(T 1)]),O 7 (.call (toPa 176) [(T 3),(T 5),(T 6)]),O_ (.st 7 (T 2) (T 7))]) .ret))
theorem L269 : Tr.get dfl tbl (toPa 269) = .mk B269 [(.cell (toPa 2) true 7)]:=by kernel_rfl
/-- (*chancel/parse.reader).compared -/
noncomputable def B270 : AC:=(.seq (.ops [O 2 (.mv (K (.i .i64 0)))]) (.seq (.seq (.ops [O 5 (.mv (T 0)),O 6 (.call (toPa 71) [(T 5),(K (str [105,110]))])]) (.cond (T 6) (.seq (.ops [O 2 (.mv (K (.i .i64 22)))]) .ret) .skip)) (.seq (.ops [O 7 (.mv (T 0)),O 8 (.call (toPa 175) [(T 7),(K (.i .i64 0))]),O 3 (.new 236 [(.i .i64 0),(str []),(.i .i64 0),(.i .i64 0)]),O_ (.st 4 (T 3) (T 8))]) (.seq (.seq (.ops [O 9 (.fa 0 (T 3)),O 10 (.ld false 1 (T 9)),O 11 (.bin .neq .no (T 10) (K (.i .i64 4)))]) (.cond (T 11) (.seq (.ops [O 2 (.mv (K (.i .i64 0)))]) .ret) .skip)) (.seq (.ops [O 4 (.mv (K (.i .i64 0)))]) (.seq (.seq (.ops [O 12 (.fa 1 (T 3)),O 13 (.ld false 1 (T 12))]) (.block 0 (.seq (.ops [O 15 (.bin .eql .no (T 13) (K (str [61,61]))),O 14 (.mv (T 15))]) (.cond (T 14) (.ops [O 4 (.mv (K (.i .i64 20)))]) (.seq (.ops [O 17 (.bin .eql .no (T 13) (K (str [33,61]))),O 16 (.mv (T 17))]) (.cond (T 16) (.ops [O 4 (.mv (K (.i .i64 21)))]) (.seq (.ops [O 19 (.bin .eql .no (T 13) (K (str [60]))),O 18 (.mv (T 19))]) (.cond (T 18) (.ops [O 4 (.mv (K (.i .i64 16)))]) (.seq (.ops [O 21 (.bin .eql .no (T 13) (K (str [60,61]))),O 20 (.mv (T 21))]) (.cond (T 20) (.ops [O 4 (.mv (K (.i .i64 17)))]) (.seq (.ops [O 23 (.bin .eql .no (T 13) (K (str [62]))),O 22 (.mv (T 23))]) (.cond (T 22) (.ops [O 4 (.mv (K (.i .i64 18)))]) (.seq (.ops [O 25 (.bin .eql .no (T 13) (K (str [62,61]))),O 24 (.mv (T 25))]) (.cond (T 24) (.ops [O 4 (.mv (K (.i .i64 19)))]) (.seq (.ops [O 2 (.mv (K (.i .i64 0)))]) .ret))))))))))))))) (.seq (.ops [O 26 (.mv (T 0)),O 27 (.nilck (T 26)),O 28 (.fa 1 (T 27)),O 29 (.ld false 1 (T 28)),O 30 (.bin .add .no (T 29) (K (.i .i64 1))),O 31 (.nilck (T 26)),O 32 (.fa 1 (T 31)),O_ (.st 1 (T 32) (T 30))]) (.seq (.ops [O 33 (.mv (T 4)),O 2 (.mv (T 33))]) .ret))))))))
theorem L270 : Tr.get dfl tbl (toPa 270) = .mk B270 [(.tmp (toPa 2))]:=by kernel_rfl
/-- internal/stringslite.IndexByte -/
noncomputable def B290 : AC:=(.seq (.ops [O 4 (.mv (K (.i .i64 0)))]) (.seq (.ops [O 5 (.mv (T 0)),O 6 (.mv (T 1)),O 7 (.ixb (T 5) (T 6)),O 4 (.mv (T 7))]) .ret))
theorem L290 : Tr.get dfl tbl (toPa 290) = .mk B290 [(.tmp (toPa 4))]:=by kernel_rfl
/-- chancel/num.Mul -/
noncomputable def B294 : AC:=(.seq (.ops [O 4 (.mv (K (.i .i64 0))),O 5 (.mv (K (.i .i64 0)))]) (.seq (.seq (.ops [O 7 (.mv (T 0)),O 8 (.bin .eql .no (T 7) (K (.i .i64 0))),O 9 (.mv (T 8)),G 10 9 false (.mv (T 1)),G 11 9 false (.bin .eql .no (T 10) (K (.i .i64 0))),O 12 (.pick (T 9) (K (.b true)) (T 11))]) (.cond (T 12) (.seq (.ops [O 4 (.mv (K (.i .i64 0))),O 5 (.mv (K (.i .i64 0)))]) .ret) .skip)) (.seq (.ops [O 13 (.mv (T 0)),O 14 (.mv (T 1)),O 15 (.bin .mul .no (T 13) (T 14)),O 6 (.mv (T 15))]) (.seq (.seq (.ops [O 16 (.mv (T 0)),O 17 (.bin .eql .no (T 16) (K (.i .i64 (-1)))),O 18 (.mv (T 17)),G 19 18 true (.mv (T 1)),G 20 18 true (.bin .eql .no (T 19) (K (.i .i64 (-9223372036854775808)))),O 21 (.pick (T 18) (T 20) (K (.b false))),O 22 (.mv (T 21)),G 23 22 false (.mv (T 1)),G 24 22 false (.bin .eql .no (T 23) (K (.i .i64 (-1)))),G 25 22 false (.mv (T 24)),G 26 25 true (.mv (T 0)),G 27 25 true (.bin .eql .no (T 26) (K (.i .i64 (-9223372036854775808)))),G 28 22 false (.pick (T 25) (T 27) (K (.b false))),O 29 (.pick (T 22) (K (.b true)) (T 28)),O 30 (.mv (T 29)),G 31 30 false (.mv (T 6)),G 32 30 false (.mv (T 1)),G 33 30 false (.bin .quo .no (T 31) (T 32)),G 34 30 false (.mv (T 0)),G 35 30 false (.bin .neq .no (T 33) (T 34)),O 36 (.pick (T 30) (K (.b true)) (T 35))]) (.cond (T 36) (.seq (.ops [O 4 (.mv (K (.i .i64 0))),O 5 (.mv (K (.i .i64 17)))]) .ret) .skip)) (.seq (.ops [O 37 (.mv (T 6)),O 4 (.mv (T 37)),O 5 (.mv (K (.i .i64 0)))]) .ret)))))
theorem L294 : Tr.get dfl tbl (toPa 294) = .mk B294 [(.tmp (toPa 4)),(.tmp (toPa 5))]:=by kernel_rfl
/-- chancel/num.Add -/
noncomputable def B295 : AC:=(.seq (.ops [O 4 (.mv (K (.i .i64 0))),O 5 (.mv (K (.i .i64 0)))]) (.seq (.seq (.ops [O 7 (.mv (T 0)),O 8 (.mv (T 1)),O 9 (.bin .add .no (T 7) (T 8)),O 6 (.mv (T 9))]) (.seq (.ops [O 10 (.mv (T 1)),O 11 (.bin .eql .no (T 10) (K (.i .i64 0))),O 12 (.mv (T 11)),G 13 12 false (.mv (T 6)),G 14 12 false (.mv (T 0)),G 15 12 false (.bin .gtr .no (T 13) (T 14)),G 16 12 false (.mv (T 1)),G 17 12 false (.bin .gtr .no (T 16) (K (.i .i64 0))),G 18 12 false (.bin .eql .bool (T 15) (T 17)),O 19 (.pick (T 12) (K (.b true)) (T 18))]) (.cond (T 19) (.seq (.ops [O 20 (.mv (T 6)),O 4 (.mv (T 20)),O 5 (.mv (K (.i .i64 0)))]) .ret) .skip))) (.seq (.ops [O 4 (.mv (K (.i .i64 0))),O 5 (.mv (K (.i .i64 17)))]) .ret)))
theorem L295 : Tr.get dfl tbl (toPa 295) = .mk B295 [(.tmp (toPa 4)),(.tmp (toPa 5))]:=by kernel_rfl
/-- (*chancel/parse.reader).mul -/
noncomputable def B299 : AC:=(.seq (.ops [O 1 (.box 106 (T 0)),O 2 (.new 35 [(.i .i64 0),(.b false),(.i .i64 0),(str []),(str []),(str []),.ns])]) (.seq (.ops [O 3 (.ld false 1 (T 1)),O 4 (.ld false 1 (T 1)),O 5 (.mkfn (.func 314) [(T 4)] []),O 6 (.mkfn (.func 315) [] [(T 1)]),O 7 (.call (toPa 176) [(T 3),(T 5),(T 6)]),O_ (.st 7 (T 2) (T 7))]) .ret))
theorem L299 : Tr.get dfl tbl (toPa 299) = .mk B299 [(.cell (toPa 2) true 7)]:=by kernel_rfl
/-- (*chancel/parse.reader).add$1 -/
noncomputable def B300 : AC:=(.seq (.ops [O 1 (.mv (K (.i .i64 0)))]) (.seq (.seq (.ops [O 3 (.ld false 1 (T 0)),O 4 (.call (toPa 179) [(T 3),(K (str [43])),(K (.i .i64 14))]),O 2 (.mv (T 4))]) (.seq (.ops [O 5 (.mv (T 2)),O 6 (.bin .neq .no (T 5) (K (.i .i64 0)))]) (.cond (T 6) (.seq (.ops [O 7 (.mv (T 2)),O 1 (.mv (T 7))]) .ret) .skip))) (.seq (.ops [O 8 (.ld false 1 (T 0)),O 9 (.call (toPa 179) [(T 8),(K (str [45])),(K (.i .i64 15))]),O 1 (.mv (T 9))]) .ret)))
theorem L300 : Tr.get dfl tbl (toPa 300) = .mk B300 [(.tmp (toPa 1))]:=by kernel_rfl
/-- (*chancel/parse.reader).un -/
noncomputable def B314 : AC:=(.seq (.ops [O 2 (.new 35 [(.i .i64 0),(.b false),(.i .i64 0),(str []),(str []),(str []),.ns])]) (.seq (.block 0 (.seq (.ops [O 4 (.mv (T 0)),O 5 (.call (toPa 125) [(T 4),(K (str [33]))]),O 3 (.mv (T 5))]) (.cond (T 3) (.seq (.ops [O 6 (.mv (T 0)),O 7 (.call (toPa 314) [(T 6)]),O 8 (.bsl 35 7 1 [(.i .i64 0),(.b false),(.i .i64 0),(str []),(str []),(str []),.ns] [(0,7,(T 7))]),O 9 (.build [(.i .i64 0),(.b false),(.i .i64 0),(str []),(str []),(str []),.ns] [(0,1,(K (.i .i64 11))),(6,1,(T 8))]),O_ (.st 7 (T 2) (T 9))]) .ret) (.seq (.ops [O 11 (.mv (T 0)),O 12 (.call (toPa 125) [(T 11),(K (str [45]))]),O 10 (.mv (T 12))]) (.cond (T 10) (.seq (.ops [O 13 (.mv (T 0)),O 14 (.call (toPa 314) [(T 13)]),O 15 (.bsl 35 7 1 [(.i .i64 0),(.b false),(.i .i64 0),(str []),(str []),(str []),.ns] [(0,7,(T 14))]),O 16 (.build [(.i .i64 0),(.b false),(.i .i64 0),(str []),(str []),(str []),.ns] [(0,1,(K (.i .i64 12))),(6,1,(T 15))]),O_ (.st 7 (T 2) (T 16))]) .ret) .skip))))) (.seq (.ops [O 17 (.mv (T 0)),O 18 (.call (toPa 323) [(T 17)]),O_ (.st 7 (T 2) (T 18))]) .ret)))
theorem L314 : Tr.get dfl tbl (toPa 314) = .mk B314 [(.cell (toPa 2) true 7)]:=by kernel_rfl
/-- (*chancel/parse.reader).mul$1 -/
noncomputable def B315 : AC:=(.seq (.ops [O 1 (.mv (K (.i .i64 0)))]) (.seq (.ops [O 2 (.ld false 1 (T 0)),O 3 (.call (toPa 179) [(T 2),(K (str [42])),(K (.i .i64 13))]),O 1 (.mv (T 3))]) .ret))
theorem L315 : Tr.get dfl tbl (toPa 315) = .mk B315 [(.tmp (toPa 1))]:=by kernel_rfl
/-- (*chancel/parse.reader).mem -/
noncomputable def B323 : AC:=(.seq (.ops [O 2 (.new 35 [(.i .i64 0),(.b false),(.i .i64 0),(str []),(str []),(str []),.ns])]) (.seq (.ops [O 5 (.mv (T 0)),O 6 (.call (toPa 326) [(T 5)]),O 3 (.new 35 [(.i .i64 0),(.b false),(.i .i64 0),(str []),(str []),(str []),.ns]),O_ (.st 7 (T 3) (T 6))]) (.seq (.block 0 (.loop (.seq (.seq (.ops [O 7 (.mv (T 0)),O 8 (.call (toPa 125) [(T 7),(K (str [46]))])]) (.cond (T 8) .skip (.exit 0))) (.block 1 (.seq (.ops [O 9 (.mv (T 0)),O 10 (.call (toPa 131) [(T 9)]),O 4 (.mv (T 10))]) (.seq (.seq (.ops [O 11 (.mv (T 0)),O 12 (.call (toPa 125) [(T 11),(K (str [40]))]),O 13 (.not (T 12))]) (.cond (T 13) (.seq (.ops [O 14 (.mv (T 4)),O 15 (.ld true 7 (T 3)),O 16 (.bsl 35 7 1 [(.i .i64 0),(.b false),(.i .i64 0),(str []),(str []),(str []),.ns] [(0,7,(T 15))]),O 17 (.build [(.i .i64 0),(.b false),(.i .i64 0),(str []),(str []),(str []),.ns] [(0,1,(K (.i .i64 7))),(3,1,(T 14)),(6,1,(T 16))]),O_ (.st 7 (T 3) (T 17))]) (.exit 1)) .skip)) (.seq (.ops [O 18 (.mv (T 0)),O 19 (.mv (T 4)),O 20 (.bin .eql .no (T 19) (K (str [99,111,110,116,97,105,110,115]))),O 21 (.call (toPa 73) [(T 18),(T 20)])]) (.seq (.draw 1 [(O 23 (.mv (T 0)),⟨0,0⟩),(O 24 (.call (toPa 56) [(T 23)]),⟨3,0⟩),(O 22 (.ld true 7 (T 3)),⟨1,0⟩),(O 25 (.bsl 35 7 2 [(.i .i64 0),(.b false),(.i .i64 0),(str []),(str []),(str []),.ns,(.i .i64 0),(.b false),(.i .i64 0),(str []),(str []),(str []),.ns] [(0,7,(T 22)),(7,7,(T 24))]),⟨2,1⟩),(O 26 (.build [(.i .i64 0),(.b false),(.i .i64 0),(str []),(str []),(str []),.ns] [(0,1,(K (.i .i64 9))),(6,1,(T 25))]),⟨0,1⟩),(O_ (.st 7 (T 3) (T 26)),⟨3,1⟩)]) (.ops [O 27 (.mv (T 0)),O 28 (.mv (T 0)),O 29 (.call (toPa 125) [(T 28),(K (str [41]))]),O 30 (.call (toPa 73) [(T 27),(T 29)])]))))))))) (.seq (.ops [O 31 (.ld true 7 (T 3)),O_ (.st 7 (T 2) (T 31))]) .ret))))
theorem L323 : Tr.get dfl tbl (toPa 323) = .mk B323 [(.cell (toPa 2) true 7)]:=by kernel_rfl
/-- (*chancel/parse.reader).prim -/
noncomputable def B326 : AC:=(.seq (.ops [O 2 (.new 35 [(.i .i64 0),(.b false),(.i .i64 0),(str []),(str []),(str []),.ns])]) (.seq (.seq (.ops [O 5 (.mv (T 0)),O 6 (.call (toPa 175) [(T 5),(K (.i .i64 0))]),O 3 (.new 236 [(.i .i64 0),(str []),(.i .i64 0),(.i .i64 0)]),O_ (.st 4 (T 3) (T 6))]) (.seq (.ops [O 7 (.fa 0 (T 3)),O 8 (.ld false 1 (T 7))]) (.block 0 (.seq (.block 5 (.seq (.block 4 (.seq (.block 3 (.seq (.block 2 (.seq (.block 1 (.seq (.seq (.seq (.ops [O 10 (.bin .eql .no (T 8) (K (.i .i64 2))),O 9 (.mv (T 10))]) (.cond (T 9) (.exit 1) .skip)) (.seq (.seq (.ops [O 12 (.bin .eql .no (T 8) (K (.i .i64 3))),O 11 (.mv (T 12))]) (.cond (T 11) (.exit 2) .skip)) (.seq (.seq (.ops [O 14 (.bin .eql .no (T 8) (K (.i .i64 1))),O 13 (.mv (T 14))]) (.cond (T 13) (.exit 3) .skip)) (.seq (.ops [O 16 (.bin .eql .no (T 8) (K (.i .i64 4))),O 15 (.mv (T 16))]) (.cond (T 15) (.exit 4) .skip))))) (.exit 5))) (.seq (.seq (.ops [O 17 (.mv (T 0)),O 18 (.call (toPa 242) [(T 17)]),O 19 (.build [(.i .i64 0),(.b false),(.i .i64 0),(str []),(str []),(str []),.ns] [(0,1,(K (.i .i64 2))),(2,1,(T 18))]),O_ (.st 7 (T 2) (T 19))]) .ret) (.exit 0)))) (.seq (.seq (.ops [O 20 (.mv (T 0)),O 21 (.call (toPa 202) [(T 20)]),O 22 (.build [(.i .i64 0),(.b false),(.i .i64 0),(str []),(str []),(str []),.ns] [(0,1,(K (.i .i64 3))),(3,1,(T 21))]),O_ (.st 7 (T 2) (T 22))]) .ret) (.exit 0)))) (.seq (.seq (.ops [O 23 (.mv (T 0)),O 24 (.fa 1 (T 3)),O 25 (.ld false 1 (T 24)),O 26 (.call (toPa 327) [(T 23),(T 25)]),O_ (.st 7 (T 2) (T 26))]) .ret) (.exit 0)))) (.block 6 (.seq (.ops [O 28 (.mv (T 0)),O 29 (.call (toPa 125) [(T 28),(K (str [40]))]),O 27 (.mv (T 29))]) (.cond (T 27) (.seq (.ops [O 30 (.mv (T 0)),O 31 (.call (toPa 56) [(T 30)]),O 4 (.new 35 [(.i .i64 0),(.b false),(.i .i64 0),(str []),(str []),(str []),.ns]),O_ (.st 7 (T 4) (T 31))]) (.seq (.ops [O 32 (.mv (T 0)),O 33 (.mv (T 0)),O 34 (.call (toPa 125) [(T 33),(K (str [41]))]),O 35 (.call (toPa 73) [(T 32),(T 34)])]) (.seq (.ops [O 36 (.ld true 7 (T 4)),O_ (.st 7 (T 2) (T 36))]) .ret))) (.seq (.ops [O 38 (.mv (T 0)),O 39 (.call (toPa 125) [(T 38),(K (str [91]))]),O 37 (.mv (T 39))]) (.cond (T 37) (.seq (.ops [O 40 (.mv (T 0)),O 41 (.call (toPa 328) [(T 40)]),O 42 (.build [(.i .i64 0),(.b false),(.i .i64 0),(str []),(str []),(str []),.ns] [(0,1,(K (.i .i64 6))),(6,1,(T 41))]),O_ (.st 7 (T 2) (T 42))]) .ret) .skip))))))) (.seq (.ops [O 43 (.mv (T 0)),O 44 (.nilck (T 43)),O 45 (.fa 2 (T 44)),O_ (.st 1 (T 45) (K (.b true)))]) (.exit 0)))))) (.seq (.ops [O 46 (.build [(.i .i64 0),(.b false),(.i .i64 0),(str []),(str []),(str []),.ns] []),O_ (.st 7 (T 2) (T 46))]) .ret)))
theorem L326 : Tr.get dfl tbl (toPa 326) = .mk B326 [(.cell (toPa 2) true 7)]:=by kernel_rfl
/-- (*chancel/parse.reader).named -/
noncomputable def B327 : AC:=(.seq (.ops [O 4 (.new 35 [(.i .i64 0),(.b false),(.i .i64 0),(str []),(str []),(str []),.ns])]) (.seq (.seq (.ops [O 5 (.mv (T 0)),O 6 (.call (toPa 117) [(T 5)])]) (.cond (T 6) (.seq (.ops [O 7 (.mv (T 0)),O 8 (.call (toPa 151) [(T 7)]),O 9 (.build [(.i .i64 0),(.b false),(.i .i64 0),(str []),(str []),(str []),.ns] [(0,1,(K (.i .i64 4))),(4,2,(T 8))]),O_ (.st 7 (T 4) (T 9))]) .ret) .skip)) (.seq (.ops [O 10 (.mv (T 0)),O 11 (.nilck (T 10)),O 12 (.fa 1 (T 11)),O 13 (.ld false 1 (T 12)),O 14 (.bin .add .no (T 13) (K (.i .i64 1))),O 15 (.nilck (T 10)),O 16 (.fa 1 (T 15)),O_ (.st 1 (T 16) (T 14))]) (.seq (.seq (.ops [O 17 (.mv (T 1))]) (.block 0 (.seq (.seq (.ops [O 19 (.bin .eql .no (T 17) (K (str [116,114,117,101]))),O 18 (.mv (T 19))]) (.cond (T 18) .skip (.ops [O 20 (.bin .eql .no (T 17) (K (str [102,97,108,115,101]))),O 18 (.mv (T 20))]))) (.cond (T 18) (.seq (.ops [O 21 (.mv (T 1)),O 22 (.bin .eql .no (T 21) (K (str [116,114,117,101]))),O 23 (.build [(.i .i64 0),(.b false),(.i .i64 0),(str []),(str []),(str []),.ns] [(0,1,(K (.i .i64 1))),(1,1,(T 22))]),O_ (.st 7 (T 4) (T 23))]) .ret) (.seq (.seq (.ops [O 25 (.bin .eql .no (T 17) (K (str [112,114,105,110,99,105,112,97,108]))),O 24 (.mv (T 25))]) (.cond (T 24) .skip (.seq (.ops [O 26 (.bin .eql .no (T 17) (K (str [97,99,116,105,111,110]))),O 24 (.mv (T 26))]) (.cond (T 24) .skip (.ops [O 27 (.bin .eql .no (T 17) (K (str [114,101,115,111,117,114,99,101]))),O 24 (.mv (T 27))]))))) (.cond (T 24) (.seq (.ops [O 28 (.mv (T 1)),O 29 (.build [(.i .i64 0),(.b false),(.i .i64 0),(str []),(str []),(str []),.ns] [(0,1,(K (.i .i64 5))),(3,1,(T 28))]),O_ (.st 7 (T 4) (T 29))]) .ret) .skip)))))) (.seq (.ops [O 30 (.mv (T 0)),O 31 (.nilck (T 30)),O 32 (.fa 2 (T 31)),O_ (.st 1 (T 32) (K (.b true)))]) (.seq (.ops [O 33 (.build [(.i .i64 0),(.b false),(.i .i64 0),(str []),(str []),(str []),.ns] []),O_ (.st 7 (T 4) (T 33))]) .ret))))))
theorem L327 : Tr.get dfl tbl (toPa 327) = .mk B327 [(.cell (toPa 4) true 7)]:=by kernel_rfl
end Go.Proofs.YtgnfndhmfgghdaaGreatDoor

/- What the language is,by itself: its runes,words and trees. No program in sight. -/
namespace Go.Proofs.YtgnfndhmfgghdaaGreatDoor
open Go Go.Vai
set_option linter.unusedVariables false
/-! Runes. -/
def cnt8 (b : UInt8) : Bool:=b.toNat / 64 == 2
/-- A rune that may be. -/
def isR (c : Nat) : Bool:=decide (c < 55296) || (decide (57344≤c) && decide (c≤1114111))
def mk2 (b x : Nat) : Nat:=b % 32 * 64 + x % 64
def mk3 (b x y : Nat) : Nat:=b % 16 * 4096 + x % 64 * 64 + y % 64
def mk4 (b x y z : Nat) : Nat:=b % 8 * 262144 + x % 64 * 4096 + y % 64 * 64 + z % 64
def by0 (s : List UInt8) (i : Nat) : Nat:=((s[i]?).map UInt8.toNat).getD 0
def co0 (s : List UInt8) (i : Nat) : Bool:=decide (i < s.length) && by0 s i / 64 == 2
/-- The rune at the beginning,and how many bytes it has. -/
def dec1 (s : List UInt8) : Option (Nat × Nat) :=
 let b:=by0 s 0
 if s = [] then none
 else if b < 128 then some (b,1)
 else if b / 32 = 6∧co0 s 1 = true then (if 128≤mk2 b (by0 s 1) then some (mk2 b (by0 s 1),2) else none)
 else if b / 16 = 14∧co0 s 1 = true∧co0 s 2 = true then (if 2048≤mk3 b (by0 s 1) (by0 s 2)∧isR (mk3 b (by0 s 1) (by0 s 2)) = true then some (mk3 b (by0 s 1) (by0 s 2),3) else none)
 else if b / 8 = 30∧co0 s 1 = true∧co0 s 2 = true∧co0 s 3 = true then (if 65536≤mk4 b (by0 s 1) (by0 s 2) (by0 s 3)∧isR (mk4 b (by0 s 1) (by0 s 2) (by0 s 3)) = true then some (mk4 b (by0 s 1) (by0 s 2) (by0 s 3),4) else none)
 else none
/-- A text's runes. -/
def rnsF : Nat→List UInt8→Option (List Nat)
 | _,[]=>some []
 | 0,_ :: _=>none
 | n + 1,b :: r=>match dec1 (b :: r) with
  | none=>none
  | some (c,w)=>(rnsF n ((b :: r).drop w)).map (c :: ·)
def rns (s : List UInt8) : Option (List Nat):=rnsF s.length s
/-- A rune's bytes. -/
def en1 (c : Nat) : List UInt8 :=
 if c < 128 then [UInt8.ofNat c]
 else if c < 2048 then [UInt8.ofNat (192 + c / 64),UInt8.ofNat (128 + c % 64)]
 else if c < 65536 then [UInt8.ofNat (224 + c / 4096),UInt8.ofNat (128 + c / 64 % 64),UInt8.ofNat (128 + c % 64)]
 else [UInt8.ofNat (240 + c / 262144),UInt8.ofNat (128 + c / 4096 % 64),UInt8.ofNat (128 + c / 64 % 64),UInt8.ofNat (128 + c % 64)]
def enc (l : List Nat) : List UInt8:=l.flatMap en1
/-! Words. -/
structure Tok where
 k : Nat
 s : List UInt8
 n : Nat
 a : Nat
def isL (b : UInt8) : Bool:=decide (97≤b.toNat∧b.toNat≤122) || decide (65≤b.toNat∧b.toNat≤90) || decide (b.toNat = 95)
def isD (b : UInt8) : Bool:=decide (48≤b.toNat∧b.toNat≤57)
/-- How many bytes from the first on are such. -/
def cntW (p : UInt8→Bool) : List UInt8→Nat
 | []=>0
 | b :: r=>if p b = true then cntW p r + 1 else 0
def isB (b : UInt8) : Bool:=decide (b = 32 ∨ b = 9 ∨ b = 10 ∨ b = 13)
/-- Where a line ends. -/
def eol (s : List UInt8) : Nat:=cntW (fun b=>decide (b ≠ 10)) s
/-- How many bytes are blanks and remarks. -/
def blk : Nat→List UInt8→Nat
 | 0,_=>0
 | _,[]=>0
 | n + 1,b :: r =>
  if b = 47∧r.head? = some 47 then eol (b :: r) + blk n ((b :: r).drop (eol (b :: r)))
  else if isB b = true then 1 + blk n r
  else 0
def valD (s : List UInt8) : Nat:=s.foldl (fun n b=>10 * n + (b.toNat - 48)) 0
/-- A number of digits. -/
def numP (s : List UInt8) : Except Nat Nat :=
 if s = [] ∨ (s.head? = some 48∧1 < s.length) then .error 12
 else if valD s < 9223372036854775808 then .ok (valD s) else .error 17
def hexv (b : UInt8) : Option Nat :=
 if 48≤b.toNat∧b.toNat≤57 then some (b.toNat - 48)
 else if 97≤b.toNat∧b.toNat≤102 then some (b.toNat - 87)
 else if 65≤b.toNat∧b.toNat≤70 then some (b.toNat - 55)
 else none
/-- Digits of sixteen: how many,what they say. -/
def hexs : Nat→List UInt8→Nat→Nat × Nat
 | 0,_,v=>(0,v)
 | _,[],v=>(0,v)
 | n + 1,b :: r,v=>match hexv b with
  | none=>(0,v)
  | some d=>((hexs n r (16 * v + d)).1 + 1,(hexs n r (16 * v + d)).2)
/-- What stands behind a backslash: the rune,how many bytes. -/
def esc (s : List UInt8) : Except Nat (Nat × Nat) :=
 match s with
 | []=>.error 12
 | b :: r =>
  if b = 92 ∨ b = 34 then .ok (b.toNat,1)
  else if b = 110 then .ok (10,1)
  else if b = 116 then .ok (9,1)
  else if b = 117∧r.head? = some 123 then
   (let h:=hexs 6 (r.drop 1) 0
    if h.1 = 0 ∨ (r.drop 1)[h.1]? ≠ some 125 then .error 12
    else if isR h.2 = true then .ok (h.2,h.1 + 3) else .error 11)
  else .error 12
/-- A rune of a quoted text. -/
def onR (s : List UInt8) : Except Nat (Nat × Nat) :=
 match s with
 | []=>.error 12
 | b :: r =>
  if b.toNat < 32 then .error 12
  else if b = 92 then (match esc r with | .error e=>.error e | .ok (c,w)=>.ok (c,w + 1))
  else match dec1 (b :: r) with | none=>.error 11 | some x=>.ok x
/-- A quoted text behind its first sign: its runes,how many bytes. -/
def rdq : Nat→List UInt8→Except Nat (List Nat × Nat)
 | 0,_=>.error 12
 | n + 1,s =>
  if s.head? = some 34 then .ok ([],1)
  else match onR s with
   | .error e=>.error e
   | .ok (c,w)=>match rdq n (s.drop w) with
    | .error e=>.error e
    | .ok (l,m)=>.ok (c :: l,w + m)
def sg2 : List (List UInt8):=[[58,58],[61,61],[33,61],[60,61],[62,61],[38,38],[124,124],[45,62]]
def sg1 : List UInt8:=[40,41,123,125,91,93,44,59,58,46,60,62,33,43,45,42]
/-- The word at the beginning,how many bytes. -/
def word (a : Nat) (s : List UInt8) : Except Nat (Tok × Nat) :=
 match s with
 | []=>.error 12
 | b :: r =>
  if isL b = true then
   (let n:=cntW (fun b=>isL b || isD b) (b :: r)
    if 12 < n then .error 5 else .ok (⟨1,(b :: r).take n,0,a⟩,n))
  else if isD b = true then
   (let n:=cntW isD (b :: r)
    match numP ((b :: r).take n) with | .error e=>.error e | .ok v=>.ok (⟨2,[],v,a⟩,n))
  else if b = 34 then
   (match rdq (r.length + 1) r with
    | .error e=>.error e
    | .ok (l,m)=>if 30 < l.length then .error 5 else .ok (⟨3,enc l,0,a⟩,m + 1))
  else if (b :: r).take 2 ∈ sg2 then .ok (⟨4,(b :: r).take 2,0,a⟩,2)
  else if b ∈ sg1 then .ok (⟨4,[b],0,a⟩,1)
  else .error 12
/-- All words. -/
def wordsF : Nat→Nat→List UInt8→Nat→Except Nat (List Tok)
 | 0,_,_,_=>.ok []
 | n + 1,a,s,c =>
  if s = [] then .ok []
  else match word a s with
   | .error e=>.error e
   | .ok (t,w) =>
    if 200≤c then .error 4
    else
     (let s':=s.drop w
      let b:=blk s'.length s'
      match wordsF n (a + (w + b)) (s'.drop b) (c + 1) with
      | .error e=>.error e
      | .ok l=>.ok (t :: l))
def words (s : List UInt8) : Except Nat (List Tok) :=
 if 600 < s.length then .error 5
 else if rns s = none then .error 11
 else wordsF (s.length + 1) (blk s.length s) (s.drop (blk s.length s)) 0
/-! Trees. -/
inductive Ex where
 | mk (op : Nat) (b : Bool) (n : Int) (s t d : List UInt8) (kids : List Ex)
def Ex.kids : Ex→List Ex
 | .mk _ _ _ _ _ _ k=>k
def Ex.op : Ex→Nat
 | .mk op _ _ _ _ _ _=>op
def two (op : Nat) (a b : Ex) : Ex:=.mk op false 0 [] [] [] [a,b]
def one1 (op : Nat) (a : Ex) : Ex:=.mk op false 0 [] [] [] [a]
def get1 (op : Nat) (s : List UInt8) (a : Ex) : Ex:=.mk op false 0 s [] [] [a]
/-- Does this word stand there? -/
def isT (k : Nat) (s : List UInt8) : List Tok→Bool
 | []=>false
 | t :: _=>decide (t.k = k∧t.s = s)
def tIf : List UInt8:=[105,102]
def tThen : List UInt8:=[116,104,101,110]
def tElse : List UInt8:=[101,108,115,101]
def tCC : List UInt8:=[58,58]
def tHas : List UInt8:=[104,97,115]
def tLike : List UInt8:=[108,105,107,101]
def tIn : List UInt8:=[105,110]
def tCont : List UInt8:=[99,111,110,116,97,105,110,115]
def tTrue : List UInt8:=[116,114,117,101]
def tFalse : List UInt8:=[102,97,108,115,101]
def tPri : List UInt8:=[112,114,105,110,99,105,112,97,108]
def tAct : List UInt8:=[97,99,116,105,111,110]
def tRes : List UInt8:=[114,101,115,111,117,114,99,101]
/-- A sign between operands of a level: its operation. -/
def sgL (l : Nat) (ts : List Tok) : Nat :=
 if l = 6 then (if isT 4 [124,124] ts = true then 24 else 0)
 else if l = 5 then (if isT 4 [38,38] ts = true then 23 else 0)
 else if l = 3 then (if isT 4 [43] ts = true then 14 else if isT 4 [45] ts = true then 15 else 0)
 else (if isT 4 [42] ts = true then 13 else 0)
def sgC (ts : List Tok) : Nat :=
 if isT 1 tIn ts = true then 22
 else if isT 4 [61,61] ts = true then 20
 else if isT 4 [33,61] ts = true then 21
 else if isT 4 [60] ts = true then 16
 else if isT 4 [60,61] ts = true then 17
 else if isT 4 [62] ts = true then 18
 else if isT 4 [62,61] ts = true then 19
 else 0
abbrev Rd:=List Tok→Option (Ex × List Tok)
/-- Operands that lean to the left. -/
def lftR (p : Rd) (l : Nat) : Nat→Ex→Rd
 | 0,e,ts=>some (e,ts)
 | k + 1,e,ts =>
  if sgL l ts = 0 then some (e,ts)
  else match p (ts.drop 1) with
   | none=>none
   | some (b,r)=>lftR p l k (two (sgL l ts) e b) r
/-- Members. -/
def memR (p : Rd) : Nat→Ex→Rd
 | 0,e,ts=>some (e,ts)
 | k + 1,e,ts =>
  if isT 4 [46] ts = true then
   (match ts.drop 1 with
    | []=>none
    | t :: r =>
     if t.k ≠ 1 then none
     else if isT 4 [40] r = true then
      (if t.s = tCont then
       (match p (r.drop 1) with
        | none=>none
        | some (b,q)=>if isT 4 [41] q = true then memR p k (two 9 e b) (q.drop 1) else none)
       else none)
     else memR p k (get1 7 t.s e) r)
  else some (e,ts)
/-- A set's members. -/
def rowR (p : Rd) : Nat→List Ex→List Tok→Option (List Ex × List Tok)
 | 0,_,_=>none
 | k + 1,acc,ts=>match p ts with
  | none=>none
  | some (e,r) =>
   if isT 4 [44] r = true then rowR p k (acc ++ [e]) (r.drop 1)
   else if isT 4 [93] r = true then some (acc ++ [e],r.drop 1)
   else none
/-- A name,a text,a uid that must stand there. -/
def wName : List Tok→Option (List UInt8 × List Tok)
 | []=>none
 | t :: r=>if t.k = 1 then some (t.s,r) else none
def wStr : List Tok→Option (List UInt8 × List Tok)
 | []=>none
 | t :: r=>if t.k = 3 then some (t.s,r) else none
def wUid (ts : List Tok) : Option (List UInt8 × List UInt8 × List Tok) :=
 match wName ts with
 | none=>none
 | some (n,r)=>if isT 4 tCC r = true then (match wStr (r.drop 1) with | none=>none | some (i,q)=>some (n,i,q)) else none
def rel1 (p : Rd) (e : Ex) (ts : List Tok) : Option (Ex × List Tok) :=
 if sgC ts ≠ 0 then (match p (ts.drop 1) with | none=>none | some (b,r)=>some (two (sgC ts) e b,r))
 else if isT 1 tHas ts = true then (match wName (ts.drop 1) with | none=>none | some (s,r)=>some (get1 8 s e,r))
 else if isT 1 tLike ts = true then (match wStr (ts.drop 1) with | none=>none | some (s,r)=>some (get1 10 s e,r))
 else some (e,ts)
def prim1 (p : Rd) (ts : List Tok) : Option (Ex × List Tok) :=
 match ts with
 | []=>none
 | t :: r =>
  if t.k = 2 then some (.mk 2 false t.n [] [] [] [],r)
  else if t.k = 3 then some (.mk 3 false 0 t.s [] [] [],r)
  else if t.k = 1 then
   (if isT 4 tCC r = true then (match wStr (r.drop 1) with | none=>none | some (i,q)=>some (.mk 4 false 0 [] t.s i [],q))
    else if t.s = tTrue then some (.mk 1 true 0 [] [] [] [],r)
    else if t.s = tFalse then some (.mk 1 false 0 [] [] [] [],r)
    else if t.s = tPri ∨ t.s = tAct ∨ t.s = tRes then some (.mk 5 false 0 t.s [] [] [],r)
    else none)
  else if isT 4 [40] ts = true then (match p r with | none=>none | some (e,q)=>if isT 4 [41] q = true then some (e,q.drop 1) else none)
  else if isT 4 [91] ts = true then
   (if isT 4 [93] r = true then some (.mk 6 false 0 [] [] [] [],r.drop 1)
    else match rowR p (r.length + 1) [] r with | none=>none | some (l,q)=>some (.mk 6 false 0 [] [] [] l,q))
  else none
def if1 (p : Rd) (ts : List Tok) : Option (Ex × List Tok) :=
 match p ts with
 | none=>none
 | some (a,r) =>
  if isT 1 tThen r = true then
   (match p (r.drop 1) with
    | none=>none
    | some (b,q) =>
     if isT 1 tElse q = true then (match p (q.drop 1) with | none=>none | some (c,u)=>some (.mk 25 false 0 [] [] [] [a,b,c],u))
     else none)
  else none
/-- A tree,from a level on: 7 any,6 ||,5 &&,4 compared,3 + -,2 *,1 with signs ahead,0 a member. -/
def P : Nat→Nat→Rd
 | 0,_,_=>none
 | n + 1,l,ts =>
  if l = 7 then (if isT 1 tIf ts = true∧¬ isT 4 tCC (ts.drop 1) = true then if1 (P n 7) (ts.drop 1) else P n 6 ts)
  else if l = 4 then (match P n 3 ts with | none=>none | some (e,r)=>rel1 (P n 3) e r)
  else if l = 1 then
   (if isT 4 [33] ts = true then (match P n 1 (ts.drop 1) with | none=>none | some (e,r)=>some (one1 11 e,r))
    else if isT 4 [45] ts = true then (match P n 1 (ts.drop 1) with | none=>none | some (e,r)=>some (one1 12 e,r))
    else P n 0 ts)
  else if l = 0 then (match prim1 (P n 7) ts with | none=>none | some (e,r)=>memR (P n 7) r.length e r)
  else (match P n (l - 1) ts with | none=>none | some (e,r)=>lftR (P n (l - 1)) l r.length e r)
/-! What is wrong with a tree that was read: too many in a set,too deep. -/
mutual
def wide : Ex→Bool
 | .mk op _ _ _ _ _ ks=>decide (op = 6∧8 < ks.length) || wides ks
def wides : List Ex→Bool
 | []=>false
 | k :: ks=>wide k || wides ks
end
mutual
def dep : Ex→Nat
 | .mk _ _ _ _ _ _ ks=>deps ks + 1
def deps : List Ex→Nat
 | []=>0
 | k :: ks=>max (dep k) (deps ks)
end
def chk (e : Ex) : Nat:=if wide e = true then 4 else if 10 < dep e then 14 else 0
def zeroE : Ex:=.mk 0 false 0 [] [] [] []
/-- A text as an expression: the tree,the error. -/
def exprS (s : List UInt8) : Ex × Nat :=
 match words s with
 | .error e=>(zeroE,e)
 | .ok ts=>match P (8 * ts.length + 9) 7 ts with
  | none=>(zeroE,13)
  | some (e,r)=>if r ≠ [] then (zeroE,13) else if chk e = 0 then (e,0) else (zeroE,chk e)
end Go.Proofs.YtgnfndhmfgghdaaGreatDoor

/- What is read of a row of words is shorter behind it. -/
namespace Go.Proofs.YtgnfndhmfgghdaaGreatDoor
open Go Go.Vai
theorem isT_ne {k : Nat} {s : List UInt8} {ts : List Tok} (h : isT k s ts = true) : ∃ t r,ts = t :: r∧t.k = k∧t.s = s:=by
 match ts,h with
 | t :: r,h =>
  have h : decide (t.k = k∧t.s = s) = true:=h
  rw [decide_eq_true_eq] at h
  exact ⟨t,r,rfl,h.1,h.2⟩
theorem isT_lt {k : Nat} {s : List UInt8} {ts : List Tok} (h : isT k s ts = true) : (ts.drop 1).length < ts.length:=by
 obtain ⟨t,r,rfl,_⟩:=isT_ne h
 exact Nat.lt_succ_self _
def Dn (p : Rd) : Prop:=∀ ts e r,p ts = some (e,r)→r.length < ts.length
theorem sgL_lt {l : Nat} {ts : List Tok} (h : sgL l ts ≠ 0) : (ts.drop 1).length < ts.length:=by
 match ts,h with
 | t :: r,_=>exact Nat.lt_succ_self _
 | [],h =>
  exfalso; apply h
  unfold sgL
  repeat' split
  all_goals first | rfl | (rename_i q; cases q)
theorem sgC_lt {ts : List Tok} (h : sgC ts ≠ 0) : (ts.drop 1).length < ts.length:=by
 match ts,h with
 | t :: r,_=>exact Nat.lt_succ_self _
 | [],h=>exact absurd rfl h
theorem lftR_le {p : Rd} (hp : Dn p) {l : Nat} : ∀ k e ts e' r,lftR p l k e ts = some (e',r)→r.length≤ts.length
 | 0,e,ts,e',r,h=>by
  unfold lftR at h; cases h; exact Nat.le_refl _
 | k + 1,e,ts,e',r,h=>by
  unfold lftR at h
  by_cases q : sgL l ts = 0
  ·rw [if_pos q] at h; cases h; exact Nat.le_refl _
  ·rw [if_neg q] at h
   have h1:=sgL_lt q
   cases hp1 : p (ts.drop 1) with
   | none=>rw [hp1] at h; cases h
   | some x =>
    rw [hp1] at h
    have h2:=hp _ _ _ hp1
    have h3:=lftR_le hp k _ _ _ _ h
    omega
theorem memR_le {p : Rd} (hp : Dn p) : ∀ k e ts e' r,memR p k e ts = some (e',r)→r.length≤ts.length
 | 0,e,ts,e',r,h=>by
  unfold memR at h; cases h; exact Nat.le_refl _
 | k + 1,e,ts,e',r,h=>by
  unfold memR at h
  by_cases q : isT 4 [46] ts = true
  ·rw [if_pos q] at h
   obtain ⟨t0,r0,rfl,_⟩:=isT_ne q
   rw [List.drop_one,List.tail_cons] at h
   match r0,h with
   | t :: u,h =>
    have h : (if t.k ≠ 1 then none else if isT 4 [40] u = true then (if t.s = tCont then (match p (u.drop 1) with | none=>none | some (b,q)=>if isT 4 [41] q = true then memR p k (two 9 e b) (q.drop 1) else none) else none) else memR p k (get1 7 t.s e) u) = some (e',r):=h
    by_cases q1 : t.k ≠ 1
    ·rw [if_pos q1] at h; cases h
    ·rw [if_neg q1] at h
     by_cases q2 : isT 4 [40] u = true
     ·rw [if_pos q2] at h
      by_cases q3 : t.s = tCont
      ·rw [if_pos q3] at h
       have h1:=isT_lt q2
       cases hp1 : p (u.drop 1) with
       | none=>rw [hp1] at h; cases h
       | some x =>
        rw [hp1] at h
        have h : (if isT 4 [41] x.2 = true then memR p k (two 9 e x.1) (x.2.drop 1) else none) = some (e',r):=h
        have h2:=hp _ _ _ hp1
        by_cases q4 : isT 4 [41] x.2 = true
        ·rw [if_pos q4] at h
         have h3:=isT_lt q4
         have h4:=memR_le hp k _ _ _ _ h
         simp only [List.length_cons]; omega
        ·rw [if_neg q4] at h; cases h
      ·rw [if_neg q3] at h; cases h
     ·rw [if_neg q2] at h
      have h4:=memR_le hp k _ _ _ _ h
      simp only [List.length_cons]; omega
  ·rw [if_neg q] at h; cases h; exact Nat.le_refl _
theorem rowR_lt {p : Rd} (hp : Dn p) : ∀ k acc ts l r,rowR p k acc ts = some (l,r)→r.length < ts.length
 | 0,acc,ts,l,r,h=>by unfold rowR at h; cases h
 | k + 1,acc,ts,l,r,h=>by
  unfold rowR at h
  cases hp1 : p ts with
  | none=>rw [hp1] at h; cases h
  | some x =>
   rw [hp1] at h
   have h : (if isT 4 [44] x.2 = true then rowR p k (acc ++ [x.1]) (x.2.drop 1) else if isT 4 [93] x.2 = true then some (acc ++ [x.1],x.2.drop 1) else none) = some (l,r):=h
   have h1:=hp _ _ _ hp1
   by_cases q : isT 4 [44] x.2 = true
   ·rw [if_pos q] at h
    have h2:=isT_lt q
    have h3:=rowR_lt hp k _ _ _ _ h
    omega
   ·rw [if_neg q] at h
    by_cases q2 : isT 4 [93] x.2 = true
    ·rw [if_pos q2] at h; cases h
     have h2:=isT_lt q2
     omega
    ·rw [if_neg q2] at h; cases h
theorem wName_lt {ts : List Tok} {s : List UInt8} {r : List Tok} (h : wName ts = some (s,r)) : r.length < ts.length:=by
 unfold wName at h
 match ts,h with
 | t :: u,h =>
  have h : (if t.k = 1 then some (t.s,u) else none) = some (s,r):=h
  split at h
  ·cases h; exact Nat.lt_succ_self _
  ·cases h
theorem wStr_lt {ts : List Tok} {s : List UInt8} {r : List Tok} (h : wStr ts = some (s,r)) : r.length < ts.length:=by
 unfold wStr at h
 match ts,h with
 | t :: u,h =>
  have h : (if t.k = 3 then some (t.s,u) else none) = some (s,r):=h
  split at h
  ·cases h; exact Nat.lt_succ_self _
  ·cases h
theorem rel1_le {p : Rd} (hp : Dn p) {e : Ex} {ts : List Tok} {e' : Ex} {r : List Tok} (h : rel1 p e ts = some (e',r)) : r.length≤ts.length:=by
 unfold rel1 at h
 by_cases q : sgC ts ≠ 0
 ·rw [if_pos q] at h
  have h1:=sgC_lt q
  cases hp1 : p (ts.drop 1) with
  | none=>rw [hp1] at h; cases h
  | some x =>
   rw [hp1] at h; cases h
   have h2:=hp _ _ _ hp1
   omega
 ·rw [if_neg q] at h
  by_cases q1 : isT 1 tHas ts = true
  ·rw [if_pos q1] at h
   have h1:=isT_lt q1
   cases hp1 : wName (ts.drop 1) with
   | none=>rw [hp1] at h; cases h
   | some x =>
    rw [hp1] at h; cases h
    have h2:=wName_lt hp1
    omega
  ·rw [if_neg q1] at h
   by_cases q2 : isT 1 tLike ts = true
   ·rw [if_pos q2] at h
    have h1:=isT_lt q2
    cases hp1 : wStr (ts.drop 1) with
    | none=>rw [hp1] at h; cases h
    | some x =>
     rw [hp1] at h; cases h
     have h2:=wStr_lt hp1
     omega
   ·rw [if_neg q2] at h; cases h; exact Nat.le_refl _
theorem prim1_lt {p : Rd} (hp : Dn p) {ts : List Tok} {e : Ex} {r : List Tok} (h : prim1 p ts = some (e,r)) : r.length < ts.length:=by
 unfold prim1 at h
 match ts,h with
 | t :: u,h =>
  simp only at h
  have hu : (t :: u).length = u.length + 1:=rfl
  have hdrop : (u.drop 1).length≤u.length:=by rw [List.length_drop]; omega
  rw [hu]
  repeat' split at h
  all_goals first
   | (cases h; done)
   | (cases h; omega)
   | (cases h; rename_i q; have:=wStr_lt q; omega)
   | (cases h; rename_i q; have:=hp _ _ _ q; rw [List.length_drop]; omega)
   | (cases h; rename_i q _; have:=hp _ _ _ q; rw [List.length_drop]; omega)
   | (cases h; rename_i q; have:=rowR_lt hp _ _ _ _ _ q; omega)
theorem if1_lt {p : Rd} (hp : Dn p) {ts : List Tok} {e : Ex} {r : List Tok} (h : if1 p ts = some (e,r)) : r.length < ts.length:=by
 unfold if1 at h
 cases hp1 : p ts with
 | none=>rw [hp1] at h; cases h
 | some x =>
  rw [hp1] at h
  have h : (if isT 1 tThen x.2 = true then (match p (x.2.drop 1) with | none=>none | some (b,q)=>if isT 1 tElse q = true then (match p (q.drop 1) with | none=>none | some (c,u)=>some (Ex.mk 25 false 0 [] [] [] [x.1,b,c],u)) else none) else none) = some (e,r):=h
  have h1:=hp _ _ _ hp1
  by_cases q : isT 1 tThen x.2 = true
  ·rw [if_pos q] at h
   have h2:=isT_lt q
   cases hp2 : p (x.2.drop 1) with
   | none=>rw [hp2] at h; cases h
   | some z =>
    rw [hp2] at h
    have h : (if isT 1 tElse z.2 = true then (match p (z.2.drop 1) with | none=>none | some (c,u)=>some (Ex.mk 25 false 0 [] [] [] [x.1,z.1,c],u)) else none) = some (e,r):=h
    have h3:=hp _ _ _ hp2
    by_cases q2 : isT 1 tElse z.2 = true
    ·rw [if_pos q2] at h
     have h4:=isT_lt q2
     cases hp3 : p (z.2.drop 1) with
     | none=>rw [hp3] at h; cases h
     | some w =>
      rw [hp3] at h; cases h
      have h5:=hp _ _ _ hp3
      omega
    ·rw [if_neg q2] at h; cases h
  ·rw [if_neg q] at h; cases h
theorem P_lt : ∀ n l,Dn (P n l)
 | 0,l,ts,e,r,h=>by unfold P at h; cases h
 | n + 1,l,ts,e,r,h=>by
  have ih : ∀ l,Dn (P n l):=P_lt n
  unfold P at h
  have hd : (ts.drop 1).length≤ts.length:=by rw [List.length_drop]; omega
  by_cases q7 : l = 7
  ·rw [if_pos q7] at h
   split at h
   ·have:=if1_lt (ih 7) h; omega
   ·exact ih _ _ _ _ h
  rw [if_neg q7] at h
  by_cases q4 : l = 4
  ·rw [if_pos q4] at h
   cases hp1 : P n 3 ts with
   | none=>rw [hp1] at h; cases h
   | some x =>
    rw [hp1] at h
    have h1:=ih _ _ _ _ hp1
    have h2:=rel1_le (ih 3) (e:=x.1) (ts:=x.2) h
    omega
  rw [if_neg q4] at h
  by_cases q1 : l = 1
  ·rw [if_pos q1] at h
   split at h
   ·rename_i q
    have h0:=isT_lt q
    cases hp1 : P n 1 (ts.drop 1) with
    | none=>rw [hp1] at h; cases h
    | some x=>rw [hp1] at h; cases h; have h1:=ih _ _ _ _ hp1; omega
   ·split at h
    ·rename_i q
     have h0:=isT_lt q
     cases hp1 : P n 1 (ts.drop 1) with
     | none=>rw [hp1] at h; cases h
     | some x=>rw [hp1] at h; cases h; have h1:=ih _ _ _ _ hp1; omega
    ·exact ih _ _ _ _ h
  rw [if_neg q1] at h
  by_cases q0 : l = 0
  ·rw [if_pos q0] at h
   cases hp1 : prim1 (P n 7) ts with
   | none=>rw [hp1] at h; cases h
   | some x =>
    rw [hp1] at h
    have h1:=prim1_lt (ih 7) hp1
    have h2:=memR_le (ih 7) _ _ _ _ _ h
    omega
  rw [if_neg q0] at h
  cases hp1 : P n (l - 1) ts with
  | none=>rw [hp1] at h; cases h
  | some x =>
   rw [hp1] at h
   have h1:=ih _ _ _ _ hp1
   have h2:=lftR_le (ih (l - 1)) _ _ _ _ _ h
   omega
end Go.Proofs.YtgnfndhmfgghdaaGreatDoor

/- Runes and their bytes. -/
namespace Go.Proofs.YtgnfndhmfgghdaaGreatDoor
open Go Go.Vai
theorem u8n {n : Nat} (h : n < 256) : (UInt8.ofNat n).toNat = n:=by rw [UInt8.toNat_ofNat',Nat.mod_eq_of_lt h]
theorem isR_le {c : Nat} (h : isR c = true) : c < 55296 ∨ (57344≤c∧c≤1114111):=by
 unfold isR at h
 rw [Bool.or_eq_true,Bool.and_eq_true,decide_eq_true_eq,decide_eq_true_eq,decide_eq_true_eq] at h
 exact h
theorem isR_of {c : Nat} (h : c < 55296 ∨ (57344≤c∧c≤1114111)) : isR c = true:=by
 unfold isR
 rw [Bool.or_eq_true,Bool.and_eq_true,decide_eq_true_eq,decide_eq_true_eq,decide_eq_true_eq]
 exact h
theorem by0_0 {b : UInt8} {r : List UInt8} : by0 (b :: r) 0 = b.toNat:=rfl
theorem by0_s {b : UInt8} {r : List UInt8} {i : Nat} : by0 (b :: r) (i + 1) = by0 r i:=rfl
theorem co0_s {b : UInt8} {r : List UInt8} {i : Nat} : co0 (b :: r) (i + 1) = co0 r i:=by
 unfold co0
 rw [by0_s,List.length_cons]
 congr 1
 rw [decide_eq_decide]; omega
theorem co0_0 {b : UInt8} {r : List UInt8} (h : b.toNat / 64 = 2) : co0 (b :: r) 0 = true:=by
 unfold co0
 rw [by0_0,h]; rfl
theorem en1_len (c : Nat) : 1≤(en1 c).length∧(en1 c).length≤4:=by
 unfold en1
 repeat' split
 all_goals (simp only [List.length_cons,List.length_nil]; omega)
theorem dec1_en1 {c : Nat} (h : isR c = true) (r : List UInt8) : dec1 (en1 c ++ r) = some (c,(en1 c).length):=by
 have hc:=isR_le h
 unfold en1
 by_cases h1 : c < 128
 ·rw [if_pos h1]
  unfold dec1
  simp only [List.cons_append,List.nil_append,by0_0,u8n (show c < 256 by omega),if_neg (List.cons_ne_nil _ _),if_pos h1]
  rfl
 rw [if_neg h1]
 by_cases h2 : c < 2048
 ·rw [if_pos h2]
  have e0 : (UInt8.ofNat (192 + c / 64)).toNat = 192 + c / 64:=u8n (by omega)
  have e1 : (UInt8.ofNat (128 + c % 64)).toNat = 128 + c % 64:=u8n (by omega)
  have k1 : co0 (UInt8.ofNat (192 + c / 64) :: UInt8.ofNat (128 + c % 64) :: r) 1 = true:=by rw [co0_s,co0_0 (by rw [e1]; omega)]
  have m : mk2 (192 + c / 64) (128 + c % 64) = c:=by unfold mk2; omega
  unfold dec1
  simp only [List.cons_append,List.nil_append,by0_0,by0_s,e0,e1,if_neg (List.cons_ne_nil _ _),k1,and_true,m]
  rw [if_neg (by omega),if_pos (by omega),if_pos (by omega)]
  rfl
 rw [if_neg h2]
 by_cases h3 : c < 65536
 ·rw [if_pos h3]
  have e0 : (UInt8.ofNat (224 + c / 4096)).toNat = 224 + c / 4096:=u8n (by omega)
  have e1 : (UInt8.ofNat (128 + c / 64 % 64)).toNat = 128 + c / 64 % 64:=u8n (by omega)
  have e2 : (UInt8.ofNat (128 + c % 64)).toNat = 128 + c % 64:=u8n (by omega)
  have k1 : co0 (UInt8.ofNat (224 + c / 4096) :: UInt8.ofNat (128 + c / 64 % 64) :: UInt8.ofNat (128 + c % 64) :: r) 1 = true:=by rw [co0_s,co0_0 (by rw [e1]; omega)]
  have k2 : co0 (UInt8.ofNat (224 + c / 4096) :: UInt8.ofNat (128 + c / 64 % 64) :: UInt8.ofNat (128 + c % 64) :: r) 2 = true:=by rw [co0_s,co0_s,co0_0 (by rw [e2]; omega)]
  have m : mk3 (224 + c / 4096) (128 + c / 64 % 64) (128 + c % 64) = c:=by unfold mk3; omega
  unfold dec1
  simp only [List.cons_append,List.nil_append,by0_0,by0_s,e0,e1,e2,if_neg (List.cons_ne_nil _ _),k1,k2,and_true,m,h]
  rw [if_neg (by omega),if_neg (by omega),if_pos (by omega),if_pos (by omega)]
  rfl
 rw [if_neg h3]
 ·have e0 : (UInt8.ofNat (240 + c / 262144)).toNat = 240 + c / 262144:=u8n (by omega)
  have e1 : (UInt8.ofNat (128 + c / 4096 % 64)).toNat = 128 + c / 4096 % 64:=u8n (by omega)
  have e2 : (UInt8.ofNat (128 + c / 64 % 64)).toNat = 128 + c / 64 % 64:=u8n (by omega)
  have e3 : (UInt8.ofNat (128 + c % 64)).toNat = 128 + c % 64:=u8n (by omega)
  have k1 : co0 (UInt8.ofNat (240 + c / 262144) :: UInt8.ofNat (128 + c / 4096 % 64) :: UInt8.ofNat (128 + c / 64 % 64) :: UInt8.ofNat (128 + c % 64) :: r) 1 = true:=by rw [co0_s,co0_0 (by rw [e1]; omega)]
  have k2 : co0 (UInt8.ofNat (240 + c / 262144) :: UInt8.ofNat (128 + c / 4096 % 64) :: UInt8.ofNat (128 + c / 64 % 64) :: UInt8.ofNat (128 + c % 64) :: r) 2 = true:=by rw [co0_s,co0_s,co0_0 (by rw [e2]; omega)]
  have k3 : co0 (UInt8.ofNat (240 + c / 262144) :: UInt8.ofNat (128 + c / 4096 % 64) :: UInt8.ofNat (128 + c / 64 % 64) :: UInt8.ofNat (128 + c % 64) :: r) 3 = true:=by rw [co0_s,co0_s,co0_s,co0_0 (by rw [e3]; omega)]
  have m : mk4 (240 + c / 262144) (128 + c / 4096 % 64) (128 + c / 64 % 64) (128 + c % 64) = c:=by unfold mk4; omega
  unfold dec1
  simp only [List.cons_append,List.nil_append,by0_0,by0_s,e0,e1,e2,e3,if_neg (List.cons_ne_nil _ _),k1,k2,k3,and_true,m,h]
  rw [if_neg (by omega),if_neg (by omega),if_neg (by omega),if_pos (by omega),if_pos (by omega)]
  rfl
theorem co0_lt {s : List UInt8} {i : Nat} (h : co0 s i = true) : i < s.length:=by
 unfold co0 at h
 rw [Bool.and_eq_true,decide_eq_true_eq] at h
 exact h.1
theorem dec1_ok {s : List UInt8} {c w : Nat} (h : dec1 s = some (c,w)) : isR c = true∧1≤w∧w≤s.length:=by
 unfold dec1 at h
 simp only at h
 have hl : s ≠ []→1≤s.length:=fun q=>by cases s with | nil=>exact absurd rfl q | cons _ _=>exact Nat.succ_le_succ (Nat.zero_le _)
 have hb : by0 s 1 % 64 < 64:=Nat.mod_lt _ (by decide)
 by_cases h0 : s = []
 ·rw [if_pos h0] at h; cases h
 rw [if_neg h0] at h
 have hl:=hl h0
 by_cases h1 : by0 s 0 < 128
 ·rw [if_pos h1] at h; cases h
  exact ⟨isR_of (by omega),Nat.le_refl _,hl⟩
 rw [if_neg h1] at h
 by_cases h2 : by0 s 0 / 32 = 6∧co0 s 1 = true
 ·rw [if_pos h2] at h
  have:=co0_lt h2.2
  split at h
  ·cases h
   exact ⟨isR_of (by unfold mk2; omega),by decide,by omega⟩
  ·cases h
 rw [if_neg h2] at h
 by_cases h3 : by0 s 0 / 16 = 14∧co0 s 1 = true∧co0 s 2 = true
 ·rw [if_pos h3] at h
  have:=co0_lt h3.2.2
  split at h
  ·rename_i q
   cases h
   exact ⟨q.2,by decide,by omega⟩
  ·cases h
 rw [if_neg h3] at h
 by_cases h4 : by0 s 0 / 8 = 30∧co0 s 1 = true∧co0 s 2 = true∧co0 s 3 = true
 ·rw [if_pos h4] at h
  have:=co0_lt h4.2.2.2
  split at h
  ·rename_i q
   cases h
   exact ⟨q.2,by decide,by omega⟩
  ·cases h
 rw [if_neg h4] at h; cases h
theorem enc_cons {c : Nat} {l : List Nat} : enc (c :: l) = en1 c ++ enc l:=rfl
theorem enc_app {l m : List Nat} : enc (l ++ m) = enc l ++ enc m:=List.flatMap_append
theorem rnsF_enc : ∀ (l : List Nat) (n : Nat),(∀ c ∈ l,isR c = true)→(enc l).length≤n→rnsF n (enc l) = some l
 | [],n,_,_=>by cases n <;> rfl
 | c :: l,n,hl,hn=>by
  have hc:=hl c (List.mem_cons_self ..)
  have e1:=en1_len c
  have hd:=dec1_en1 hc (enc l)
  rw [enc_cons,List.length_append] at hn
  obtain ⟨n,rfl⟩ : ∃ m,n = m + 1:=⟨n - 1,by omega⟩
  have ih:=rnsF_enc l n (fun x hx=>hl x (List.mem_cons_of_mem _ hx)) (by omega)
  rw [enc_cons]
  cases hs : en1 c ++ enc l with
  | nil=>rw [List.append_eq_nil_iff] at hs; rw [hs.1] at e1; exact absurd e1.1 (by decide)
  | cons b r =>
   rw [hs] at hd
   unfold rnsF
   rw [hd]
   show (rnsF n ((b :: r).drop (en1 c).length)).map (c :: ·) = _
   rw [← hs,List.drop_left,ih]; rfl
theorem rns_enc {l : List Nat} (h : ∀ c ∈ l,isR c = true) : rns (enc l) = some l:=rnsF_enc l _ h (Nat.le_refl _)
/-- More fuel does not matter. -/
theorem rnsF_more : ∀ (n m : Nat) (s : List UInt8),s.length≤n→s.length≤m→rnsF n s = rnsF m s
 | n,m,[],_,_=>by cases n <;> cases m <;> rfl
 | 0,_,b :: r,h,_=>absurd h (by simp)
 | _,0,b :: r,_,h=>absurd h (by simp)
 | n + 1,m + 1,b :: r,h1,h2=>by
  unfold rnsF
  cases hd : dec1 (b :: r) with
  | none=>rfl
  | some x =>
   obtain ⟨_,k1,k2⟩:=dec1_ok (c:=x.1) (w:=x.2) hd
   have hl : ((b :: r).drop x.2).length≤r.length:=by rw [List.length_drop]; simp only [List.length_cons] at *; omega
   simp only [List.length_cons] at h1 h2
   show (rnsF n ((b :: r).drop x.2)).map _ = (rnsF m ((b :: r).drop x.2)).map _
   rw [rnsF_more n m _ (by omega) (by omega)]
theorem rns_step {s : List UInt8} {c w : Nat} (h : dec1 s = some (c,w)) : rns s = (rns (s.drop w)).map (c :: ·):=by
 obtain ⟨_,k1,k2⟩:=dec1_ok h
 match s,h,k2 with
 | b :: r,h,k2 =>
  have hl : ((b :: r).drop w).length≤r.length:=by rw [List.length_drop]; simp only [List.length_cons] at *; omega
  show rnsF (r.length + 1) (b :: r) = _
  unfold rnsF
  rw [h]
  show (rnsF r.length ((b :: r).drop w)).map _ = _
  unfold rns
  rw [rnsF_more r.length _ _ hl (Nat.le_refl _)]
theorem rns_no {s : List UInt8} (h : dec1 s = none) (h0 : s ≠ []) : rns s = none:=by
 match s,h,h0 with
 | b :: r,h,_ =>
  show rnsF (r.length + 1) (b :: r) = _
  unfold rnsF
  rw [h]
theorem rns_nil : rns [] = some []:=rfl
end Go.Proofs.YtgnfndhmfgghdaaGreatDoor

/- Blanks,remarks,rows of letters and digits. -/
namespace Go.Proofs.YtgnfndhmfgghdaaGreatDoor
open Go Go.Vai
theorem cntW_le (p : UInt8→Bool) : ∀ s,cntW p s≤s.length
 | []=>Nat.le_refl _
 | b :: r=>by
  unfold cntW
  have:=cntW_le p r
  split
  ·rw [List.length_cons]; omega
  ·exact Nat.zero_le _
theorem cntW_cons {p : UInt8→Bool} {b : UInt8} {r : List UInt8} : cntW p (b :: r) = if p b = true then cntW p r + 1 else 0:=rfl
/-- All ahead are such; the next one is not. -/
theorem cntW_at {p : UInt8→Bool} : ∀ {s : List UInt8} {i : Nat} {b : UInt8},s[i]? = some b→i < cntW p s→p b = true
 | c :: r,0,b,h,hi=>by
  cases h
  rw [cntW_cons] at hi
  split at hi
  ·assumption
  ·exact absurd hi (Nat.not_lt_zero _)
 | c :: r,i + 1,b,h,hi=>by
  rw [cntW_cons] at hi
  split at hi
  ·exact cntW_at (s:=r) (i:=i) h (by omega)
  ·exact absurd hi (Nat.not_lt_zero _)
theorem cntW_end {p : UInt8→Bool} : ∀ {s : List UInt8} {b : UInt8},s[cntW p s]? = some b→p b = false
 | [],b,h=>by cases h
 | c :: r,b,h=>by
  rw [cntW_cons] at h
  split at h
  ·exact cntW_end (s:=r) h
  ·rename_i q
   cases h
   cases hp : p c with
   | true=>exact absurd hp q
   | false=>rfl
/-- It is the first place from which on they stop. -/
theorem cntW_is {p : UInt8→Bool} : ∀ {s : List UInt8} {n : Nat},n≤s.length→(∀ i b,i < n→s[i]? = some b→p b = true)→(∀ b,s[n]? = some b→p b = false)→cntW p s = n
 | [],n,hn,_,_=>by
  obtain rfl : n = 0:=Nat.le_zero.mp hn
  rfl
 | c :: r,0,hn,h1,h2=>by
  rw [cntW_cons,if_neg]
  rw [h2 c rfl]; decide
 | c :: r,n + 1,hn,h1,h2=>by
  rw [cntW_cons,if_pos (h1 0 c (Nat.succ_pos _) rfl),cntW_is (s:=r) (n:=n) (by simp only [List.length_cons] at hn; omega) (fun i b hi hb=>h1 (i + 1) b (by omega) hb) (fun b hb=>h2 b hb)]
def blkS (s : List UInt8) : Nat:=blk s.length s
theorem eol_pos {b : UInt8} {r : List UInt8} (h : b ≠ 10) : 1≤eol (b :: r):=by
 unfold eol
 rw [cntW_cons,if_pos (by rw [decide_eq_true_eq]; exact h)]
 exact Nat.succ_le_succ (Nat.zero_le _)
theorem blk_more : ∀ (n m : Nat) (s : List UInt8),s.length≤n→s.length≤m→blk n s = blk m s
 | n,m,[],_,_=>by cases n <;> cases m <;> rfl
 | 0,_,b :: r,h,_=>absurd h (by simp)
 | _,0,b :: r,_,h=>absurd h (by simp)
 | n + 1,m + 1,b :: r,h1,h2=>by
  simp only [List.length_cons] at h1 h2
  unfold blk
  by_cases q : b = 47∧r.head? = some 47
  ·rw [if_pos q,if_pos q]
   have hp:=eol_pos (b:=b) (r:=r) (by rw [q.1]; decide)
   have hl : ((b :: r).drop (eol (b :: r))).length≤r.length:=by rw [List.length_drop,List.length_cons]; omega
   rw [blk_more n m _ (by omega) (by omega)]
  ·rw [if_neg q,if_neg q]
   split
   ·rw [blk_more n m _ (by omega) (by omega)]
   ·rfl
theorem blkS_nil : blkS [] = 0:=rfl
theorem blkS_cons {b : UInt8} {r : List UInt8} : blkS (b :: r) = if b = 47∧r.head? = some 47 then eol (b :: r) + blkS ((b :: r).drop (eol (b :: r))) else if isB b = true then 1 + blkS r else 0:=by
 show blk (r.length + 1) (b :: r) = _
 unfold blk
 by_cases q : b = 47∧r.head? = some 47
 ·rw [if_pos q,if_pos q]
  have hp:=eol_pos (b:=b) (r:=r) (by rw [q.1]; decide)
  have hl : ((b :: r).drop (eol (b :: r))).length≤r.length:=by rw [List.length_drop,List.length_cons]; omega
  unfold blkS
  rw [blk_more r.length _ _ hl (Nat.le_refl _)]
 ·rw [if_neg q,if_neg q]; rfl
theorem blkS_le : ∀ s,blkS s≤s.length:=by
 intro s
 induction hn : s.length using Nat.strongRecOn generalizing s with
 | _ n ih =>
  subst hn
  match s with
  | []=>exact Nat.le_refl _
  | b :: r =>
   rw [blkS_cons]
   have hle:=cntW_le (fun b=>decide (b ≠ 10)) (b :: r)
   by_cases q : b = 47∧r.head? = some 47
   ·rw [if_pos q]
    have hp:=eol_pos (b:=b) (r:=r) (by rw [q.1]; decide)
    have hl : ((b :: r).drop (eol (b :: r))).length = (b :: r).length - eol (b :: r):=List.length_drop
    have h:=ih _ (by rw [hl,List.length_cons]; omega) ((b :: r).drop (eol (b :: r))) rfl
    have hle : eol (b :: r)≤(b :: r).length:=hle
    omega
   ·rw [if_neg q]
    split
    ·have h:=ih r.length (by rw [List.length_cons]; omega) r rfl
     rw [List.length_cons]; omega
    ·exact Nat.zero_le _
theorem drop_at {s : List UInt8} {i : Nat} {b : UInt8} (h : s[i]? = some b) : s.drop i = b :: s.drop (i + 1):=by
 obtain ⟨hi,e⟩:=List.getElem?_eq_some_iff.mp h
 rw [List.drop_eq_getElem_cons hi,e]
theorem head_drop {s : List UInt8} {i : Nat} : (s.drop i).head? = s[i]?:=List.head?_drop
/-- One more digit. -/
theorem valD_snoc {s : List UInt8} {b : UInt8} : valD (s ++ [b]) = 10 * valD s + (b.toNat - 48):=by
 unfold valD; rw [List.foldl_append]; rfl
theorem valD_take {s : List UInt8} {i : Nat} {b : UInt8} (h : s[i]? = some b) : valD (s.take (i + 1)) = 10 * valD (s.take i) + (b.toNat - 48):=by
 rw [List.take_add_one,h]; exact valD_snoc
/-- It does not go down. -/
theorem valD_le {s t : List UInt8} : valD s≤valD (s ++ t):=by
 induction t generalizing s with
 | nil=>rw [List.append_nil]; exact Nat.le_refl _
 | cons b t ih =>
  rw [show s ++ b :: t = (s ++ [b]) ++ t by simp]
  refine Nat.le_trans ?_ ih
  rw [valD_snoc]; omega
theorem hexs_le : ∀ (n : Nat) (s : List UInt8) (v : Nat),(hexs n s v).1≤n∧(hexs n s v).1≤s.length
 | 0,s,v=>by unfold hexs; exact ⟨Nat.le_refl _,Nat.zero_le _⟩
 | n + 1,[],v=>by unfold hexs; exact ⟨Nat.zero_le _,Nat.zero_le _⟩
 | n + 1,b :: r,v=>by
  unfold hexs
  cases hexv b with
  | none=>exact ⟨Nat.zero_le _,Nat.zero_le _⟩
  | some d =>
   have:=hexs_le n r (16 * v + d)
   simp only [List.length_cons]; omega
end Go.Proofs.YtgnfndhmfgghdaaGreatDoor
