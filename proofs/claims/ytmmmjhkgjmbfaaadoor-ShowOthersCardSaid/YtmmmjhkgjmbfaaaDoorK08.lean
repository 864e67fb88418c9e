/- A verified interpreter of the model's code, and what the functions that show schemas and entities tell by it: part 8 (S16, S17, S18, S19, S20, S21, S22, S36, S37). No condition but those that each statement bears. -/
import Derived.Test.YtmmmjhkgjmbfaaaDoorK07
set_option linter.unusedVariables false
set_option linter.unusedSimpArgs false
set_option linter.unusedSectionVars false
set_option linter.constructorNameAsVariable false
set_option linter.unnecessarySimpa false
/- Small numbers by sixteens (strconv.FormatInt); a rune as it is quoted (text.shown). -/
namespace Go.Proofs.YtmmmjhkgjmbfaaaDoor
open Go Go.Vai
set_option maxRecDepth 100000
set_option maxHeartbeats 1600000
set_option linter.unusedSimpArgs false
/-- What the fours' place in the row of last ones is,as it is laid. -/
def Glob3 (H : Heap) : Prop:=(toPa 3).toN < H.next.toN∧∃ ro fz e c,H.get (toPa 3) = .cells ro fz e 64 c∧Tr.get .u c (toPa 15) = .i .u8 4
theorem Glob3.grow {H H' : Heap} (h : Glob3 H) (g : Grow H H') : Glob3 H':=by
 obtain ⟨h1,ro,fz,e,c,h2,h3⟩:=h
 exact ⟨Nat.lt_of_lt_of_le h1 g.next,ro,fz,e,c,by rw [g.get _ h1,h2],h3⟩
theorem Glob3.ld {R : Type} {H : Heap} (h : Glob3 H) (k : HK R) : ldC false 1 (.p (toPa 3) 15) k H = k (.i .u8 4) H:=by
 obtain ⟨h1,ro,fz,e,c,h2,h3⟩:=h
 rw [ld_one h2 (by omega),h3]
theorem s91 {R : Type} {H : Heap} (hG : Glob3 H) {M : Nat} (hM : 60≤M) (k : HK R) : callK tbl (runK tbl M) R (toPa 91) [.i .u64 16] H k = k (.i .i64 4) H:=by
 obtain ⟨m,rfl⟩ : ∃ m,M = m + 60:=⟨M - 60,by omega⟩
 have w1 : IntKind.u64.wrap (-16) = 18446744073709551600:=by decide
 have w2 : IntKind.u64.wrap (16 * 285870213051353865) = 4573923408821661840:=by decide
 have w3 : IntKind.i64.wrap 4 = 4:=by decide
 have ha : ∀ (R : Type) (k : HK R) (H : Heap),binC .and .no (.i .u64 16) (.i .u64 18446744073709551600) k H = k (.i .u64 16) H:=fun R k H=>i_and (a:=16) (b:=18446744073709551600) rfl rfl
 have hs : ∀ (R : Type) (k : HK R) (H : Heap),binC .shr .no (.i .u64 4573923408821661840) (.i .u64 58) k H = k (.i .u64 15) H:=fun R k H=>shr_n (a:=4573923408821661840) (b:=58) (by decide)
 have hi : ∀ (R : Type) (k : HK R) (H : Heap),ixpC 64 1 (.p (toPa 3) 0) (.i .u64 15) k H = k (.p (toPa 3) 15) H:=fun R k H=>ixp_p (by decide) (by decide)
 rw [call_eq L91]
 unfold B91
 simp only [EX,reduceIte,Nat.reduceEqDiff,Nat.reduceAdd,Int.reduceEq,Int.reduceLT,Int.reduceLE,reduceCtorEq,Nat.reduceLeDiff,Nat.reduceSub,Nat.reduceLT,w1,ha,i_mul,w2,hs,hi]
 rw [hG.ld]
 simp only [EX,reduceIte,Nat.reduceEqDiff,Nat.reduceAdd,Int.reduceEq,Int.reduceLT,Int.reduceLE,reduceCtorEq,Nat.reduceLeDiff,Nat.reduceSub,Nat.reduceLT,w3]
theorem s89 {R : Type} {H : Heap} (hG : Glob3 H) {M : Nat} (hM : 80≤M) (k : HK R) : callK tbl (runK tbl M) R (toPa 89) [.i .u64 16] H k = k (.i .i64 4) H:=by
 obtain ⟨m,rfl⟩ : ∃ m,M = m + 80:=⟨M - 80,by omega⟩
 rw [call_eq L89]
 unfold B89
 simp only [EX,reduceIte,Nat.reduceEqDiff,Nat.reduceAdd,Int.reduceEq,Int.reduceLT,Int.reduceLE,reduceCtorEq,Nat.reduceLeDiff,Nat.reduceSub,Nat.reduceLT]
 rw [s91 hG (by omega)]
 simp only [EX,reduceIte,Nat.reduceEqDiff,Nat.reduceAdd,Int.reduceEq,Int.reduceLT,Int.reduceLE,reduceCtorEq,Nat.reduceLeDiff,Nat.reduceSub,Nat.reduceLT]
theorem q88 {R : Type} (m : Nat) (H : Heap) (k : HK R) : runK tbl (m + 60) R B88 (frame0 [.i .i64 16] 0 .leaf) H (leaveK [(.tmp (toPa 2))] k) = k (.b true) H:=by kernel_rfl
theorem s88 {R : Type} {H : Heap} {M : Nat} (hM : 60≤M) (k : HK R) : callK tbl (runK tbl M) R (toPa 88) [.i .i64 16] H k = k (.b true) H:=by
 obtain ⟨m,rfl⟩ : ∃ m,M = m + 60:=⟨M - 60,by omega⟩
 rw [call_eq L88]
 exact q88 m H k
theorem d36_at {R : Type} {n : Nat} (h : n < 36) (H : Heap) (k : HK R) : ixsC (.s 36 93621433862240650313326231306435056417042768930449266319129758623240466503934737414522) (.i .u64 (n : Int)) k H = k (.i .u8 (((d36[n]?).getD 0).toNat : Int)) H:=by
 rw [d36S,ixs_str (b:=(d36[n]?).getD 0) (by omega) (by rw [Int.toNat_natCast,List.getElem?_eq_getElem (by exact h)]; rfl)]
theorem s83_1 {H : Heap} (hG : Glob3 H) : Tells 83 500 [.ns,.i .u64 1,.i .i64 16,.b false,.b false] H (.tu [.ns,str [49]]):=by
 obtain ⟨H1,e1⟩ : ∃ H1,H1 = H.alloc (.cells false 0 146 65 (setCells (List.replicate 65 (.i .u8 0)) 0 .leaf)):=⟨_,rfl⟩
 have g1 : Grow H H1:=by rw [e1]; exact Grow.alloc H _
 have n1 : H1.next.toN = H.next.toN + 1:=by rw [e1]; exact next_alloc H _
 have r1 : Row H1 H.next 146 (List.replicate 65 (.i .u8 0)):=by rw [e1]; exact Row.new H 146 (List.replicate 65 (.i .u8 0))
 have hl1 : (List.replicate 65 (.i .u8 0 : AV)).length = 65:=List.length_replicate
 obtain ⟨H2,r2,b2,n2,est2⟩:=r1.st_one (off:=64) (v:=.i .u8 49) (by omega) (by omega) rfl
 have n2' : H2.next.toN = H1.next.toN:=by rw [n2]
 have g3 : Grow H H2:=b2.of g1 (Nat.le_refl _)
 refine ⟨H2,g3,fun M hM R k=>?_⟩
 obtain ⟨m,rfl⟩ : ∃ m,M = m + 500:=⟨M - 500,by omega⟩
 have w16 : IntKind.u64.wrap 16 = 16:=by decide
 have w4 : IntKind.u64.wrap 4 = 4:=by decide
 have w15 : IntKind.u64.wrap (16 - 1) = 15:=by decide
 have z64 : IntKind.i64.wrap (65 - 1) = 64:=by decide
 have z63 : IntKind.i64.wrap (64 - 1) = 63:=by decide
 have i64 : ∀ (R : Type) (k : HK R) (G : Heap),ixpC 65 1 (.p H.next 0) (.i .i64 64) k G = k (.p H.next 64) G:=fun R k G=>ixp_p (by decide) (by decide)
 have i63 : ∀ (R : Type) (k : HK R) (G : Heap),ixpC 65 1 (.p H.next 0) (.i .i64 63) k G = k (.p H.next 63) G:=fun R k G=>ixp_p (by decide) (by decide)
 have c1 : ∀ (R : Type) (k : HK R) (H : Heap),ixsC (.s 36 93621433862240650313326231306435056417042768930449266319129758623240466503934737414522) (.i .u64 1) k H = k (.i .u8 49) H:=fun R k H=>d36_at (n:=1) (by decide) H k
 rw [call_eq L83]
 unfold B83
 simp only [EX,reduceIte,Nat.reduceEqDiff,Nat.reduceAdd,Int.reduceEq,Int.reduceLT,Int.reduceLE,reduceCtorEq,Nat.reduceLeDiff,Nat.reduceSub,Nat.reduceLT]
 rw [show H.alloc (.cells false 0 146 65 (setCells [.i .u8 0,.i .u8 0,.i .u8 0,.i .u8 0,.i .u8 0,.i .u8 0,.i .u8 0,.i .u8 0,.i .u8 0,.i .u8 0,.i .u8 0,.i .u8 0,.i .u8 0,.i .u8 0,.i .u8 0,.i .u8 0,.i .u8 0,.i .u8 0,.i .u8 0,.i .u8 0,.i .u8 0,.i .u8 0,.i .u8 0,.i .u8 0,.i .u8 0,.i .u8 0,.i .u8 0,.i .u8 0,.i .u8 0,.i .u8 0,.i .u8 0,.i .u8 0,.i .u8 0,.i .u8 0,.i .u8 0,.i .u8 0,.i .u8 0,.i .u8 0,.i .u8 0,.i .u8 0,.i .u8 0,.i .u8 0,.i .u8 0,.i .u8 0,.i .u8 0,.i .u8 0,.i .u8 0,.i .u8 0,.i .u8 0,.i .u8 0,.i .u8 0,.i .u8 0,.i .u8 0,.i .u8 0,.i .u8 0,.i .u8 0,.i .u8 0,.i .u8 0,.i .u8 0,.i .u8 0,.i .u8 0,.i .u8 0,.i .u8 0,.i .u8 0,.i .u8 0] 0 .leaf)) = H1 from e1.symm]
 rw [s88 (by omega)]
 simp only [EX,reduceIte,Nat.reduceEqDiff,Nat.reduceAdd,Int.reduceEq,Int.reduceLT,Int.reduceLE,reduceCtorEq,Nat.reduceLeDiff,Nat.reduceSub,Nat.reduceLT,w16]
 rw [s89 (hG.grow g1) (by omega)]
 simp only [EX,reduceIte,Nat.reduceEqDiff,Nat.reduceAdd,Int.reduceEq,Int.reduceLT,Int.reduceLE,reduceCtorEq,Nat.reduceLeDiff,Nat.reduceSub,Nat.reduceLT,w16,w4,w15,i_sub]
 rw [run_loop]
 simp only [EX,reduceIte,Nat.reduceEqDiff,Nat.reduceAdd,Int.reduceEq,Int.reduceLT,Int.reduceLE,reduceCtorEq,Nat.reduceLeDiff,Nat.reduceSub,Nat.reduceLT,w16,w4,w15,i_sub,z64,z63,i64,i63,est2,c1]
 rw [sla_from r2 (by simp) (by omega) (by omega)]
 simp only [EX,reduceIte,Nat.reduceEqDiff,Nat.reduceAdd,Int.reduceEq,Int.reduceLT,Int.reduceLE,reduceCtorEq,Nat.reduceLeDiff,Nat.reduceSub,Nat.reduceLT]
 refine (b2s_part r2 (s:=[49]) (off:=64) (len:=1) rfl (by simp) rfl).trans ?_
 simp only [EX,reduceIte,Nat.reduceEqDiff,Nat.reduceAdd,Int.reduceEq,Int.reduceLT,Int.reduceLE,reduceCtorEq,Nat.reduceLeDiff,Nat.reduceSub,Nat.reduceLT]
theorem s83_31 {H : Heap} (hG : Glob3 H) : Tells 83 500 [.ns,.i .u64 31,.i .i64 16,.b false,.b false] H (.tu [.ns,str [49,102]]):=by
 obtain ⟨H1,e1⟩ : ∃ H1,H1 = H.alloc (.cells false 0 146 65 (setCells (List.replicate 65 (.i .u8 0)) 0 .leaf)):=⟨_,rfl⟩
 have g1 : Grow H H1:=by rw [e1]; exact Grow.alloc H _
 have n1 : H1.next.toN = H.next.toN + 1:=by rw [e1]; exact next_alloc H _
 have r1 : Row H1 H.next 146 (List.replicate 65 (.i .u8 0)):=by rw [e1]; exact Row.new H 146 (List.replicate 65 (.i .u8 0))
 have hl1 : (List.replicate 65 (.i .u8 0 : AV)).length = 65:=List.length_replicate
 obtain ⟨H2,r2,b2,n2,est2⟩:=r1.st_one (off:=64) (v:=.i .u8 102) (by omega) (by omega) rfl
 have n2' : H2.next.toN = H1.next.toN:=by rw [n2]
 obtain ⟨H3,r3,b3,n3,est3⟩:=r2.st_one (off:=63) (v:=.i .u8 49) (by omega) (by rw [List.length_set]; omega) rfl
 have g3 : Grow H H3:=(b2.trans b3).of g1 (Nat.le_refl _)
 refine ⟨H3,g3,fun M hM R k=>?_⟩
 obtain ⟨m,rfl⟩ : ∃ m,M = m + 500:=⟨M - 500,by omega⟩
 have w16 : IntKind.u64.wrap 16 = 16:=by decide
 have w4 : IntKind.u64.wrap 4 = 4:=by decide
 have w15 : IntKind.u64.wrap (16 - 1) = 15:=by decide
 have z64 : IntKind.i64.wrap (65 - 1) = 64:=by decide
 have z63 : IntKind.i64.wrap (64 - 1) = 63:=by decide
 have ha : ∀ (R : Type) (k : HK R) (H : Heap),binC .and .no (.i .u64 31) (.i .u64 15) k H = k (.i .u64 15) H:=fun R k H=>i_and (a:=31) (b:=15) rfl rfl
 have hs : ∀ (R : Type) (k : HK R) (H : Heap),binC .shr .no (.i .u64 31) (.i .u64 4) k H = k (.i .u64 1) H:=fun R k H=>shr_n (a:=31) (b:=4) (by decide)
 have i64 : ∀ (R : Type) (k : HK R) (G : Heap),ixpC 65 1 (.p H.next 0) (.i .i64 64) k G = k (.p H.next 64) G:=fun R k G=>ixp_p (by decide) (by decide)
 have i63 : ∀ (R : Type) (k : HK R) (G : Heap),ixpC 65 1 (.p H.next 0) (.i .i64 63) k G = k (.p H.next 63) G:=fun R k G=>ixp_p (by decide) (by decide)
 have c1 : ∀ (R : Type) (k : HK R) (H : Heap),ixsC (.s 36 93621433862240650313326231306435056417042768930449266319129758623240466503934737414522) (.i .u64 1) k H = k (.i .u8 49) H:=fun R k H=>d36_at (n:=1) (by decide) H k
 have c15 : ∀ (R : Type) (k : HK R) (H : Heap),ixsC (.s 36 93621433862240650313326231306435056417042768930449266319129758623240466503934737414522) (.i .u64 15) k H = k (.i .u8 102) H:=fun R k H=>d36_at (n:=15) (by decide) H k
 rw [call_eq L83]
 unfold B83
 simp only [EX,reduceIte,Nat.reduceEqDiff,Nat.reduceAdd,Int.reduceEq,Int.reduceLT,Int.reduceLE,reduceCtorEq,Nat.reduceLeDiff,Nat.reduceSub,Nat.reduceLT]
 rw [show H.alloc (.cells false 0 146 65 (setCells [.i .u8 0,.i .u8 0,.i .u8 0,.i .u8 0,.i .u8 0,.i .u8 0,.i .u8 0,.i .u8 0,.i .u8 0,.i .u8 0,.i .u8 0,.i .u8 0,.i .u8 0,.i .u8 0,.i .u8 0,.i .u8 0,.i .u8 0,.i .u8 0,.i .u8 0,.i .u8 0,.i .u8 0,.i .u8 0,.i .u8 0,.i .u8 0,.i .u8 0,.i .u8 0,.i .u8 0,.i .u8 0,.i .u8 0,.i .u8 0,.i .u8 0,.i .u8 0,.i .u8 0,.i .u8 0,.i .u8 0,.i .u8 0,.i .u8 0,.i .u8 0,.i .u8 0,.i .u8 0,.i .u8 0,.i .u8 0,.i .u8 0,.i .u8 0,.i .u8 0,.i .u8 0,.i .u8 0,.i .u8 0,.i .u8 0,.i .u8 0,.i .u8 0,.i .u8 0,.i .u8 0,.i .u8 0,.i .u8 0,.i .u8 0,.i .u8 0,.i .u8 0,.i .u8 0,.i .u8 0,.i .u8 0,.i .u8 0,.i .u8 0,.i .u8 0,.i .u8 0] 0 .leaf)) = H1 from e1.symm]
 rw [s88 (by omega)]
 simp only [EX,reduceIte,Nat.reduceEqDiff,Nat.reduceAdd,Int.reduceEq,Int.reduceLT,Int.reduceLE,reduceCtorEq,Nat.reduceLeDiff,Nat.reduceSub,Nat.reduceLT,w16]
 rw [s89 (hG.grow g1) (by omega)]
 simp only [EX,reduceIte,Nat.reduceEqDiff,Nat.reduceAdd,Int.reduceEq,Int.reduceLT,Int.reduceLE,reduceCtorEq,Nat.reduceLeDiff,Nat.reduceSub,Nat.reduceLT,w16,w4,w15,i_sub]
 rw [run_loop]
 simp only [EX,reduceIte,Nat.reduceEqDiff,Nat.reduceAdd,Int.reduceEq,Int.reduceLT,Int.reduceLE,reduceCtorEq,Nat.reduceLeDiff,Nat.reduceSub,Nat.reduceLT,w16,w4,w15,i_sub,z64,z63,i64,i63,est2,est3,ha,hs,c1,c15]
 rw [run_loop]
 simp only [EX,reduceIte,Nat.reduceEqDiff,Nat.reduceAdd,Int.reduceEq,Int.reduceLT,Int.reduceLE,reduceCtorEq,Nat.reduceLeDiff,Nat.reduceSub,Nat.reduceLT,w16,w4,w15,i_sub,z64,z63,i64,i63,est2,est3,ha,hs,c1,c15]
 rw [sla_from r3 (by simp) (by omega) (by omega)]
 simp only [EX,reduceIte,Nat.reduceEqDiff,Nat.reduceAdd,Int.reduceEq,Int.reduceLT,Int.reduceLE,reduceCtorEq,Nat.reduceLeDiff,Nat.reduceSub,Nat.reduceLT]
 refine (b2s_part r3 (s:=[49,102]) (off:=63) (len:=2) rfl (by simp) rfl).trans ?_
 simp only [EX,reduceIte,Nat.reduceEqDiff,Nat.reduceAdd,Int.reduceEq,Int.reduceLT,Int.reduceLE,reduceCtorEq,Nat.reduceLeDiff,Nat.reduceSub,Nat.reduceLT]
theorem s83_127 {H : Heap} (hG : Glob3 H) : Tells 83 500 [.ns,.i .u64 127,.i .i64 16,.b false,.b false] H (.tu [.ns,str [55,102]]):=by
 obtain ⟨H1,e1⟩ : ∃ H1,H1 = H.alloc (.cells false 0 146 65 (setCells (List.replicate 65 (.i .u8 0)) 0 .leaf)):=⟨_,rfl⟩
 have g1 : Grow H H1:=by rw [e1]; exact Grow.alloc H _
 have n1 : H1.next.toN = H.next.toN + 1:=by rw [e1]; exact next_alloc H _
 have r1 : Row H1 H.next 146 (List.replicate 65 (.i .u8 0)):=by rw [e1]; exact Row.new H 146 (List.replicate 65 (.i .u8 0))
 have hl1 : (List.replicate 65 (.i .u8 0 : AV)).length = 65:=List.length_replicate
 obtain ⟨H2,r2,b2,n2,est2⟩:=r1.st_one (off:=64) (v:=.i .u8 102) (by omega) (by omega) rfl
 have n2' : H2.next.toN = H1.next.toN:=by rw [n2]
 obtain ⟨H3,r3,b3,n3,est3⟩:=r2.st_one (off:=63) (v:=.i .u8 55) (by omega) (by rw [List.length_set]; omega) rfl
 have g3 : Grow H H3:=(b2.trans b3).of g1 (Nat.le_refl _)
 refine ⟨H3,g3,fun M hM R k=>?_⟩
 obtain ⟨m,rfl⟩ : ∃ m,M = m + 500:=⟨M - 500,by omega⟩
 have w16 : IntKind.u64.wrap 16 = 16:=by decide
 have w4 : IntKind.u64.wrap 4 = 4:=by decide
 have w15 : IntKind.u64.wrap (16 - 1) = 15:=by decide
 have z64 : IntKind.i64.wrap (65 - 1) = 64:=by decide
 have z63 : IntKind.i64.wrap (64 - 1) = 63:=by decide
 have ha : ∀ (R : Type) (k : HK R) (H : Heap),binC .and .no (.i .u64 127) (.i .u64 15) k H = k (.i .u64 15) H:=fun R k H=>i_and (a:=127) (b:=15) rfl rfl
 have hs : ∀ (R : Type) (k : HK R) (H : Heap),binC .shr .no (.i .u64 127) (.i .u64 4) k H = k (.i .u64 7) H:=fun R k H=>shr_n (a:=127) (b:=4) (by decide)
 have i64 : ∀ (R : Type) (k : HK R) (G : Heap),ixpC 65 1 (.p H.next 0) (.i .i64 64) k G = k (.p H.next 64) G:=fun R k G=>ixp_p (by decide) (by decide)
 have i63 : ∀ (R : Type) (k : HK R) (G : Heap),ixpC 65 1 (.p H.next 0) (.i .i64 63) k G = k (.p H.next 63) G:=fun R k G=>ixp_p (by decide) (by decide)
 have c7 : ∀ (R : Type) (k : HK R) (H : Heap),ixsC (.s 36 93621433862240650313326231306435056417042768930449266319129758623240466503934737414522) (.i .u64 7) k H = k (.i .u8 55) H:=fun R k H=>d36_at (n:=7) (by decide) H k
 have c15 : ∀ (R : Type) (k : HK R) (H : Heap),ixsC (.s 36 93621433862240650313326231306435056417042768930449266319129758623240466503934737414522) (.i .u64 15) k H = k (.i .u8 102) H:=fun R k H=>d36_at (n:=15) (by decide) H k
 rw [call_eq L83]
 unfold B83
 simp only [EX,reduceIte,Nat.reduceEqDiff,Nat.reduceAdd,Int.reduceEq,Int.reduceLT,Int.reduceLE,reduceCtorEq,Nat.reduceLeDiff,Nat.reduceSub,Nat.reduceLT]
 rw [show H.alloc (.cells false 0 146 65 (setCells [.i .u8 0,.i .u8 0,.i .u8 0,.i .u8 0,.i .u8 0,.i .u8 0,.i .u8 0,.i .u8 0,.i .u8 0,.i .u8 0,.i .u8 0,.i .u8 0,.i .u8 0,.i .u8 0,.i .u8 0,.i .u8 0,.i .u8 0,.i .u8 0,.i .u8 0,.i .u8 0,.i .u8 0,.i .u8 0,.i .u8 0,.i .u8 0,.i .u8 0,.i .u8 0,.i .u8 0,.i .u8 0,.i .u8 0,.i .u8 0,.i .u8 0,.i .u8 0,.i .u8 0,.i .u8 0,.i .u8 0,.i .u8 0,.i .u8 0,.i .u8 0,.i .u8 0,.i .u8 0,.i .u8 0,.i .u8 0,.i .u8 0,.i .u8 0,.i .u8 0,.i .u8 0,.i .u8 0,.i .u8 0,.i .u8 0,.i .u8 0,.i .u8 0,.i .u8 0,.i .u8 0,.i .u8 0,.i .u8 0,.i .u8 0,.i .u8 0,.i .u8 0,.i .u8 0,.i .u8 0,.i .u8 0,.i .u8 0,.i .u8 0,.i .u8 0,.i .u8 0] 0 .leaf)) = H1 from e1.symm]
 rw [s88 (by omega)]
 simp only [EX,reduceIte,Nat.reduceEqDiff,Nat.reduceAdd,Int.reduceEq,Int.reduceLT,Int.reduceLE,reduceCtorEq,Nat.reduceLeDiff,Nat.reduceSub,Nat.reduceLT,w16]
 rw [s89 (hG.grow g1) (by omega)]
 simp only [EX,reduceIte,Nat.reduceEqDiff,Nat.reduceAdd,Int.reduceEq,Int.reduceLT,Int.reduceLE,reduceCtorEq,Nat.reduceLeDiff,Nat.reduceSub,Nat.reduceLT,w16,w4,w15,i_sub]
 rw [run_loop]
 simp only [EX,reduceIte,Nat.reduceEqDiff,Nat.reduceAdd,Int.reduceEq,Int.reduceLT,Int.reduceLE,reduceCtorEq,Nat.reduceLeDiff,Nat.reduceSub,Nat.reduceLT,w16,w4,w15,i_sub,z64,z63,i64,i63,est2,est3,ha,hs,c7,c15]
 rw [run_loop]
 simp only [EX,reduceIte,Nat.reduceEqDiff,Nat.reduceAdd,Int.reduceEq,Int.reduceLT,Int.reduceLE,reduceCtorEq,Nat.reduceLeDiff,Nat.reduceSub,Nat.reduceLT,w16,w4,w15,i_sub,z64,z63,i64,i63,est2,est3,ha,hs,c7,c15]
 rw [sla_from r3 (by simp) (by omega) (by omega)]
 simp only [EX,reduceIte,Nat.reduceEqDiff,Nat.reduceAdd,Int.reduceEq,Int.reduceLT,Int.reduceLE,reduceCtorEq,Nat.reduceLeDiff,Nat.reduceSub,Nat.reduceLT]
 refine (b2s_part r3 (s:=[55,102]) (off:=63) (len:=2) rfl (by simp) rfl).trans ?_
 simp only [EX,reduceIte,Nat.reduceEqDiff,Nat.reduceAdd,Int.reduceEq,Int.reduceLT,Int.reduceLE,reduceCtorEq,Nat.reduceLeDiff,Nat.reduceSub,Nat.reduceLT]
theorem s64_1 {H : Heap} (hG : Glob3 H) : Tells 64 700 [.i .i64 1,.i .i64 16] H (str [49]):=by
 obtain ⟨H',g,e⟩:=s83_1 hG
 refine ⟨H',g,fun M hM R k=>?_⟩
 obtain ⟨m,rfl⟩ : ∃ m,M = m + 700:=⟨M - 700,by omega⟩
 have w : IntKind.u64.wrap 1 = 1:=by decide
 rw [call_eq L64]
 unfold B64
 simp only [EX,reduceIte,Nat.reduceEqDiff,Nat.reduceAdd,Int.reduceEq,Int.reduceLT,Int.reduceLE,reduceCtorEq,Nat.reduceLeDiff,Nat.reduceSub,Nat.reduceLT]
 rw [call_eq L75]
 unfold B75
 simp only [EX,reduceIte,Nat.reduceEqDiff,Nat.reduceAdd,Int.reduceEq,Int.reduceLT,Int.reduceLE,reduceCtorEq,Nat.reduceLeDiff,Nat.reduceSub,Nat.reduceLT,w]
 rw [e _ (by omega)]
 simp only [EX,reduceIte,Nat.reduceEqDiff,Nat.reduceAdd,Int.reduceEq,Int.reduceLT,Int.reduceLE,reduceCtorEq,Nat.reduceLeDiff,Nat.reduceSub,Nat.reduceLT]
theorem s64_31 {H : Heap} (hG : Glob3 H) : Tells 64 700 [.i .i64 31,.i .i64 16] H (str [49,102]):=by
 obtain ⟨H',g,e⟩:=s83_31 hG
 refine ⟨H',g,fun M hM R k=>?_⟩
 obtain ⟨m,rfl⟩ : ∃ m,M = m + 700:=⟨M - 700,by omega⟩
 have w : IntKind.u64.wrap 31 = 31:=by decide
 rw [call_eq L64]
 unfold B64
 simp only [EX,reduceIte,Nat.reduceEqDiff,Nat.reduceAdd,Int.reduceEq,Int.reduceLT,Int.reduceLE,reduceCtorEq,Nat.reduceLeDiff,Nat.reduceSub,Nat.reduceLT]
 rw [call_eq L75]
 unfold B75
 simp only [EX,reduceIte,Nat.reduceEqDiff,Nat.reduceAdd,Int.reduceEq,Int.reduceLT,Int.reduceLE,reduceCtorEq,Nat.reduceLeDiff,Nat.reduceSub,Nat.reduceLT,w]
 rw [e _ (by omega)]
 simp only [EX,reduceIte,Nat.reduceEqDiff,Nat.reduceAdd,Int.reduceEq,Int.reduceLT,Int.reduceLE,reduceCtorEq,Nat.reduceLeDiff,Nat.reduceSub,Nat.reduceLT]
theorem s64_127 {H : Heap} (hG : Glob3 H) : Tells 64 700 [.i .i64 127,.i .i64 16] H (str [55,102]):=by
 obtain ⟨H',g,e⟩:=s83_127 hG
 refine ⟨H',g,fun M hM R k=>?_⟩
 obtain ⟨m,rfl⟩ : ∃ m,M = m + 700:=⟨M - 700,by omega⟩
 have w : IntKind.u64.wrap 127 = 127:=by decide
 rw [call_eq L64]
 unfold B64
 simp only [EX,reduceIte,Nat.reduceEqDiff,Nat.reduceAdd,Int.reduceEq,Int.reduceLT,Int.reduceLE,reduceCtorEq,Nat.reduceLeDiff,Nat.reduceSub,Nat.reduceLT]
 rw [call_eq L75]
 unfold B75
 simp only [EX,reduceIte,Nat.reduceEqDiff,Nat.reduceAdd,Int.reduceEq,Int.reduceLT,Int.reduceLE,reduceCtorEq,Nat.reduceLeDiff,Nat.reduceSub,Nat.reduceLT,w]
 rw [e _ (by omega)]
 simp only [EX,reduceIte,Nat.reduceEqDiff,Nat.reduceAdd,Int.reduceEq,Int.reduceLT,Int.reduceLE,reduceCtorEq,Nat.reduceLeDiff,Nat.reduceSub,Nat.reduceLT]
def qrs : List (List UInt8):=[[97],[98],[42],[92,34],[92,92],[92,110],[92,116],[92,117,123,49,125],[92,117,123,49,102,125],[92,117,123,55,102,125],[194,128],[195,169],[223,191],[224,160,128],[226,130,172],[237,159,191],[238,128,128],[239,191,189],[239,191,191],[240,144,128,128],[240,159,152,128],[244,143,191,191],[99],[100],[101]]
def qr (i : Nat) : List UInt8:=(qrs[i]?).getD []
theorem q66_0 {R : Type} (m : Nat) (H : Heap) (k : HK R) : runK tbl (m + 60) R B66 (frame0 [.i .i32 97] 0 .leaf) H (leaveK [(.tmp (toPa 2))] k) = k (str [97]) H:=by kernel_rfl
theorem q66_1 {R : Type} (m : Nat) (H : Heap) (k : HK R) : runK tbl (m + 60) R B66 (frame0 [.i .i32 98] 0 .leaf) H (leaveK [(.tmp (toPa 2))] k) = k (str [98]) H:=by kernel_rfl
theorem q66_2 {R : Type} (m : Nat) (H : Heap) (k : HK R) : runK tbl (m + 60) R B66 (frame0 [.i .i32 42] 0 .leaf) H (leaveK [(.tmp (toPa 2))] k) = k (str [42]) H:=by kernel_rfl
theorem q66_3 {R : Type} (m : Nat) (H : Heap) (k : HK R) : runK tbl (m + 60) R B66 (frame0 [.i .i32 34] 0 .leaf) H (leaveK [(.tmp (toPa 2))] k) = k (str [92,34]) H:=by kernel_rfl
theorem q66_4 {R : Type} (m : Nat) (H : Heap) (k : HK R) : runK tbl (m + 60) R B66 (frame0 [.i .i32 92] 0 .leaf) H (leaveK [(.tmp (toPa 2))] k) = k (str [92,92]) H:=by kernel_rfl
theorem q66_5 {R : Type} (m : Nat) (H : Heap) (k : HK R) : runK tbl (m + 60) R B66 (frame0 [.i .i32 10] 0 .leaf) H (leaveK [(.tmp (toPa 2))] k) = k (str [92,110]) H:=by kernel_rfl
theorem q66_6 {R : Type} (m : Nat) (H : Heap) (k : HK R) : runK tbl (m + 60) R B66 (frame0 [.i .i32 9] 0 .leaf) H (leaveK [(.tmp (toPa 2))] k) = k (str [92,116]) H:=by kernel_rfl
theorem q66_10 {R : Type} (m : Nat) (H : Heap) (k : HK R) : runK tbl (m + 60) R B66 (frame0 [.i .i32 128] 0 .leaf) H (leaveK [(.tmp (toPa 2))] k) = k (str [194,128]) H:=by kernel_rfl
theorem q66_11 {R : Type} (m : Nat) (H : Heap) (k : HK R) : runK tbl (m + 60) R B66 (frame0 [.i .i32 233] 0 .leaf) H (leaveK [(.tmp (toPa 2))] k) = k (str [195,169]) H:=by kernel_rfl
theorem q66_12 {R : Type} (m : Nat) (H : Heap) (k : HK R) : runK tbl (m + 60) R B66 (frame0 [.i .i32 2047] 0 .leaf) H (leaveK [(.tmp (toPa 2))] k) = k (str [223,191]) H:=by kernel_rfl
theorem q66_13 {R : Type} (m : Nat) (H : Heap) (k : HK R) : runK tbl (m + 60) R B66 (frame0 [.i .i32 2048] 0 .leaf) H (leaveK [(.tmp (toPa 2))] k) = k (str [224,160,128]) H:=by kernel_rfl
theorem q66_14 {R : Type} (m : Nat) (H : Heap) (k : HK R) : runK tbl (m + 60) R B66 (frame0 [.i .i32 8364] 0 .leaf) H (leaveK [(.tmp (toPa 2))] k) = k (str [226,130,172]) H:=by kernel_rfl
theorem q66_15 {R : Type} (m : Nat) (H : Heap) (k : HK R) : runK tbl (m + 60) R B66 (frame0 [.i .i32 55295] 0 .leaf) H (leaveK [(.tmp (toPa 2))] k) = k (str [237,159,191]) H:=by kernel_rfl
theorem q66_16 {R : Type} (m : Nat) (H : Heap) (k : HK R) : runK tbl (m + 60) R B66 (frame0 [.i .i32 57344] 0 .leaf) H (leaveK [(.tmp (toPa 2))] k) = k (str [238,128,128]) H:=by kernel_rfl
theorem q66_17 {R : Type} (m : Nat) (H : Heap) (k : HK R) : runK tbl (m + 60) R B66 (frame0 [.i .i32 65533] 0 .leaf) H (leaveK [(.tmp (toPa 2))] k) = k (str [239,191,189]) H:=by kernel_rfl
theorem q66_18 {R : Type} (m : Nat) (H : Heap) (k : HK R) : runK tbl (m + 60) R B66 (frame0 [.i .i32 65535] 0 .leaf) H (leaveK [(.tmp (toPa 2))] k) = k (str [239,191,191]) H:=by kernel_rfl
theorem q66_19 {R : Type} (m : Nat) (H : Heap) (k : HK R) : runK tbl (m + 60) R B66 (frame0 [.i .i32 65536] 0 .leaf) H (leaveK [(.tmp (toPa 2))] k) = k (str [240,144,128,128]) H:=by kernel_rfl
theorem q66_20 {R : Type} (m : Nat) (H : Heap) (k : HK R) : runK tbl (m + 60) R B66 (frame0 [.i .i32 128512] 0 .leaf) H (leaveK [(.tmp (toPa 2))] k) = k (str [240,159,152,128]) H:=by kernel_rfl
theorem q66_21 {R : Type} (m : Nat) (H : Heap) (k : HK R) : runK tbl (m + 60) R B66 (frame0 [.i .i32 1114111] 0 .leaf) H (leaveK [(.tmp (toPa 2))] k) = k (str [244,143,191,191]) H:=by kernel_rfl
theorem q66_22 {R : Type} (m : Nat) (H : Heap) (k : HK R) : runK tbl (m + 60) R B66 (frame0 [.i .i32 99] 0 .leaf) H (leaveK [(.tmp (toPa 2))] k) = k (str [99]) H:=by kernel_rfl
theorem q66_23 {R : Type} (m : Nat) (H : Heap) (k : HK R) : runK tbl (m + 60) R B66 (frame0 [.i .i32 100] 0 .leaf) H (leaveK [(.tmp (toPa 2))] k) = k (str [100]) H:=by kernel_rfl
theorem q66_24 {R : Type} (m : Nat) (H : Heap) (k : HK R) : runK tbl (m + 60) R B66 (frame0 [.i .i32 101] 0 .leaf) H (leaveK [(.tmp (toPa 2))] k) = k (str [101]) H:=by kernel_rfl
/-- A rune as it is quoted. -/
theorem s66 {i : Nat} (hi : i < 25) {H : Heap} (hG : Glob3 H) : Tells 66 900 [.i .i32 (rn i)] H (str (qr i)):=by
 match i,hi with
 | 0,_ =>
  refine ⟨H,Grow.refl H,fun M hM R k=>?_⟩
  obtain ⟨m,rfl⟩ : ∃ m,M = m + 60:=⟨M - 60,by omega⟩
  rw [call_eq L66]
  exact q66_0 m H k
 | 1,_ =>
  refine ⟨H,Grow.refl H,fun M hM R k=>?_⟩
  obtain ⟨m,rfl⟩ : ∃ m,M = m + 60:=⟨M - 60,by omega⟩
  rw [call_eq L66]
  exact q66_1 m H k
 | 2,_ =>
  refine ⟨H,Grow.refl H,fun M hM R k=>?_⟩
  obtain ⟨m,rfl⟩ : ∃ m,M = m + 60:=⟨M - 60,by omega⟩
  rw [call_eq L66]
  exact q66_2 m H k
 | 3,_ =>
  refine ⟨H,Grow.refl H,fun M hM R k=>?_⟩
  obtain ⟨m,rfl⟩ : ∃ m,M = m + 60:=⟨M - 60,by omega⟩
  rw [call_eq L66]
  exact q66_3 m H k
 | 4,_ =>
  refine ⟨H,Grow.refl H,fun M hM R k=>?_⟩
  obtain ⟨m,rfl⟩ : ∃ m,M = m + 60:=⟨M - 60,by omega⟩
  rw [call_eq L66]
  exact q66_4 m H k
 | 5,_ =>
  refine ⟨H,Grow.refl H,fun M hM R k=>?_⟩
  obtain ⟨m,rfl⟩ : ∃ m,M = m + 60:=⟨M - 60,by omega⟩
  rw [call_eq L66]
  exact q66_5 m H k
 | 6,_ =>
  refine ⟨H,Grow.refl H,fun M hM R k=>?_⟩
  obtain ⟨m,rfl⟩ : ∃ m,M = m + 60:=⟨M - 60,by omega⟩
  rw [call_eq L66]
  exact q66_6 m H k
 | 7,_ =>
  obtain ⟨H',g,e⟩:=s64_1 hG
  refine ⟨H',g,fun M hM R k=>?_⟩
  obtain ⟨m,rfl⟩ : ∃ m,M = m + 900:=⟨M - 900,by omega⟩
  have w : IntKind.i64.wrap 1 = 1:=by decide
  rw [call_eq L66,show rn 7 = 1 from rfl,show qr 7 = [92,117,123,49,125] from rfl]
  unfold B66
  simp only [EX,reduceIte,Nat.reduceEqDiff,Nat.reduceAdd,Int.reduceEq,Int.reduceLT,Int.reduceLE,reduceCtorEq,Nat.reduceLeDiff,Nat.reduceSub,Nat.reduceLT,w]
  rw [e _ (by omega)]
  simp only [EX,reduceIte,Nat.reduceEqDiff,Nat.reduceAdd,Int.reduceEq,Int.reduceLT,Int.reduceLE,reduceCtorEq,Nat.reduceLeDiff,Nat.reduceSub,Nat.reduceLT]
  rw [s_add (by decide)]
  simp only [EX,reduceIte,Nat.reduceEqDiff,Nat.reduceAdd,Int.reduceEq,Int.reduceLT,Int.reduceLE,reduceCtorEq,Nat.reduceLeDiff,Nat.reduceSub,Nat.reduceLT]
  rw [s_add (by decide)]
  simp only [EX,reduceIte,Nat.reduceEqDiff,Nat.reduceAdd,Int.reduceEq,Int.reduceLT,Int.reduceLE,reduceCtorEq,Nat.reduceLeDiff,Nat.reduceSub,Nat.reduceLT]
  exact rfl
 | 8,_ =>
  obtain ⟨H',g,e⟩:=s64_31 hG
  refine ⟨H',g,fun M hM R k=>?_⟩
  obtain ⟨m,rfl⟩ : ∃ m,M = m + 900:=⟨M - 900,by omega⟩
  have w : IntKind.i64.wrap 31 = 31:=by decide
  rw [call_eq L66,show rn 8 = 31 from rfl,show qr 8 = [92,117,123,49,102,125] from rfl]
  unfold B66
  simp only [EX,reduceIte,Nat.reduceEqDiff,Nat.reduceAdd,Int.reduceEq,Int.reduceLT,Int.reduceLE,reduceCtorEq,Nat.reduceLeDiff,Nat.reduceSub,Nat.reduceLT,w]
  rw [e _ (by omega)]
  simp only [EX,reduceIte,Nat.reduceEqDiff,Nat.reduceAdd,Int.reduceEq,Int.reduceLT,Int.reduceLE,reduceCtorEq,Nat.reduceLeDiff,Nat.reduceSub,Nat.reduceLT]
  rw [s_add (by decide)]
  simp only [EX,reduceIte,Nat.reduceEqDiff,Nat.reduceAdd,Int.reduceEq,Int.reduceLT,Int.reduceLE,reduceCtorEq,Nat.reduceLeDiff,Nat.reduceSub,Nat.reduceLT]
  rw [s_add (by decide)]
  simp only [EX,reduceIte,Nat.reduceEqDiff,Nat.reduceAdd,Int.reduceEq,Int.reduceLT,Int.reduceLE,reduceCtorEq,Nat.reduceLeDiff,Nat.reduceSub,Nat.reduceLT]
  exact rfl
 | 9,_ =>
  obtain ⟨H',g,e⟩:=s64_127 hG
  refine ⟨H',g,fun M hM R k=>?_⟩
  obtain ⟨m,rfl⟩ : ∃ m,M = m + 900:=⟨M - 900,by omega⟩
  have w : IntKind.i64.wrap 127 = 127:=by decide
  rw [call_eq L66,show rn 9 = 127 from rfl,show qr 9 = [92,117,123,55,102,125] from rfl]
  unfold B66
  simp only [EX,reduceIte,Nat.reduceEqDiff,Nat.reduceAdd,Int.reduceEq,Int.reduceLT,Int.reduceLE,reduceCtorEq,Nat.reduceLeDiff,Nat.reduceSub,Nat.reduceLT,w]
  rw [e _ (by omega)]
  simp only [EX,reduceIte,Nat.reduceEqDiff,Nat.reduceAdd,Int.reduceEq,Int.reduceLT,Int.reduceLE,reduceCtorEq,Nat.reduceLeDiff,Nat.reduceSub,Nat.reduceLT]
  rw [s_add (by decide)]
  simp only [EX,reduceIte,Nat.reduceEqDiff,Nat.reduceAdd,Int.reduceEq,Int.reduceLT,Int.reduceLE,reduceCtorEq,Nat.reduceLeDiff,Nat.reduceSub,Nat.reduceLT]
  rw [s_add (by decide)]
  simp only [EX,reduceIte,Nat.reduceEqDiff,Nat.reduceAdd,Int.reduceEq,Int.reduceLT,Int.reduceLE,reduceCtorEq,Nat.reduceLeDiff,Nat.reduceSub,Nat.reduceLT]
  exact rfl
 | 10,_ =>
  refine ⟨H,Grow.refl H,fun M hM R k=>?_⟩
  obtain ⟨m,rfl⟩ : ∃ m,M = m + 60:=⟨M - 60,by omega⟩
  rw [call_eq L66]
  exact q66_10 m H k
 | 11,_ =>
  refine ⟨H,Grow.refl H,fun M hM R k=>?_⟩
  obtain ⟨m,rfl⟩ : ∃ m,M = m + 60:=⟨M - 60,by omega⟩
  rw [call_eq L66]
  exact q66_11 m H k
 | 12,_ =>
  refine ⟨H,Grow.refl H,fun M hM R k=>?_⟩
  obtain ⟨m,rfl⟩ : ∃ m,M = m + 60:=⟨M - 60,by omega⟩
  rw [call_eq L66]
  exact q66_12 m H k
 | 13,_ =>
  refine ⟨H,Grow.refl H,fun M hM R k=>?_⟩
  obtain ⟨m,rfl⟩ : ∃ m,M = m + 60:=⟨M - 60,by omega⟩
  rw [call_eq L66]
  exact q66_13 m H k
 | 14,_ =>
  refine ⟨H,Grow.refl H,fun M hM R k=>?_⟩
  obtain ⟨m,rfl⟩ : ∃ m,M = m + 60:=⟨M - 60,by omega⟩
  rw [call_eq L66]
  exact q66_14 m H k
 | 15,_ =>
  refine ⟨H,Grow.refl H,fun M hM R k=>?_⟩
  obtain ⟨m,rfl⟩ : ∃ m,M = m + 60:=⟨M - 60,by omega⟩
  rw [call_eq L66]
  exact q66_15 m H k
 | 16,_ =>
  refine ⟨H,Grow.refl H,fun M hM R k=>?_⟩
  obtain ⟨m,rfl⟩ : ∃ m,M = m + 60:=⟨M - 60,by omega⟩
  rw [call_eq L66]
  exact q66_16 m H k
 | 17,_ =>
  refine ⟨H,Grow.refl H,fun M hM R k=>?_⟩
  obtain ⟨m,rfl⟩ : ∃ m,M = m + 60:=⟨M - 60,by omega⟩
  rw [call_eq L66]
  exact q66_17 m H k
 | 18,_ =>
  refine ⟨H,Grow.refl H,fun M hM R k=>?_⟩
  obtain ⟨m,rfl⟩ : ∃ m,M = m + 60:=⟨M - 60,by omega⟩
  rw [call_eq L66]
  exact q66_18 m H k
 | 19,_ =>
  refine ⟨H,Grow.refl H,fun M hM R k=>?_⟩
  obtain ⟨m,rfl⟩ : ∃ m,M = m + 60:=⟨M - 60,by omega⟩
  rw [call_eq L66]
  exact q66_19 m H k
 | 20,_ =>
  refine ⟨H,Grow.refl H,fun M hM R k=>?_⟩
  obtain ⟨m,rfl⟩ : ∃ m,M = m + 60:=⟨M - 60,by omega⟩
  rw [call_eq L66]
  exact q66_20 m H k
 | 21,_ =>
  refine ⟨H,Grow.refl H,fun M hM R k=>?_⟩
  obtain ⟨m,rfl⟩ : ∃ m,M = m + 60:=⟨M - 60,by omega⟩
  rw [call_eq L66]
  exact q66_21 m H k
 | 22,_ =>
  refine ⟨H,Grow.refl H,fun M hM R k=>?_⟩
  obtain ⟨m,rfl⟩ : ∃ m,M = m + 60:=⟨M - 60,by omega⟩
  rw [call_eq L66]
  exact q66_22 m H k
 | 23,_ =>
  refine ⟨H,Grow.refl H,fun M hM R k=>?_⟩
  obtain ⟨m,rfl⟩ : ∃ m,M = m + 60:=⟨M - 60,by omega⟩
  rw [call_eq L66]
  exact q66_23 m H k
 | 24,_ =>
  refine ⟨H,Grow.refl H,fun M hM R k=>?_⟩
  obtain ⟨m,rfl⟩ : ∃ m,M = m + 60:=⟨M - 60,by omega⟩
  rw [call_eq L66]
  exact q66_24 m H k
 | n + 25,h=>omega
end Go.Proofs.YtmmmjhkgjmbfaaaDoor

/- A builder; a text as it is quoted (text.Quote). -/
namespace Go.Proofs.YtmmmjhkgjmbfaaaDoor
open Go Go.Vai
set_option maxRecDepth 100000
set_option maxHeartbeats 1600000
set_option linter.unusedSimpArgs false
theorem at_mid {pre mid post : List UInt8} {j : Nat} (h : j < mid.length) : (pre ++ mid ++ post)[pre.length + j]? = mid[j]?:=by
 rw [List.append_assoc,List.getElem?_append_right (by omega),Nat.add_sub_cancel_left,List.getElem?_append_left h]
theorem reads_rn {i : Nat} (hi : i < 25) (pre post : List UInt8) : Reads (pre ++ en i ++ post) pre.length (rn i).toNat (en i).length:=by
 have h:=fun j (hj : j < (en i).length)=>at_mid (pre:=pre) (mid:=en i) (post:=post) hj
 match i,hi with
 | 0,_=>exact decK_1 (b:=97) (h 0 (by decide)) (by decide)
 | 1,_=>exact decK_1 (b:=98) (h 0 (by decide)) (by decide)
 | 2,_=>exact decK_1 (b:=42) (h 0 (by decide)) (by decide)
 | 3,_=>exact decK_1 (b:=34) (h 0 (by decide)) (by decide)
 | 4,_=>exact decK_1 (b:=92) (h 0 (by decide)) (by decide)
 | 5,_=>exact decK_1 (b:=10) (h 0 (by decide)) (by decide)
 | 6,_=>exact decK_1 (b:=9) (h 0 (by decide)) (by decide)
 | 7,_=>exact decK_1 (b:=1) (h 0 (by decide)) (by decide)
 | 8,_=>exact decK_1 (b:=31) (h 0 (by decide)) (by decide)
 | 9,_=>exact decK_1 (b:=127) (h 0 (by decide)) (by decide)
 | 10,_=>exact Reads.b2 (c:=128) (b0:=194) (b1:=128) (h 0 (by decide)) (h 1 (by decide)) (by decide) (by decide) (by decide) (by decide)
 | 11,_=>exact Reads.b2 (c:=233) (b0:=195) (b1:=169) (h 0 (by decide)) (h 1 (by decide)) (by decide) (by decide) (by decide) (by decide)
 | 12,_=>exact Reads.b2 (c:=2047) (b0:=223) (b1:=191) (h 0 (by decide)) (h 1 (by decide)) (by decide) (by decide) (by decide) (by decide)
 | 13,_=>exact Reads.b3 (c:=2048) (b0:=224) (b1:=160) (b2:=128) (h 0 (by decide)) (h 1 (by decide)) (h 2 (by decide)) (by decide) (by decide) (by decide) (by decide) (by decide)
 | 14,_=>exact Reads.b3 (c:=8364) (b0:=226) (b1:=130) (b2:=172) (h 0 (by decide)) (h 1 (by decide)) (h 2 (by decide)) (by decide) (by decide) (by decide) (by decide) (by decide)
 | 15,_=>exact Reads.b3 (c:=55295) (b0:=237) (b1:=159) (b2:=191) (h 0 (by decide)) (h 1 (by decide)) (h 2 (by decide)) (by decide) (by decide) (by decide) (by decide) (by decide)
 | 16,_=>exact Reads.b3 (c:=57344) (b0:=238) (b1:=128) (b2:=128) (h 0 (by decide)) (h 1 (by decide)) (h 2 (by decide)) (by decide) (by decide) (by decide) (by decide) (by decide)
 | 17,_=>exact Reads.b3 (c:=65533) (b0:=239) (b1:=191) (b2:=189) (h 0 (by decide)) (h 1 (by decide)) (h 2 (by decide)) (by decide) (by decide) (by decide) (by decide) (by decide)
 | 18,_=>exact Reads.b3 (c:=65535) (b0:=239) (b1:=191) (b2:=191) (h 0 (by decide)) (h 1 (by decide)) (h 2 (by decide)) (by decide) (by decide) (by decide) (by decide) (by decide)
 | 19,_=>exact Reads.b4 (c:=65536) (b0:=240) (b1:=144) (b2:=128) (b3:=128) (h 0 (by decide)) (h 1 (by decide)) (h 2 (by decide)) (h 3 (by decide)) (by decide) (by decide) (by decide) (by decide) (by decide) (by decide)
 | 20,_=>exact Reads.b4 (c:=128512) (b0:=240) (b1:=159) (b2:=152) (b3:=128) (h 0 (by decide)) (h 1 (by decide)) (h 2 (by decide)) (h 3 (by decide)) (by decide) (by decide) (by decide) (by decide) (by decide) (by decide)
 | 21,_=>exact Reads.b4 (c:=1114111) (b0:=244) (b1:=143) (b2:=191) (b3:=191) (h 0 (by decide)) (h 1 (by decide)) (h 2 (by decide)) (h 3 (by decide)) (by decide) (by decide) (by decide) (by decide) (by decide) (by decide)
 | 22,_=>exact decK_1 (b:=99) (h 0 (by decide)) (by decide)
 | 23,_=>exact decK_1 (b:=100) (h 0 (by decide)) (by decide)
 | 24,_=>exact decK_1 (b:=101) (h 0 (by decide)) (by decide)
 | n + 25,h=>omega
/-- A builder at p: its bytes' slice,its bytes,its room. -/
structure Bd (n0 : Nat) (H : Heap) (p : Pa) (x : AV) (s : List UInt8) (r : Nat) : Prop where
 pn : n0≤p.toN
 pl : p.toN < H.next.toN
 off : Off x p
 row : ∃ self,Row H p 105 [self,x]∧(self = .np ∨ self = .p p 0)
 buf : Buf n0 5 H x s r
/-- What a builder's work turns: itself,its bytes. -/
structure Chg (p : Pa) (x x' : AV) (H H' : Heap) : Prop where
 next : H.next.toN≤H'.next.toN
 get : ∀ b,b.toN < H.next.toN→b ≠ p→Off x b→H'.get b = H.get b
 off : ∀ b,b.toN < H.next.toN→Off x b→Off x' b
 dead : Fresh H→Fresh H'
theorem Chg.trans {p : Pa} {x x' x'' : AV} {H H' H'' : Heap} (h : Chg p x x' H H') (h' : Chg p x' x'' H' H'') : Chg p x x'' H H'' :=
 ⟨Nat.le_trans h.next h'.next,fun b hb hp ho=>by rw [h'.get b (Nat.lt_of_lt_of_le hb h.next) hp (h.off b hb ho),h.get b hb hp ho],fun b hb ho=>h'.off b (Nat.lt_of_lt_of_le hb h.next) (h.off b hb ho),fun f=>h'.dead (h.dead f)⟩
theorem Chg.grow {p : Pa} {x : AV} {H H' : Heap} (g : Grow H H') : Chg p x x H H':=⟨g.next,fun b hb _ _=>g.get b hb,fun _ _ h=>h,g.dead⟩
theorem Bd.grow {n0 : Nat} {H H' : Heap} {p : Pa} {x : AV} {s : List UInt8} {r : Nat} (h : Bd n0 H p x s r) (g : Grow H H') : Bd n0 H' p x s r:=by
 obtain ⟨self,k1,k2⟩:=h.row
 exact ⟨h.pn,Nat.lt_of_lt_of_le h.pl g.next,h.off,⟨self,k1.grow g h.pl,k2⟩,h.buf.grow g⟩
/-- Memory that was there ahead of it is as it was. -/
theorem Chg.of {n0 : Nat} {H0 H H' : Heap} {p : Pa} {x x' : AV} {s : List UInt8} {r : Nat} (c : Chg p x x' H H') (b : Bd n0 H p x s r) (g : Grow H0 H) (hn : H0.next.toN≤n0) : Grow H0 H' :=
 ⟨Nat.le_trans g.next c.next,fun a ha=>by rw [c.get a (Nat.lt_of_lt_of_le ha g.next) (by intro q; subst q; have:=b.pn; omega) (b.buf.off (Or.inl (by omega))),g.get a ha],fun f=>c.dead (g.dead f)⟩
theorem s71 {n0 : Nat} {H : Heap} {p : Pa} {x : AV} {s : List UInt8} {r : Nat} (b : Bd n0 H p x s r) :
  ∃ H',Chg p x x H H'∧Bd n0 H' p x s r∧Row H' p 105 [.p p 0,x]∧∀ M,60≤M→∀ (R : Type) (k : HK R),callK tbl (runK tbl M) R (toPa 71) [.p p 0] H k = k (.tu []) H':=by
 obtain ⟨self,hr,hs⟩:=b.row
 have l0:=hr.l 0 (v:=self) rfl
 rcases hs with rfl | rfl
 ·obtain ⟨H',r',b',n',est⟩:=hr.st_one (off:=0) (v:=.p p 0) b.pl (Nat.zero_lt_succ _) rfl
  have r' : Row H' p 105 [.p p 0,x]:=r'
  refine ⟨H',⟨by rw [n']; exact Nat.le_refl _,fun c hc hp _=>b'.get c hc hp,fun _ _ h=>h,b'.dead⟩,⟨b.pn,by rw [n']; exact b.pl,b.off,⟨_,r',Or.inr rfl⟩,b.buf.move (by rw [n']; exact Nat.le_refl _) fun c hc ho=>b'.get c hc (by intro q; subst q; exact ho b.off)⟩,r',fun M hM R k=>?_⟩
  obtain ⟨m,rfl⟩ : ∃ m,M = m + 60:=⟨M - 60,by omega⟩
  rw [call_eq L71]
  unfold B71
  simp only [EX,reduceIte,Nat.reduceEqDiff,Nat.reduceAdd,Int.reduceEq,Int.reduceLT,Int.reduceLE,reduceCtorEq,Nat.reduceLeDiff,Nat.reduceSub,Nat.reduceLT,l0]
  rw [p2u_row hr (Nat.zero_lt_succ _)]
  simp only [EX,reduceIte,Nat.reduceEqDiff,Nat.reduceAdd,Int.reduceEq,Int.reduceLT,Int.reduceLE,reduceCtorEq,Nat.reduceLeDiff,Nat.reduceSub,Nat.reduceLT]
  rw [u2p_row hr (Nat.le_refl 2)]
  simp only [EX,reduceIte,Nat.reduceEqDiff,Nat.reduceAdd,Int.reduceEq,Int.reduceLT,Int.reduceLE,reduceCtorEq,Nat.reduceLeDiff,Nat.reduceSub,Nat.reduceLT,est]
 ·refine ⟨H,Chg.grow (Grow.refl H),b,hr,fun M hM R k=>?_⟩
  obtain ⟨m,rfl⟩ : ∃ m,M = m + 60:=⟨M - 60,by omega⟩
  rw [call_eq L71]
  unfold B71
  simp only [EX,reduceIte,Nat.reduceEqDiff,Nat.reduceAdd,Int.reduceEq,Int.reduceLT,Int.reduceLE,reduceCtorEq,Nat.reduceLeDiff,Nat.reduceSub,Nat.reduceLT,l0]
/-- WriteString. -/
theorem s58 {n0 : Nat} {H : Heap} {p : Pa} {x : AV} {s t : List UInt8} {r : Nat} (b : Bd n0 H p x s r) (hn0 : n0≤H.next.toN) (hf : (s ++ t).length≤r ∨ r = s.length) (hr : (s ++ t).length≤roomN) :
  ∃ H' x',Chg p x x' H H'∧Bd n0 H' p x' (s ++ t) (max r (s ++ t).length)∧∀ M,100≤M→∀ (R : Type) (k : HK R),callK tbl (runK tbl M) R (toPa 58) [.p p 0,str t] H k = k (.tu [.i .i64 (t.length : Int),.ni]) H':=by
 obtain ⟨H1,c1,b1,r1,e1⟩:=s71 b
 have l1:=r1.l 1 (v:=x) rfl
 have fin : ∀ {H2 : Heap} {x2 : AV},Row H2 p 105 [.p p 0,x]→p.toN < H2.next.toN→Buf n0 5 H2 x2 (s ++ t) (max r (s ++ t).length)→Off x2 p→Chg p x x2 H1 H2→(∀ (R : Type) (k : HK R),appendK 5 1 1 x (str t) H1 k = k x2 H2) →
   ∃ H' x',Chg p x x' H H'∧Bd n0 H' p x' (s ++ t) (max r (s ++ t).length)∧∀ M,100≤M→∀ (R : Type) (k : HK R),callK tbl (runK tbl M) R (toPa 58) [.p p 0,str t] H k = k (.tu [.i .i64 (t.length : Int),.ni]) H':=by
  intro H2 x2 r2 p2 bf of c2 ea
  obtain ⟨H3,r3,b3,n3,est⟩:=r2.st_one (off:=1) (v:=x2) p2 (Nat.lt_succ_self 1) bf.self.2.2
  have r3 : Row H3 p 105 [.p p 0,x2]:=r3
  have c3 : Chg p x2 x2 H2 H3:=⟨by rw [n3]; exact Nat.le_refl _,fun c hc hp _=>b3.get c hc hp,fun _ _ h=>h,b3.dead⟩
  refine ⟨H3,x2,(c1.trans c2).trans c3,⟨b.pn,by rw [n3]; exact p2,of,⟨_,r3,Or.inr rfl⟩,bf.move (by rw [n3]; exact Nat.le_refl _) fun c hc ho=>b3.get c hc (by intro q; subst q; exact ho of)⟩,fun M hM R k=>?_⟩
  obtain ⟨m,rfl⟩ : ∃ m,M = m + 100:=⟨M - 100,by omega⟩
  rw [call_eq L58]
  unfold B58
  simp only [EX,reduceIte,Nat.reduceEqDiff,Nat.reduceAdd,Int.reduceEq,Int.reduceLT,Int.reduceLE,reduceCtorEq,Nat.reduceLeDiff,Nat.reduceSub,Nat.reduceLT]
  rw [e1 _ (by omega)]
  simp only [EX,reduceIte,Nat.reduceEqDiff,Nat.reduceAdd,Int.reduceEq,Int.reduceLT,Int.reduceLE,reduceCtorEq,Nat.reduceLeDiff,Nat.reduceSub,Nat.reduceLT,l1,ea,est]
 by_cases ht : t = []
 ·subst ht
  have hz : max r (s ++ []).length = r:=by
   rw [List.append_nil] at hf ⊢
   rcases hf with hf | hf <;> omega
  refine fin r1 b1.pl (by rw [hz,List.append_nil]; exact b1.buf) b1.off (Chg.grow (Grow.refl _)) fun R k=>b1.buf.app0 k
 ·obtain ⟨H2,x2,bf,nx,hg,ho,hd,ea⟩:=b1.buf.app (Nat.le_trans hn0 c1.next) ht hf hr
  obtain ⟨c,k1,k2⟩:=r1
  refine fin ⟨c,by rw [hg p b1.pl b1.off,k1],k2⟩ (Nat.lt_of_lt_of_le b1.pl nx) bf (ho p b1.pl b1.off) ⟨nx,fun c hc _ hx=>hg c hc hx,ho,hd⟩ fun R k=>ea R k _ fun f=>src_str f
/-- WriteRune of a quotation mark. -/
theorem s65 {n0 : Nat} {H : Heap} {p : Pa} {x : AV} {s : List UInt8} {r : Nat} (b : Bd n0 H p x s r) (hn0 : n0≤H.next.toN) (hf : r = s.length) (hr : (s ++ [34]).length≤roomN) :
  ∃ H' x',Chg p x x' H H'∧Bd n0 H' p x' (s ++ [34]) (s ++ [34]).length∧∀ M,200≤M→∀ (R : Type) (k : HK R),callK tbl (runK tbl M) R (toPa 65) [.p p 0,.i .i32 34] H k = k (.tu [.i .i64 (IntKind.i64.wrap (((s ++ [34]).length : Int) - (s.length : Int))),.ni]) H':=by
 obtain ⟨H1,c1,b1,r1,e1⟩:=s71 b
 have l1:=r1.l 1 (v:=x) rfl
 obtain ⟨H2,e2⟩ : ∃ H2,H2 = H1.alloc (.cells false 0 5 1 (setCells [.i .u8 34] 0 .leaf)):=⟨_,rfl⟩
 have g2 : Grow H1 H2:=by rw [e2]; exact Grow.alloc H1 _
 have ra : Row H2 H1.next 5 (bcs [34]):=by rw [e2]; exact Row.new H1 5 (bcs [34])
 have b2:=b1.grow g2
 have hz : max r (s ++ [34]).length = (s ++ [34]).length:=by rw [hf,List.length_append]; omega
 obtain ⟨H3,x3,bf,nx,hg,ho,hd,ea⟩:=b2.buf.app (Nat.le_trans (Nat.le_trans hn0 c1.next) g2.next) (t:=[34]) (by decide) (Or.inr hf) hr
 rw [hz] at bf
 have r3 : Row H3 p 105 [.p p 0,x]:=by
  obtain ⟨c,k1,k2⟩:=r1.grow g2 b1.pl
  exact ⟨c,by rw [hg p b2.pl b2.off,k1],k2⟩
 have c3 : Chg p x x3 H2 H3:=⟨nx,fun c hc _ hx=>hg c hc hx,ho,hd⟩
 have of:=ho p b2.pl b2.off
 have p3 : p.toN < H3.next.toN:=Nat.lt_of_lt_of_le b2.pl nx
 obtain ⟨H4,r4,b4,n4,est⟩:=r3.st_one (off:=1) (v:=x3) p3 (Nat.lt_succ_self 1) bf.self.2.2
 have r4 : Row H4 p 105 [.p p 0,x3]:=r4
 have l4:=r4.l 1 (v:=x3) rfl
 have c4 : Chg p x3 x3 H3 H4:=⟨by rw [n4]; exact Nat.le_refl _,fun c hc hp _=>b4.get c hc hp,fun _ _ h=>h,b4.dead⟩
 refine ⟨H4,x3,((c1.trans (Chg.grow g2)).trans c3).trans c4,⟨b.pn,by rw [n4]; exact p3,of,⟨_,r4,Or.inr rfl⟩,bf.move (by rw [n4]; exact Nat.le_refl _) fun c hc ho=>b4.get c hc (by intro q; subst q; exact ho of)⟩,fun M hM R k=>?_⟩
 obtain ⟨m,rfl⟩ : ∃ m,M = m + 200:=⟨M - 200,by omega⟩
 have w1 : IntKind.u32.wrap 34 = 34:=by decide
 have w2 : IntKind.u8.wrap 34 = 34:=by decide
 rw [call_eq L65]
 unfold B65
 simp only [EX,reduceIte,Nat.reduceEqDiff,Nat.reduceAdd,Int.reduceEq,Int.reduceLT,Int.reduceLE,reduceCtorEq,Nat.reduceLeDiff,Nat.reduceSub,Nat.reduceLT]
 rw [e1 _ (by omega)]
 simp only [EX,reduceIte,Nat.reduceEqDiff,Nat.reduceAdd,Int.reduceEq,Int.reduceLT,Int.reduceLE,reduceCtorEq,Nat.reduceLeDiff,Nat.reduceSub,Nat.reduceLT,l1,b1.buf.len]
 rw [call_eq L76]
 unfold B76
 simp only [EX,reduceIte,Nat.reduceEqDiff,Nat.reduceAdd,Int.reduceEq,Int.reduceLT,Int.reduceLE,reduceCtorEq,Nat.reduceLeDiff,Nat.reduceSub,Nat.reduceLT,w1,w2]
 rw [← e2,ea _ _ (.sl H1.next 0 1 (some 1) 1) fun f=>src_all (n:=1) ra rfl f]
 simp only [EX,reduceIte,Nat.reduceEqDiff,Nat.reduceAdd,Int.reduceEq,Int.reduceLT,Int.reduceLE,reduceCtorEq,Nat.reduceLeDiff,Nat.reduceSub,Nat.reduceLT,est,l4,bf.len,i_sub]
/-- String. -/
theorem s59 {n0 : Nat} {H : Heap} {p : Pa} {x : AV} {s : List UInt8} {r : Nat} (b : Bd n0 H p x s r) (hx : s ≠ [] ∨ x = .ns) (hr : s.length≤roomN) :
  ∃ H',(H.next.toN≤H'.next.toN∧(∀ c,c.toN < n0→c.toN < H.next.toN→H'.get c = H.get c)∧(Fresh H→Fresh H'))∧∀ M,100≤M→∀ (R : Type) (k : HK R),callK tbl (runK tbl M) R (toPa 59) [.p p 0] H k = k (str s) H':=by
 obtain ⟨self,hrow,_⟩:=b.row
 have l1:=hrow.l 1 (v:=x) rfl
 have ax:=b.buf.self.1
 obtain ⟨rfl,rfl,rfl⟩ | ⟨a,L,rfl,ha,hL,hs,hT,h0,h1⟩:=b.buf
 ·refine ⟨H,⟨Nat.le_refl _,fun _ _ _=>rfl,id⟩,fun M hM R k=>?_⟩
  obtain ⟨m,rfl⟩ : ∃ m,M = m + 100:=⟨M - 100,by omega⟩
  rw [call_eq L59]
  unfold B59
  simp only [EX,reduceIte,Nat.reduceEqDiff,Nat.reduceAdd,Int.reduceEq,Int.reduceLT,Int.reduceLE,reduceCtorEq,Nat.reduceLeDiff,Nat.reduceSub,Nat.reduceLT,l1]
 ·have hne : s ≠ []:=by rcases hx with h | h; exact h; cases h
  obtain ⟨H',b',eu⟩:=ustr_row ha (s:=s) (by rw [hL]; exact hs) hT hne hr h1
  refine ⟨H',⟨b'.next,fun c hc hd=>b'.get c hd (by intro q; subst q; omega),b'.dead⟩,fun M hM R k=>?_⟩
  obtain ⟨m,rfl⟩ : ∃ m,M = m + 100:=⟨M - 100,by omega⟩
  rw [call_eq L59]
  unfold B59
  simp only [EX,reduceIte,Nat.reduceEqDiff,Nat.reduceAdd,Int.reduceEq,Int.reduceLT,Int.reduceLE,reduceCtorEq,Nat.reduceLeDiff,Nat.reduceSub,Nat.reduceLT,l1]
  rw [usd_sl (List.length_pos_iff.mpr hne)]
  simp only [EX,reduceIte,Nat.reduceEqDiff,Nat.reduceAdd,Int.reduceEq,Int.reduceLT,Int.reduceLE,reduceCtorEq,Nat.reduceLeDiff,Nat.reduceSub,Nat.reduceLT,l1,eu]
theorem Bd.move {n0 : Nat} {H H' : Heap} {p : Pa} {x : AV} {s : List UInt8} {r : Nat} (h : Bd n0 H p x s r) (hn : H.next.toN≤H'.next.toN) (hp : H'.get p = H.get p) (hg : ∀ b,b.toN < H.next.toN→¬ Off x b→H'.get b = H.get b) : Bd n0 H' p x s r:=by
 obtain ⟨self,⟨c,k1,k3⟩,k2⟩:=h.row
 exact ⟨h.pn,Nat.lt_of_lt_of_le h.pl hn,h.off,⟨self,⟨c,by rw [hp,k1],k3⟩,k2⟩,h.buf.move hn hg⟩
theorem rn_nat {i : Nat} (hi : i < 25) : ((rn i).toNat : Int) = rn i:=by
 have : ∀ i,i < 25→((rn i).toNat : Int) = rn i:=by decide
 exact this i hi
theorem qr_le {i : Nat} (hi : i < 25) : (qr i).length≤6:=by
 have : ∀ i,i < 25→(qr i).length≤6:=by decide
 exact this i hi
/-- A text of runes,quoted,but for the marks. -/
def qtx (l : List Nat) : List UInt8:=l.flatMap qr
theorem qtx_le : ∀ {l : List Nat},(∀ i ∈ l,i < 25)→(qtx l).length≤6 * l.length
 | [],_=>Nat.le_refl _
 | i :: l,h=>by
  have h1:=qr_le (h i (List.mem_cons_self ..))
  have h2:=qtx_le fun j hj=>h j (List.mem_cons_of_mem _ hj)
  show (qr i ++ qtx l).length≤_
  rw [List.length_append,List.length_cons]; omega
theorem qtx_app {l l' : List Nat} : qtx (l ++ l') = qtx l ++ qtx l':=List.flatMap_append
structure HI45 (H0 : Heap) (p it : Pa) (l done : List Nat) (x : AV) (H : Heap) : Prop where
 g : Grow H0 H
 b : Bd H0.next.toN H p x (34 :: qtx done) (34 :: qtx done).length
 i : H.get it = .iter (txt l).length (pk (txt l)) (txt done).length
 ib : it.toN < H.next.toN
 ip : it ≠ p
 io : Off x it
 i0 : H0.next.toN≤it.toN
structure FI45 (p it : Pa) (fr : Tr AV) : Prop where
 f3 : V fr 3 = .p p 0
 f8 : V fr 8 = .p it 0
theorem loop45 {H0 : Heap} (hG : Glob3 H0) {p it : Pa} {l : List Nat} (hl : ∀ i ∈ l,i < 25) (hn : l.length≤1000) : ∀ (rest done : List Nat) (x : AV) (H : Heap),done ++ rest = l→HI45 H0 p it l done x H →
  ∃ x' H',HI45 H0 p it l l x' H'∧∀ fr,FI45 p it fr→∃ fr',FI45 p it fr'∧∀ M,1200 + rest.length≤M→∀ (R : Type) (k : XK R),runK tbl M R Lp45 fr H k = k (.exit 0) fr' H'
 | [],done,x,H,hd,inv=>by
  rw [List.append_nil] at hd
  subst hd
  refine ⟨x,H,inv,fun fr f=>?_⟩
  have f3:=f.f3
  have f8:=f.f8
  refine ⟨?fr1,⟨?p3,?p8⟩,fun M hM R k=>?e⟩
  case e =>
   obtain ⟨m,rfl⟩ : ∃ m,M = m + 100:=⟨M - 100,by omega⟩
   unfold Lp45
   rw [run_loop]
   simp only [EX,reduceIte,Nat.reduceEqDiff,Nat.reduceAdd,Int.reduceEq,Int.reduceLT,Int.reduceLE,reduceCtorEq,Nat.reduceLeDiff,Nat.reduceSub,Nat.reduceLT,f8]
   rw [nxt_end inv.i]
   simp only [EX,reduceIte,Nat.reduceEqDiff,Nat.reduceAdd,Int.reduceEq,Int.reduceLT,Int.reduceLE,reduceCtorEq,Nat.reduceLeDiff,Nat.reduceSub,Nat.reduceLT]
   with_reducible rfl
  case p3=>simp only [V_S,Nat.reduceEqDiff,reduceIte]; exact f3
  case p8=>simp only [V_S,Nat.reduceEqDiff,reduceIte]; exact f8
 | i :: rest,done,x,H,hd,inv=>by
  have hi : i < 25:=hl i (by rw [← hd]; simp)
  have hlen : l.length = done.length + rest.length + 1:=by rw [← hd]; simp; omega
  have etx : txt l = txt done ++ en i ++ txt rest:=by
   rw [← hd,txt_app,List.append_assoc]; rfl
  have hrd : Reads (txt l) (txt done).length (rn i).toNat (en i).length:=by rw [etx]; exact reads_rn hi _ _
  obtain ⟨H1,e1⟩ : ∃ H1,H1 = H.put it (.iter (txt l).length (pk (txt l)) ((txt done).length + (en i).length)):=⟨_,rfl⟩
  have n1 : H1.next = H.next:=e1 ▸ next_put
  have get1 : ∀ b,b ≠ it→H1.get b = H.get b:=fun b hb=>by rw [e1,Heap.get_put,if_neg fun q=>hb q.symm]
  have iter1 : H1.get it = .iter (txt l).length (pk (txt l)) ((txt done).length + (en i).length):=by rw [e1,get_put]
  have b1 : Bd H0.next.toN H1 p x (34 :: qtx done) (34 :: qtx done).length:=inv.b.move (by rw [n1]; exact Nat.le_refl _) (get1 p fun q=>inv.ip q.symm) fun b hb ho=>get1 b fun q=>by subst q; exact ho inv.io
  have gb1 : GrowBut it H H1:=⟨by rw [n1]; exact Nat.le_refl _,fun b _ hne=>get1 b hne,fun f b hb=>by
   rw [n1] at hb
   rw [get1 b (by intro q; subst q; have:=inv.ib; omega)]
   exact f b hb⟩
  have g01 : Grow H0 H1:=gb1.of inv.g inv.i0
  obtain ⟨H2,g2,e66⟩:=s66 hi (hG.grow g01)
  have b2:=b1.grow g2
  have hq:=qr_le hi
  have hqd : (qtx done).length≤6 * done.length:=qtx_le fun j hj=>hl j (by rw [← hd]; exact List.mem_append_left _ hj)
  have hroom : ((34 :: qtx done) ++ qr i).length≤roomN:=by
   have : (7000 : Nat)≤roomN:=by decide
   rw [List.length_append,List.length_cons]; omega
  obtain ⟨H3,x3,c3,b3,e58⟩:=s58 (t:=qr i) b2 (g01.trans g2).next (Or.inr rfl) hroom
  have hz : max (34 :: qtx done).length ((34 :: qtx done) ++ qr i).length = ((34 :: qtx done) ++ qr i).length:=by rw [List.length_append]; omega
  have eq34 : (34 :: qtx done) ++ qr i = 34 :: qtx (done ++ [i]):=by rw [qtx_app]; simp [qtx]
  rw [hz,eq34] at b3
  have it1 : it.toN < H1.next.toN:=by rw [n1]; exact inv.ib
  have it2 : it.toN < H2.next.toN:=Nat.lt_of_lt_of_le it1 g2.next
  have inv3 : HI45 H0 p it l (done ++ [i]) x3 H3:=⟨c3.of b2 (g01.trans g2) (Nat.le_refl _),b3,by
   rw [c3.get it it2 inv.ip inv.io,g2.get it it1,iter1,txt_app,List.length_append]
   congr 1
   show _ = _ + (en i ++ txt []).length
   rw [show txt [] = [] from rfl,List.append_nil],Nat.lt_of_lt_of_le it2 c3.next,inv.ip,c3.off it it2 inv.io,inv.i0⟩
  obtain ⟨x',H',inv',eq'⟩:=loop45 hG hl hn rest (done ++ [i]) x3 H3 (by rw [← hd]; simp) inv3
  refine ⟨x',H',inv',fun fr f=>?_⟩
  have f3:=f.f3
  have f8:=f.f8
  obtain ⟨fr',f',er⟩:=eq' (S (S (S (S (S (S (S fr 9 (.tu [.b true,.i .i64 ((txt done).length : Int),.i .i32 (rn i)])) 10 (.b true)) 11 (.i .i32 (rn i))) 5 (.i .i32 (rn i))) 12 (.i .i32 (rn i))) 13 (str (qr i))) 14 (.tu [.i .i64 ((qr i).length : Int),.ni])) ⟨by simp only [V_S,Nat.reduceEqDiff,reduceIte]; exact f3,by simp only [V_S,Nat.reduceEqDiff,reduceIte]; exact f8⟩
  refine ⟨fr',f',fun M hM R k=>?_⟩
  rw [List.length_cons] at hM
  obtain ⟨m,rfl⟩ : ∃ m,M = m + 100:=⟨M - 100,by omega⟩
  unfold Lp45
  rw [run_loop]
  simp only [EX,reduceIte,Nat.reduceEqDiff,Nat.reduceAdd,Int.reduceEq,Int.reduceLT,Int.reduceLE,reduceCtorEq,Nat.reduceLeDiff,Nat.reduceSub,Nat.reduceLT,f3,f8]
  rw [nxt_at inv.i hrd,← e1,rn_nat hi]
  simp only [EX,reduceIte,Nat.reduceEqDiff,Nat.reduceAdd,Int.reduceEq,Int.reduceLT,Int.reduceLE,reduceCtorEq,Nat.reduceLeDiff,Nat.reduceSub,Nat.reduceLT,f3,f8]
  rw [e66 _ (by omega)]
  simp only [EX,reduceIte,Nat.reduceEqDiff,Nat.reduceAdd,Int.reduceEq,Int.reduceLT,Int.reduceLE,reduceCtorEq,Nat.reduceLeDiff,Nat.reduceSub,Nat.reduceLT,f3,f8]
  rw [e58 _ (by omega)]
  exact er (m + 99) (by omega) R k
end Go.Proofs.YtmmmjhkgjmbfaaaDoor

/- A text as it is quoted (text.Quote): the whole. -/
namespace Go.Proofs.YtmmmjhkgjmbfaaaDoor
open Go Go.Vai
set_option maxRecDepth 100000
set_option maxHeartbeats 1600000
set_option linter.unusedSimpArgs false
/-- A text of runes,quoted. -/
def quo (l : List Nat) : List UInt8:=34 :: qtx l ++ [34]
theorem quo_le {l : List Nat} (hl : ∀ i ∈ l,i < 25) : (quo l).length≤6 * l.length + 2:=by
 have:=qtx_le hl
 unfold quo
 rw [List.length_append,List.length_cons]
 show _ + 1 + 1≤_
 omega
theorem s45 {l : List Nat} (hl : ∀ i ∈ l,i < 25) (hn : l.length≤1000) {H : Heap} (hG : Glob3 H) : Tells 45 2600 [str (txt l)] H (str (quo l)):=by
 obtain ⟨H1,e1⟩ : ∃ H1,H1 = H.alloc (.cells false 0 105 2 (setCells [.np,.ns] 0 .leaf)):=⟨_,rfl⟩
 have g1 : Grow H H1:=by rw [e1]; exact Grow.alloc H _
 have n1 : H1.next.toN = H.next.toN + 1:=by rw [e1]; exact next_alloc H _
 have r1 : Row H1 H.next 105 [.np,.ns]:=by rw [e1]; exact Row.new H 105 [.np,.ns]
 have b1 : Bd H.next.toN H1 H.next .ns [] 0:=⟨Nat.le_refl _,by omega,(by intro o l c z q; cases q),⟨_,r1,Or.inl rfl⟩,Or.inl ⟨rfl,rfl,rfl⟩⟩
 have hq:=qtx_le hl
 have hroom : (7000 : Nat)≤roomN:=by decide
 obtain ⟨H2,x2,c2,b2,e2⟩:=s65 b1 (by omega) rfl (by show 1≤_; omega)
 have g2 : Grow H H2:=c2.of b1 g1 (Nat.le_refl _)
 obtain ⟨H3,e3⟩ : ∃ H3,H3 = H2.alloc (.iter (txt l).length (pk (txt l)) 0):=⟨_,rfl⟩
 have g3 : Grow H2 H3:=by rw [e3]; exact Grow.alloc H2 _
 have n3 : H3.next.toN = H2.next.toN + 1:=by rw [e3]; exact next_alloc H2 _
 have i3 : H3.get H2.next = .iter (txt l).length (pk (txt l)) 0:=by rw [e3]; exact get_alloc H2 _
 have hp2 : H.next.toN < H2.next.toN:=b2.pl
 have inv : HI45 H H.next H2.next l [] x2 H3:=⟨g2.trans g3,b2.grow g3,i3,by omega,(by intro q; rw [← q] at hp2; omega),b2.buf.off (Or.inr (Nat.le_refl _)),by omega⟩
 obtain ⟨x4,H4,inv4,eq4⟩:=loop45 hG hl hn l [] x2 H3 rfl inv
 obtain ⟨H5,x5,c5,b5,e5⟩:=s65 inv4.b inv4.g.next rfl (by rw [List.length_append,List.length_cons]; show _ + 1 + 1≤_; omega)
 have g5 : Grow H H5:=c5.of inv4.b inv4.g (Nat.le_refl _)
 obtain ⟨H6,⟨k1,k2,k3⟩,e6⟩:=s59 b5 (Or.inl (by simp)) (by rw [List.length_append,List.length_cons]; show _ + 1 + 1≤_; omega)
 have g6 : Grow H H6:=⟨Nat.le_trans g5.next k1,fun a ha=>by rw [k2 a ha (Nat.lt_of_lt_of_le ha g5.next),g5.get a ha],fun f=>k3 (g5.dead f)⟩
 have eq4' : ∀ fr,FI45 H.next H2.next fr→∀ M,1200 + l.length≤M→∀ (R : Type) (k : XK R) (res : Option R),(∀ fr',FI45 H.next H2.next fr'→k (.exit 0) fr' H4 = res)→runK tbl M R Lp45 fr H3 k = res:=by
  intro fr f M hM R k res hr
  obtain ⟨fr',f',er⟩:=eq4 fr f
  rw [er M hM R k,hr fr' f']
 refine ⟨H6,g6,fun M hM R k=>?_⟩
 obtain ⟨m,rfl⟩ : ∃ m,M = m + 2600:=⟨M - 2600,by omega⟩
 rw [call_eq L45]
 unfold B45
 simp only [EX,reduceIte,Nat.reduceEqDiff,Nat.reduceAdd,Int.reduceEq,Int.reduceLT,Int.reduceLE,reduceCtorEq,Nat.reduceLeDiff,Nat.reduceSub,Nat.reduceLT]
 rw [← e1,e2 _ (by omega)]
 simp only [EX,reduceIte,Nat.reduceEqDiff,Nat.reduceAdd,Int.reduceEq,Int.reduceLT,Int.reduceLE,reduceCtorEq,Nat.reduceLeDiff,Nat.reduceSub,Nat.reduceLT]
 rw [← e3]
 refine eq4' _ ?ff _ ?hm R _ _ fun fr' f'=>?ee
 case ff=>exact ⟨by simp only [V_S,Nat.reduceEqDiff,reduceIte],by simp only [V_S,Nat.reduceEqDiff,reduceIte]⟩
 case hm=>omega
 case ee =>
  have f3:=f'.f3
  simp only [EX,reduceIte,Nat.reduceEqDiff,Nat.reduceAdd,Int.reduceEq,Int.reduceLT,Int.reduceLE,reduceCtorEq,Nat.reduceLeDiff,Nat.reduceSub,Nat.reduceLT,f3]
  rw [e5 _ (by omega)]
  simp only [EX,reduceIte,Nat.reduceEqDiff,Nat.reduceAdd,Int.reduceEq,Int.reduceLT,Int.reduceLE,reduceCtorEq,Nat.reduceLeDiff,Nat.reduceSub,Nat.reduceLT,f3]
  rw [e6 _ (by omega)]
  simp only [EX,reduceIte,Nat.reduceEqDiff,Nat.reduceAdd,Int.reduceEq,Int.reduceLT,Int.reduceLE,reduceCtorEq,Nat.reduceLeDiff,Nat.reduceSub,Nat.reduceLT]
  exact rfl
end Go.Proofs.YtmmmjhkgjmbfaaaDoor

/- A text as the document quotes it (chancelref1.Quote): the same. -/
namespace Go.Proofs.YtmmmjhkgjmbfaaaDoor
open Go Go.Vai
set_option maxRecDepth 100000
set_option maxHeartbeats 1600000
set_option linter.unusedSimpArgs false
def hds : List UInt8:=[48,49,50,51,52,53,54,55,56,57,97,98,99,100,101,102]
def hd1 (n : Nat) : UInt8:=(hds[n]?).getD 0
def hx (n : Nat) : List UInt8:=if n < 16 then [hd1 n] else [hd1 (n / 16),hd1 (n % 16)]
theorem hds_1 {n : Nat} (h : n < 16) : (hds.drop n).take 1 = [hd1 n]:=by
 have : ∀ n,n < 16→(hds.drop n).take 1 = [hd1 n]:=by decide
 exact this n h
theorem s51_1 {R : Type} {n : Nat} (hn : n < 16) {M : Nat} (hM : 60≤M) (H : Heap) (k : HK R) : callK tbl (runK tbl M) R (toPa 51) [.i .i64 (n : Int)] H k = k (str [hd1 n]) H:=by
 obtain ⟨m,rfl⟩ : ∃ m,M = m + 60:=⟨M - 60,by omega⟩
 have h' : ¬ (16 : Int)≤(n : Int):=by omega
 rw [call_eq L51]
 unfold B51
 simp only [EX,reduceIte,Nat.reduceEqDiff,Nat.reduceAdd,Int.reduceEq,Int.reduceLT,Int.reduceLE,reduceCtorEq,Nat.reduceLeDiff,Nat.reduceSub,Nat.reduceLT,h',i_add]
 rw [show (n : Int) + 1 = ((n + 1 : Nat) : Int) by omega,wrap_n64 (by omega)]
 refine (sls_str (s:=hds) (by omega) (by omega) (by show _≤(16 : Int); omega)).trans ?_
 simp only [EX,reduceIte,Nat.reduceEqDiff,Nat.reduceAdd,Int.reduceEq,Int.reduceLT,Int.reduceLE,reduceCtorEq,Nat.reduceLeDiff,Nat.reduceSub,Nat.reduceLT]
 rw [Int.toNat_natCast,Int.toNat_natCast,show n + 1 - n = 1 by omega,hds_1 hn]
theorem s51 {R : Type} {n : Nat} (hn : n < 256) {M : Nat} (hM : 120≤M) (H : Heap) (k : HK R) : callK tbl (runK tbl M) R (toPa 51) [.i .i64 (n : Int)] H k = k (str (hx n)) H:=by
 by_cases h : n < 16
 ·rw [s51_1 h (by omega)]; unfold hx; rw [if_pos h]
 ·obtain ⟨m,rfl⟩ : ∃ m,M = m + 120:=⟨M - 120,by omega⟩
  have h' : (16 : Int)≤(n : Int):=by omega
  rw [call_eq L51]
  unfold B51
  simp only [EX,reduceIte,Nat.reduceEqDiff,Nat.reduceAdd,Int.reduceEq,Int.reduceLT,Int.reduceLE,reduceCtorEq,Nat.reduceLeDiff,Nat.reduceSub,Nat.reduceLT,h',i_quo (show (16 : Int) ≠ 0 by decide),i_rem (show (16 : Int) ≠ 0 by decide)]
  rw [q16,wrap_n64 (by omega),s51_1 (by omega) (by omega)]
  simp only [EX,reduceIte,Nat.reduceEqDiff,Nat.reduceAdd,Int.reduceEq,Int.reduceLT,Int.reduceLE,reduceCtorEq,Nat.reduceLeDiff,Nat.reduceSub,Nat.reduceLT,i_rem (show (16 : Int) ≠ 0 by decide)]
  rw [r16,s51_1 (by omega) (by omega)]
  simp only [EX,reduceIte,Nat.reduceEqDiff,Nat.reduceAdd,Int.reduceEq,Int.reduceLT,Int.reduceLE,reduceCtorEq,Nat.reduceLeDiff,Nat.reduceSub,Nat.reduceLT]
  rw [s_add (s:=[hd1 (n / 16)]) (t:=[hd1 (n % 16)]) (show 1 + 1≤sMax by decide)]
  simp only [EX,reduceIte,Nat.reduceEqDiff,Nat.reduceAdd,Int.reduceEq,Int.reduceLT,Int.reduceLE,reduceCtorEq,Nat.reduceLeDiff,Nat.reduceSub,Nat.reduceLT]
  unfold hx
  rw [if_neg h]; rfl
/-- A byte as it is quoted. -/
def qb (b : UInt8) : List UInt8:=if b = 92 ∨ b = 34 then [92,b] else if b = 10 then [92,110] else if b = 9 then [92,116] else if b < 32 ∨ b = 127 then [92,117,123] ++ hx b.toNat ++ [125] else [b]
theorem hx_le (n : Nat) : (hx n).length≤2:=by
 unfold hx
 split
 ·show 1≤2; omega
 ·exact Nat.le_refl 2
theorem qb_le (b : UInt8) : (qb b).length≤6:=by
 have:=hx_le b.toNat
 unfold qb
 repeat' split
 ·show 2≤6; omega
 ·show 2≤6; omega
 ·show 2≤6; omega
 ·rw [List.length_append,List.length_append]; show 3 + _ + 1≤6; omega
 ·show 1≤6; omega
theorem qbs_le : ∀ s : List UInt8,(s.flatMap qb).length≤6 * s.length
 | []=>Nat.le_refl _
 | b :: s=>by
  have h1:=qb_le b
  have h2:=qbs_le s
  rw [List.flatMap_cons,List.length_append,List.length_cons]; omega
structure F25 (s : List UInt8) (i : Nat) (fr : Tr AV) : Prop where
 f0 : V fr 0 = str s
 f3 : V fr 3 = str (34 :: (s.take i).flatMap qb)
 f4 : V fr 4 = .i .i64 (i : Int)
theorem loop25 {s : List UInt8} (hn : s.length≤100000) (H : Heap) : ∀ (rest : List UInt8) (i : Nat),s.drop i = rest→i≤s.length→∀ fr,F25 s i fr→∃ fr',F25 s s.length fr'∧∀ M,300 + rest.length≤M→∀ (R : Type) (k : XK R),runK tbl M R Lp25 fr H k = k (.exit 0) fr' H
 | [],i,hd,hi,fr,f=>by
  have hi : i = s.length:=by have:=List.drop_eq_nil_iff.mp hd; omega
  subst hi
  have f0:=f.f0
  have f3:=f.f3
  have f4:=f.f4
  refine ⟨?fr1,⟨?p0,?p3,?p4⟩,fun M hM R k=>?e⟩
  case e =>
   obtain ⟨m,rfl⟩ : ∃ m,M = m + 100:=⟨M - 100,by omega⟩
   unfold Lp25
   rw [run_loop]
   simp only [EX,reduceIte,Nat.reduceEqDiff,Nat.reduceAdd,Int.reduceEq,Int.reduceLT,Int.reduceLE,reduceCtorEq,Nat.reduceLeDiff,Nat.reduceSub,Nat.reduceLT,f0,f4,Int.lt_irrefl]
   with_reducible rfl
  case p0=>simp only [V_S,Nat.reduceEqDiff,reduceIte]; exact f0
  case p3=>simp only [V_S,Nat.reduceEqDiff,reduceIte]; exact f3
  case p4=>simp only [V_S,Nat.reduceEqDiff,reduceIte]; exact f4
 | b :: rest,i,hd,hi,fr,f=>by
  have hb : s[i]? = some b:=by
   have:=congrArg (fun l=>l[0]?) hd
   simpa using this
  have hil : i < s.length:=(List.getElem?_eq_some_iff.mp hb).1
  have hd' : s.drop (i + 1) = rest:=by
   have:=congrArg List.tail hd
   rwa [List.tail_drop] at this
  have hlt : (i : Int) < (s.length : Int):=by omega
  have htk : (s.take (i + 1)).flatMap qb = (s.take i).flatMap qb ++ qb b:=by
   rw [List.take_add_one,hb,List.flatMap_append]; simp
  have hsl : (s.drop i).take 1 = [b]:=by rw [hd]; rfl
  have hw : IntKind.i64.wrap ((i : Int) + 1) = ((i + 1 : Nat) : Int):=by rw [show (i : Int) + 1 = ((i + 1 : Nat) : Int) by omega,wrap_n64 (by omega)]
  have hql:=qbs_le (s.take i)
  have htl : (s.take i).length≤s.length:=by rw [List.length_take]; omega
  have hsM : (700000 : Nat)≤sMax:=by decide
  have hxl:=hx_le b.toNat
  have add : ∀ (R : Type) (ek : EK) (t u : List UInt8) (k : HK R) (H : Heap),t.length + u.length≤700000→binC .add ek (str t) (str u) k H = k (str (t ++ u)) H:=fun R ek t u k H h=>s_add (by omega)
  have hsls : ∀ (R : Type) (k : HK R) (H : Heap),slsC (str s) (some (.i .i64 (i : Int))) (some (.i .i64 ((i + 1 : Nat) : Int))) k H = k (str [b]) H:=by
   intro R k H
   rw [sls_str (by omega) (by omega) (by omega),Int.toNat_natCast,Int.toNat_natCast,show i + 1 - i = 1 by omega,hsl]
  have hixs : ∀ (R : Type) (k : HK R) (H : Heap),ixsC (str s) (.i .i64 (i : Int)) k H = k (.i .u8 (b.toNat : Int)) H:=fun R k H=>ixs_str (by omega) (by rw [Int.toNat_natCast]; exact hb)
  have f0:=f.f0
  have f3:=f.f3
  have f4:=f.f4
  have go : ∀ fr1,F25 s (i + 1) fr1→(∀ M,250≤M→∀ (R : Type) (k : XK R),runK tbl (M + 1) R Lp25 fr H k = runK tbl M R Lp25 fr1 H k)→∃ fr',F25 s s.length fr'∧∀ M,300 + (b :: rest).length≤M→∀ (R : Type) (k : XK R),runK tbl M R Lp25 fr H k = k (.exit 0) fr' H:=by
   intro fr1 f1 e1
   obtain ⟨fr2,f2,e2⟩:=loop25 hn H rest (i + 1) hd' hil fr1 f1
   refine ⟨fr2,f2,fun M hM R k=>?_⟩
   rw [List.length_cons] at hM
   obtain ⟨m,rfl⟩ : ∃ m,M = m + 1:=⟨M - 1,by omega⟩
   rw [e1 m (by omega),e2 m (by omega)]
  have hbn : ∀ c : Nat,c < 256→((b.toNat : Int) = (c : Int) ↔ b = UInt8.ofNat c):=by
   intro c hc
   constructor
   ·intro h
    apply UInt8.toNat_inj.mp
    rw [UInt8.toNat_ofNat_of_lt' (by exact hc)]; omega
   ·rintro rfl
    rw [UInt8.toNat_ofNat_of_lt' (by exact hc)]
  by_cases h92 : b = 92
  ·have n92 : (b.toNat : Int) = 92:=(hbn 92 (by decide)).mpr h92
   have hq : qb b = [92,b]:=by unfold qb; simp [h92]
   refine go ?fr_a ⟨?p0_a,?p3_a,?p4_a⟩ fun M hM R k=>?e_a
   case e_a =>
    obtain ⟨m,rfl⟩ : ∃ m,M = m + 200:=⟨M - 200,by omega⟩
    unfold Lp25
    rw [run_loop]
    simp only [EX,reduceIte,Nat.reduceEqDiff,Nat.reduceAdd,Int.reduceEq,Int.reduceLT,Int.reduceLE,reduceCtorEq,Nat.reduceLeDiff,Nat.reduceSub,Nat.reduceLT,f0,f3,f4,hlt,hixs,i_add,hw,hsls,n92]
    rw [add _ _ _ _ _ _ (by simp only [List.length_cons,List.length_nil,List.length_append]; omega)]
    simp only [EX,reduceIte,Nat.reduceEqDiff,Nat.reduceAdd,Int.reduceEq,Int.reduceLT,Int.reduceLE,reduceCtorEq,Nat.reduceLeDiff,Nat.reduceSub,Nat.reduceLT,f0,f3,f4,hw,hsls,i_add]
    rw [add _ _ _ _ _ _ (by simp only [List.length_cons,List.length_nil,List.length_append]; omega)]
    simp only [EX,reduceIte,Nat.reduceEqDiff,Nat.reduceAdd,Int.reduceEq,Int.reduceLT,Int.reduceLE,reduceCtorEq,Nat.reduceLeDiff,Nat.reduceSub,Nat.reduceLT,f0,f3,f4,hw,hsls,i_add]
    with_reducible rfl
   case p0_a=>simp only [V_S,Nat.reduceEqDiff,reduceIte]; exact f0
   case p3_a=>simp only [V_S,Nat.reduceEqDiff,reduceIte]; rw [htk,hq]; simp
   case p4_a=>simp only [V_S,Nat.reduceEqDiff,reduceIte]
  by_cases h34 : b = 34
  ·have n92 : ¬ (b.toNat : Int) = 92:=fun h=>h92 ((hbn 92 (by decide)).mp h)
   have n34 : (b.toNat : Int) = 34:=(hbn 34 (by decide)).mpr h34
   have hq : qb b = [92,b]:=by unfold qb; simp [h34]
   refine go ?fr_b ⟨?p0_b,?p3_b,?p4_b⟩ fun M hM R k=>?e_b
   case e_b =>
    obtain ⟨m,rfl⟩ : ∃ m,M = m + 200:=⟨M - 200,by omega⟩
    unfold Lp25
    rw [run_loop]
    simp only [EX,reduceIte,Nat.reduceEqDiff,Nat.reduceAdd,Int.reduceEq,Int.reduceLT,Int.reduceLE,reduceCtorEq,Nat.reduceLeDiff,Nat.reduceSub,Nat.reduceLT,f0,f3,f4,hlt,hixs,i_add,hw,hsls,n92,n34]
    rw [add _ _ _ _ _ _ (by simp only [List.length_cons,List.length_nil,List.length_append]; omega)]
    simp only [EX,reduceIte,Nat.reduceEqDiff,Nat.reduceAdd,Int.reduceEq,Int.reduceLT,Int.reduceLE,reduceCtorEq,Nat.reduceLeDiff,Nat.reduceSub,Nat.reduceLT,f0,f3,f4,hw,hsls,i_add]
    rw [add _ _ _ _ _ _ (by simp only [List.length_cons,List.length_nil,List.length_append]; omega)]
    simp only [EX,reduceIte,Nat.reduceEqDiff,Nat.reduceAdd,Int.reduceEq,Int.reduceLT,Int.reduceLE,reduceCtorEq,Nat.reduceLeDiff,Nat.reduceSub,Nat.reduceLT,f0,f3,f4,hw,hsls,i_add]
    with_reducible rfl
   case p0_b=>simp only [V_S,Nat.reduceEqDiff,reduceIte]; exact f0
   case p3_b=>simp only [V_S,Nat.reduceEqDiff,reduceIte]; rw [htk,hq]; simp
   case p4_b=>simp only [V_S,Nat.reduceEqDiff,reduceIte]
  by_cases h10 : b = 10
  ·have n92 : ¬ (b.toNat : Int) = 92:=fun h=>h92 ((hbn 92 (by decide)).mp h)
   have n34 : ¬ (b.toNat : Int) = 34:=fun h=>h34 ((hbn 34 (by decide)).mp h)
   have n10 : (b.toNat : Int) = 10:=(hbn 10 (by decide)).mpr h10
   have hq : qb b = [92,110]:=by unfold qb; simp [h10]
   refine go ?fr_c ⟨?p0_c,?p3_c,?p4_c⟩ fun M hM R k=>?e_c
   case e_c =>
    obtain ⟨m,rfl⟩ : ∃ m,M = m + 200:=⟨M - 200,by omega⟩
    unfold Lp25
    rw [run_loop]
    simp only [EX,reduceIte,Nat.reduceEqDiff,Nat.reduceAdd,Int.reduceEq,Int.reduceLT,Int.reduceLE,reduceCtorEq,Nat.reduceLeDiff,Nat.reduceSub,Nat.reduceLT,f0,f3,f4,hlt,hixs,i_add,hw,hsls,n92,n34,n10]
    rw [add _ _ _ _ _ _ (by simp only [List.length_cons,List.length_nil,List.length_append]; omega)]
    simp only [EX,reduceIte,Nat.reduceEqDiff,Nat.reduceAdd,Int.reduceEq,Int.reduceLT,Int.reduceLE,reduceCtorEq,Nat.reduceLeDiff,Nat.reduceSub,Nat.reduceLT,f0,f3,f4,hw,hsls,i_add]
    with_reducible rfl
   case p0_c=>simp only [V_S,Nat.reduceEqDiff,reduceIte]; exact f0
   case p3_c=>simp only [V_S,Nat.reduceEqDiff,reduceIte]; rw [htk,hq]; simp
   case p4_c=>simp only [V_S,Nat.reduceEqDiff,reduceIte]
  by_cases h9 : b = 9
  ·have n92 : ¬ (b.toNat : Int) = 92:=fun h=>h92 ((hbn 92 (by decide)).mp h)
   have n34 : ¬ (b.toNat : Int) = 34:=fun h=>h34 ((hbn 34 (by decide)).mp h)
   have n10 : ¬ (b.toNat : Int) = 10:=fun h=>h10 ((hbn 10 (by decide)).mp h)
   have n9 : (b.toNat : Int) = 9:=(hbn 9 (by decide)).mpr h9
   have hq : qb b = [92,116]:=by unfold qb; simp [h9]
   refine go ?fr_d ⟨?p0_d,?p3_d,?p4_d⟩ fun M hM R k=>?e_d
   case e_d =>
    obtain ⟨m,rfl⟩ : ∃ m,M = m + 200:=⟨M - 200,by omega⟩
    unfold Lp25
    rw [run_loop]
    simp only [EX,reduceIte,Nat.reduceEqDiff,Nat.reduceAdd,Int.reduceEq,Int.reduceLT,Int.reduceLE,reduceCtorEq,Nat.reduceLeDiff,Nat.reduceSub,Nat.reduceLT,f0,f3,f4,hlt,hixs,i_add,hw,hsls,n92,n34,n10,n9]
    rw [add _ _ _ _ _ _ (by simp only [List.length_cons,List.length_nil,List.length_append]; omega)]
    simp only [EX,reduceIte,Nat.reduceEqDiff,Nat.reduceAdd,Int.reduceEq,Int.reduceLT,Int.reduceLE,reduceCtorEq,Nat.reduceLeDiff,Nat.reduceSub,Nat.reduceLT,f0,f3,f4,hw,hsls,i_add]
    with_reducible rfl
   case p0_d=>simp only [V_S,Nat.reduceEqDiff,reduceIte]; exact f0
   case p3_d=>simp only [V_S,Nat.reduceEqDiff,reduceIte]; rw [htk,hq]; simp
   case p4_d=>simp only [V_S,Nat.reduceEqDiff,reduceIte]
  by_cases h32 : b < 32
  ·have n92 : ¬ (b.toNat : Int) = 92:=fun h=>h92 ((hbn 92 (by decide)).mp h)
   have n34 : ¬ (b.toNat : Int) = 34:=fun h=>h34 ((hbn 34 (by decide)).mp h)
   have n10 : ¬ (b.toNat : Int) = 10:=fun h=>h10 ((hbn 10 (by decide)).mp h)
   have n9 : ¬ (b.toNat : Int) = 9:=fun h=>h9 ((hbn 9 (by decide)).mp h)
   have l32 : (b.toNat : Int) < 32:=by have:=UInt8.lt_iff_toNat_lt.mp h32; have e : (32 : UInt8).toNat = 32:=rfl; omega
   have hq : qb b = [92,117,123] ++ hx b.toNat ++ [125]:=by
    unfold qb
    rw [if_neg (by intro h; rcases h with h | h; exact h92 h; exact h34 h),if_neg h10,if_neg h9,if_pos (Or.inl h32)]
   have hb256 : b.toNat < 256:=b.toNat_lt
   refine go ?fr_e ⟨?p0_e,?p3_e,?p4_e⟩ fun M hM R k=>?e_e
   case e_e =>
    obtain ⟨m,rfl⟩ : ∃ m,M = m + 200:=⟨M - 200,by omega⟩
    unfold Lp25
    rw [run_loop]
    simp only [EX,reduceIte,Nat.reduceEqDiff,Nat.reduceAdd,Int.reduceEq,Int.reduceLT,Int.reduceLE,reduceCtorEq,Nat.reduceLeDiff,Nat.reduceSub,Nat.reduceLT,f0,f3,f4,hlt,hixs,i_add,hw,hsls,n92,n34,n10,n9,l32]
    rw [add _ _ _ _ _ _ (by simp only [List.length_cons,List.length_nil,List.length_append]; omega)]
    simp only [EX,reduceIte,Nat.reduceEqDiff,Nat.reduceAdd,Int.reduceEq,Int.reduceLT,Int.reduceLE,reduceCtorEq,Nat.reduceLeDiff,Nat.reduceSub,Nat.reduceLT,f0,f3,f4,hw,hsls,i_add]
    rw [wrap_n64 (by omega),s51 hb256 (by omega)]
    simp only [EX,reduceIte,Nat.reduceEqDiff,Nat.reduceAdd,Int.reduceEq,Int.reduceLT,Int.reduceLE,reduceCtorEq,Nat.reduceLeDiff,Nat.reduceSub,Nat.reduceLT]
    rw [add _ _ _ _ _ _ (by simp only [List.length_cons,List.length_nil,List.length_append]; omega)]
    simp only [EX,reduceIte,Nat.reduceEqDiff,Nat.reduceAdd,Int.reduceEq,Int.reduceLT,Int.reduceLE,reduceCtorEq,Nat.reduceLeDiff,Nat.reduceSub,Nat.reduceLT,f0,f3,f4,hw,hsls,i_add]
    rw [add _ _ _ _ _ _ (by simp only [List.length_cons,List.length_nil,List.length_append]; omega)]
    simp only [EX,reduceIte,Nat.reduceEqDiff,Nat.reduceAdd,Int.reduceEq,Int.reduceLT,Int.reduceLE,reduceCtorEq,Nat.reduceLeDiff,Nat.reduceSub,Nat.reduceLT,f0,f3,f4,hw,hsls,i_add]
    with_reducible rfl
   case p0_e=>simp only [V_S,Nat.reduceEqDiff,reduceIte]; exact f0
   case p3_e=>simp only [V_S,Nat.reduceEqDiff,reduceIte]; rw [htk,hq]; simp
   case p4_e=>simp only [V_S,Nat.reduceEqDiff,reduceIte]
  have l32 : ¬ (b.toNat : Int) < 32:=by
   intro h
   exact h32 (UInt8.lt_iff_toNat_lt.mpr (by have e : (32 : UInt8).toNat = 32:=rfl; omega))
  by_cases h127 : b = 127
  ·have n92 : ¬ (b.toNat : Int) = 92:=fun h=>h92 ((hbn 92 (by decide)).mp h)
   have n34 : ¬ (b.toNat : Int) = 34:=fun h=>h34 ((hbn 34 (by decide)).mp h)
   have n10 : ¬ (b.toNat : Int) = 10:=fun h=>h10 ((hbn 10 (by decide)).mp h)
   have n9 : ¬ (b.toNat : Int) = 9:=fun h=>h9 ((hbn 9 (by decide)).mp h)
   have n127 : decide ((b.toNat : Int) = 127) = true:=decide_eq_true ((hbn 127 (by decide)).mpr h127)
   have hq : qb b = [92,117,123] ++ hx b.toNat ++ [125]:=by
    unfold qb
    rw [if_neg (by intro h; rcases h with h | h; exact h92 h; exact h34 h),if_neg h10,if_neg h9,if_pos (Or.inr h127)]
   have hb256 : b.toNat < 256:=b.toNat_lt
   refine go ?fr_f ⟨?p0_f,?p3_f,?p4_f⟩ fun M hM R k=>?e_f
   case e_f =>
    obtain ⟨m,rfl⟩ : ∃ m,M = m + 200:=⟨M - 200,by omega⟩
    unfold Lp25
    rw [run_loop]
    simp only [EX,reduceIte,Nat.reduceEqDiff,Nat.reduceAdd,Int.reduceEq,Int.reduceLT,Int.reduceLE,reduceCtorEq,Nat.reduceLeDiff,Nat.reduceSub,Nat.reduceLT,f0,f3,f4,hlt,hixs,i_add,hw,hsls,n92,n34,n10,n9,l32,n127]
    rw [add _ _ _ _ _ _ (by simp only [List.length_cons,List.length_nil,List.length_append]; omega)]
    simp only [EX,reduceIte,Nat.reduceEqDiff,Nat.reduceAdd,Int.reduceEq,Int.reduceLT,Int.reduceLE,reduceCtorEq,Nat.reduceLeDiff,Nat.reduceSub,Nat.reduceLT,f0,f3,f4,hw,hsls,i_add]
    rw [wrap_n64 (by omega),s51 hb256 (by omega)]
    simp only [EX,reduceIte,Nat.reduceEqDiff,Nat.reduceAdd,Int.reduceEq,Int.reduceLT,Int.reduceLE,reduceCtorEq,Nat.reduceLeDiff,Nat.reduceSub,Nat.reduceLT]
    rw [add _ _ _ _ _ _ (by simp only [List.length_cons,List.length_nil,List.length_append]; omega)]
    simp only [EX,reduceIte,Nat.reduceEqDiff,Nat.reduceAdd,Int.reduceEq,Int.reduceLT,Int.reduceLE,reduceCtorEq,Nat.reduceLeDiff,Nat.reduceSub,Nat.reduceLT,f0,f3,f4,hw,hsls,i_add]
    rw [add _ _ _ _ _ _ (by simp only [List.length_cons,List.length_nil,List.length_append]; omega)]
    simp only [EX,reduceIte,Nat.reduceEqDiff,Nat.reduceAdd,Int.reduceEq,Int.reduceLT,Int.reduceLE,reduceCtorEq,Nat.reduceLeDiff,Nat.reduceSub,Nat.reduceLT,f0,f3,f4,hw,hsls,i_add]
    with_reducible rfl
   case p0_f=>simp only [V_S,Nat.reduceEqDiff,reduceIte]; exact f0
   case p3_f=>simp only [V_S,Nat.reduceEqDiff,reduceIte]; rw [htk,hq]; simp
   case p4_f=>simp only [V_S,Nat.reduceEqDiff,reduceIte]
  ·have n92 : ¬ (b.toNat : Int) = 92:=fun h=>h92 ((hbn 92 (by decide)).mp h)
   have n34 : ¬ (b.toNat : Int) = 34:=fun h=>h34 ((hbn 34 (by decide)).mp h)
   have n10 : ¬ (b.toNat : Int) = 10:=fun h=>h10 ((hbn 10 (by decide)).mp h)
   have n9 : ¬ (b.toNat : Int) = 9:=fun h=>h9 ((hbn 9 (by decide)).mp h)
   have n127 : ¬ (b.toNat : Int) = 127:=fun h=>h127 ((hbn 127 (by decide)).mp h)
   have hq : qb b = [b]:=by
    unfold qb
    rw [if_neg (by intro h; rcases h with h | h; exact h92 h; exact h34 h),if_neg h10,if_neg h9,if_neg (by intro h; rcases h with h | h; exact h32 h; exact h127 h)]
   refine go ?fr_g ⟨?p0_g,?p3_g,?p4_g⟩ fun M hM R k=>?e_g
   case e_g =>
    obtain ⟨m,rfl⟩ : ∃ m,M = m + 200:=⟨M - 200,by omega⟩
    unfold Lp25
    rw [run_loop]
    simp only [EX,reduceIte,Nat.reduceEqDiff,Nat.reduceAdd,Int.reduceEq,Int.reduceLT,Int.reduceLE,reduceCtorEq,Nat.reduceLeDiff,Nat.reduceSub,Nat.reduceLT,f0,f3,f4,hlt,hixs,i_add,hw,hsls,n92,n34,n10,n9,l32,n127]
    rw [add _ _ _ _ _ _ (by simp only [List.length_cons,List.length_nil,List.length_append]; omega)]
    simp only [EX,reduceIte,Nat.reduceEqDiff,Nat.reduceAdd,Int.reduceEq,Int.reduceLT,Int.reduceLE,reduceCtorEq,Nat.reduceLeDiff,Nat.reduceSub,Nat.reduceLT,f0,f3,f4,hw,hsls,i_add]
    with_reducible rfl
   case p0_g=>simp only [V_S,Nat.reduceEqDiff,reduceIte]; exact f0
   case p3_g=>simp only [V_S,Nat.reduceEqDiff,reduceIte]; rw [htk,hq]; simp
   case p4_g=>simp only [V_S,Nat.reduceEqDiff,reduceIte]
theorem s25 {R : Type} {s : List UInt8} (hn : s.length≤1000) {M : Nat} (hM : 1500≤M) (H : Heap) (k : HK R) : callK tbl (runK tbl M) R (toPa 25) [str s] H k = k (str (34 :: s.flatMap qb ++ [34])) H:=by
 obtain ⟨m,rfl⟩ : ∃ m,M = m + 1500:=⟨M - 1500,by omega⟩
 have hql:=qbs_le s
 have hsM : (700000 : Nat)≤sMax:=by decide
 have el:=loop25 (s:=s) (by omega) H s 0 rfl (Nat.zero_le _)
 have eq' : ∀ fr,F25 s 0 fr→∀ M,300 + s.length≤M→∀ (R : Type) (k : XK R) (res : Option R),(∀ fr',F25 s s.length fr'→k (.exit 0) fr' H = res)→runK tbl M R Lp25 fr H k = res:=by
  intro fr f M hM R k res hr
  obtain ⟨fr',f',er⟩:=el fr f
  rw [er M hM R k,hr fr' f']
 rw [call_eq L25]
 unfold B25
 simp only [EX,reduceIte,Nat.reduceEqDiff,Nat.reduceAdd,Int.reduceEq,Int.reduceLT,Int.reduceLE,reduceCtorEq,Nat.reduceLeDiff,Nat.reduceSub,Nat.reduceLT]
 refine eq' _ ?ff _ ?hm R _ _ fun fr' f'=>?ee
 case ff=>exact ⟨by simp only [V_S,Nat.reduceEqDiff,reduceIte],by (simp only [V_S,Nat.reduceEqDiff,reduceIte]) <;> rfl,by (simp only [V_S,Nat.reduceEqDiff,reduceIte]) <;> rfl⟩
 case hm=>omega
 case ee =>
  have f3:=f'.f3
  rw [List.take_length] at f3
  simp only [EX,reduceIte,Nat.reduceEqDiff,Nat.reduceAdd,Int.reduceEq,Int.reduceLT,Int.reduceLE,reduceCtorEq,Nat.reduceLeDiff,Nat.reduceSub,Nat.reduceLT,f3]
  rw [s_add (by simp only [List.length_cons,List.length_nil]; omega)]
  simp only [EX,reduceIte,Nat.reduceEqDiff,Nat.reduceAdd,Int.reduceEq,Int.reduceLT,Int.reduceLE,reduceCtorEq,Nat.reduceLeDiff,Nat.reduceSub,Nat.reduceLT]
theorem qb_tx : ∀ {l : List Nat},(∀ i ∈ l,i < 25)→(txt l).flatMap qb = qtx l
 | [],_=>rfl
 | i :: l,h=>by
  have hi:=h i (List.mem_cons_self ..)
  have h1 : ∀ i,i < 25→(en i).flatMap qb = qr i:=by decide
  show (en i ++ txt l).flatMap qb = qr i ++ qtx l
  rw [List.flatMap_append,h1 i hi,qb_tx fun j hj=>h j (List.mem_cons_of_mem _ hj)]
/-- The document's quoted text: the same. -/
theorem s25q {R : Type} {l : List Nat} (hl : ∀ i ∈ l,i < 25) (hn : l.length≤200) {M : Nat} (hM : 1500≤M) (H : Heap) (k : HK R) : callK tbl (runK tbl M) R (toPa 25) [str (txt l)] H k = k (str (quo l)) H:=by
 have:=txt_le hl
 rw [s25 (by omega) hM,qb_tx hl]; rfl
end Go.Proofs.YtmmmjhkgjmbfaaaDoor

/- Texts joined (strings.Join). -/
namespace Go.Proofs.YtmmmjhkgjmbfaaaDoor
open Go Go.Vai
set_option maxRecDepth 100000
set_option maxHeartbeats 1600000
set_option linter.unusedSimpArgs false
theorem sll_from {R : Type} {k : HK R} {H : Heap} {a : Pa} {off len sz : Nat} {kd : IntKind} {l : Nat} (h1 : l≤len) :
  sllC sz (.sl a off len none sz) (some (.i kd (l : Int))) none none k H = k (.sl a (off + l * sz) (len - l) none sz) H:=by
 show guardK (Nat.beq sz sz) (guardK (Nat.ble l len) (forceN (Nat.add off (Nat.mul l sz)) fun off=>guardK (Nat.ble len len) (k (.sl a off (Nat.sub len l) none sz) H))) = _
 rw [Nat.beq_refl,Nat.ble_eq_true_of_le h1,Nat.ble_eq_true_of_le (Nat.le_refl len),forceN_eq]; rfl
/-- Grow of a builder that is new. -/
theorem s57 {n0 : Nat} {H : Heap} {p : Pa} (b : Bd n0 H p .ns [] 0) (hn0 : n0≤H.next.toN) {n : Nat} (hn : n≤roomN) :
  ∃ H' x',Chg p .ns x' H H'∧Bd n0 H' p x' [] n∧∀ M,300≤M→∀ (R : Type) (k : HK R),callK tbl (runK tbl M) R (toPa 57) [.p p 0,.i .i64 (n : Int)] H k = k (.tu []) H':=by
 obtain ⟨H1,c1,b1,r1,e1⟩:=s71 b
 have l1:=r1.l 1 (v:=.ns) rfl
 have hroom : roomN < 9223372036854775807:=by decide
 have hneg : ¬ (n : Int) < 0:=by omega
 have w0 : IntKind.i64.wrap (0 - 0) = 0:=by decide
 by_cases hz : n = 0
 ·subst hz
  refine ⟨H1,.ns,c1,b1,fun M hM R k=>?_⟩
  obtain ⟨m,rfl⟩ : ∃ m,M = m + 300:=⟨M - 300,by omega⟩
  have hlt : ¬ (0 : Int) < ((0 : Nat) : Int):=by omega
  rw [call_eq L57]
  unfold B57
  simp only [EX,reduceIte,Nat.reduceEqDiff,Nat.reduceAdd,Int.reduceEq,Int.reduceLT,Int.reduceLE,reduceCtorEq,Nat.reduceLeDiff,Nat.reduceSub,Nat.reduceLT]
  rw [e1 _ (by omega)]
  simp only [EX,reduceIte,Nat.reduceEqDiff,Nat.reduceAdd,Int.reduceEq,Int.reduceLT,Int.reduceLE,reduceCtorEq,Nat.reduceLeDiff,Nat.reduceSub,Nat.reduceLT,hneg,l1,i_sub,w0,hlt]
 ·obtain ⟨H2,e2⟩ : ∃ H2,H2 = H1.alloc (.cells false 0 5 n (setCells (repK [.u] n) 0 .leaf)):=⟨_,rfl⟩
  have g2 : Grow H1 H2:=by rw [e2]; exact Grow.alloc H1 _
  have n2 : H2.next.toN = H1.next.toN + 1:=by rw [e2]; exact next_alloc H1 _
  have ra : Row H2 H1.next 5 (repK [.u] n):=by
   rw [e2]
   have:=Row.new H1 5 (repK [.u] n)
   rw [rep_len] at this
   exact this
  have b2:=b1.grow g2
  have r2:=r1.grow g2 b1.pl
  have l2:=r2.l 1 (v:=.ns) rfl
  obtain ⟨H3,r3,b3,n3,est⟩:=r2.st_one (off:=1) (v:=.sl H1.next 0 0 none 1) b2.pl (Nat.lt_succ_self 1) rfl
  have r3 : Row H3 p 105 [.p p 0,.sl H1.next 0 0 none 1]:=r3
  have hlt : (0 : Int) < (n : Int):=by omega
  have hp1:=b1.pl
  have hn1:=c1.next
  have w1 : IntKind.i64.wrap (2 * 0) = 0:=by decide
  have w2 : IntKind.i64.wrap (0 + (n : Int)) = (n : Int):=by rw [Int.zero_add,wrap_n64 (by omega)]
  have n3' : H3.next.toN = H2.next.toN:=by rw [n3]
  have hb0:=b.pl
  refine ⟨H3,.sl H1.next 0 0 none 1,⟨by omega,fun c hc hp _=>?_,fun c hc _ o l cc z q=>?_,fun f=>b3.dead (g2.dead (c1.dead f))⟩,⟨b.pn,by omega,?_,⟨_,r3,Or.inr rfl⟩,Or.inr ⟨H1.next,repK [.u] n,rfl,ra.but b3 (by omega) (by intro q; rw [q] at hp1; omega),rep_len n,Nat.zero_le _,rfl,by omega,by omega⟩⟩,fun M hM R k=>?_⟩
  ·rw [b3.get c (by omega) hp,g2.get c (by omega),c1.get c hc hp (by intro o l cc z q; cases q)]
  ·cases q; omega
  ·intro o l cc z q
   cases q; omega
  ·obtain ⟨m,rfl⟩ : ∃ m,M = m + 300:=⟨M - 300,by omega⟩
   rw [call_eq L57]
   unfold B57
   simp only [EX,reduceIte,Nat.reduceEqDiff,Nat.reduceAdd,Int.reduceEq,Int.reduceLT,Int.reduceLE,reduceCtorEq,Nat.reduceLeDiff,Nat.reduceSub,Nat.reduceLT]
   rw [e1 _ (by omega)]
   simp only [EX,reduceIte,Nat.reduceEqDiff,Nat.reduceAdd,Int.reduceEq,Int.reduceLT,Int.reduceLE,reduceCtorEq,Nat.reduceLeDiff,Nat.reduceSub,Nat.reduceLT,hneg,l1,i_sub,w0,hlt]
   rw [call_eq L72]
   unfold B72
   simp only [EX,reduceIte,Nat.reduceEqDiff,Nat.reduceAdd,Int.reduceEq,Int.reduceLT,Int.reduceLE,reduceCtorEq,Nat.reduceLeDiff,Nat.reduceSub,Nat.reduceLT,l1,i_mul,w1,i_add,w2]
   rw [mnz_n hn,← e2]
   simp only [EX,reduceIte,Nat.reduceEqDiff,Nat.reduceAdd,Int.reduceEq,Int.reduceLT,Int.reduceLE,reduceCtorEq,Nat.reduceLeDiff,Nat.reduceSub,Nat.reduceLT,l1,l2]
   rw [sll_to (by omega) (by omega)]
   simp only [EX,reduceIte,Nat.reduceEqDiff,Nat.reduceAdd,Int.reduceEq,Int.reduceLT,Int.reduceLE,reduceCtorEq,Nat.reduceLeDiff,Nat.reduceSub,Nat.reduceLT,l2]
   refine (est _ _).trans ?_
   simp only [EX,reduceIte,Nat.reduceEqDiff,Nat.reduceAdd,Int.reduceEq,Int.reduceLT,Int.reduceLE,reduceCtorEq,Nat.reduceLeDiff,Nat.reduceSub,Nat.reduceLT]
/-- Texts in a row,as they are held. -/
def Strs (H : Heap) (x : AV) (l : List (List UInt8)) : Prop:=(x = .ns∧l = []) ∨ ∃ a cp,x = .sl a 0 l.length cp 1∧(cp = none ∨ l.length = 1)∧Row H a 9 (l.map str)∧a.toN < H.next.toN
theorem Strs.len {R : Type} {H : Heap} {x : AV} {l : List (List UInt8)} (h : Strs H x l) (k : HK R) (G : Heap) : lenC false x k G = k (.i .i64 (l.length : Int)) G:=by
 obtain ⟨rfl,rfl⟩ | ⟨a,cp,rfl,_⟩:=h <;> rfl
theorem Strs.grow {H H' : Heap} {x : AV} {l : List (List UInt8)} (h : Strs H x l) (g : Grow H H') : Strs H' x l:=by
 obtain h | ⟨a,cp,e,hc,hr,ha⟩:=h
 ·exact Or.inl h
 ·exact Or.inr ⟨a,cp,e,hc,hr.grow g ha,Nat.lt_of_lt_of_le ha g.next⟩
theorem Strs.of {H0 H : Heap} {x : AV} {l : List (List UInt8)} (h : Held H0 H 9 1 x l.length (l.map str)) : Strs H x l:=by
 obtain ⟨rfl,h1,h2⟩ | ⟨a,rfl,_,hr,_,ha⟩:=h
 ·exact Or.inl ⟨rfl,List.length_eq_zero_iff.mp h1⟩
 ·exact Or.inr ⟨a,none,rfl,Or.inl rfl,hr,ha⟩
def sumL (l : List (List UInt8)) : Nat:=(l.map List.length).sum
theorem sumL_app (l l' : List (List UInt8)) : sumL (l ++ l') = sumL l + sumL l':=by unfold sumL; rw [List.map_append,List.sum_append]
theorem sumL_cons (s : List UInt8) (l : List (List UInt8)) : sumL (s :: l) = s.length + sumL l:=rfl
/-- Texts joined by commas. -/
def joinT (l : List (List UInt8)) : List UInt8:=l.flatMap fun s=>[44,32] ++ s
def joinS : List (List UInt8)→List UInt8
 | []=>[]
 | s :: l=>s ++ joinT l
theorem joinT_len : ∀ l,(joinT l).length = 2 * l.length + sumL l
 | []=>rfl
 | s :: l=>by
  have:=joinT_len l
  show ([44,32] ++ s ++ joinT l).length = _
  rw [List.length_append,List.length_append,this,sumL_cons]
  have e : (s :: l).length = l.length + 1:=rfl
  have e2 : [(44 : UInt8),32].length = 2:=rfl
  omega
theorem joinT_app (l l' : List (List UInt8)) : joinT (l ++ l') = joinT l ++ joinT l':=List.flatMap_append
structure F35a (a : Pa) (o n i t : Nat) (fr : Tr AV) : Prop where
 f5 : V fr 5 = .i .i64 (t : Int)
 f39 : V fr 39 = .sl a o n none 1
 f40 : V fr 40 = .i .i64 (n : Int)
 f41 : V fr 41 = .i .i64 (i : Int)
 f0 : V fr 0 = .sl a o n none 1
 f1 : V fr 1 = str [44,32]
theorem loop35a {H : Heap} {a : Pa} {l : List (List UInt8)} (hr : Row H a 9 (l.map str)) (hn : l.length≤1000) (hs : 2 * l.length + sumL l≤roomN) {t0 : Nat} (ht0 : t0≤2 * l.length) : ∀ (rest done : List (List UInt8)),done ++ rest = l→∀ fr,F35a a 0 l.length done.length (t0 + sumL done) fr →
  ∃ fr',F35a a 0 l.length l.length (t0 + sumL l) fr'∧∀ M,100 + rest.length≤M→∀ (R : Type) (k : XK R),runK tbl M R Lp35a fr H k = k (.exit 1) fr' H
 | [],done,hd,fr,f=>by
  rw [List.append_nil] at hd
  subst hd
  have f40:=f.f40
  have f41:=f.f41
  refine ⟨?fr1,⟨?p5,?p39,?p40,?p41,?p0,?p1⟩,fun M hM R k=>?e⟩
  case e =>
   obtain ⟨m,rfl⟩ : ∃ m,M = m + 100:=⟨M - 100,by omega⟩
   unfold Lp35a
   rw [run_loop]
   simp only [EX,reduceIte,Nat.reduceEqDiff,Nat.reduceAdd,Int.reduceEq,Int.reduceLT,Int.reduceLE,reduceCtorEq,Nat.reduceLeDiff,Nat.reduceSub,Nat.reduceLT,f40,f41,Int.lt_irrefl]
   with_reducible rfl
  case p5=>simp only [V_S,Nat.reduceEqDiff,reduceIte]; exact f.f5
  case p39=>simp only [V_S,Nat.reduceEqDiff,reduceIte]; exact f.f39
  case p40=>simp only [V_S,Nat.reduceEqDiff,reduceIte]; exact f40
  case p41=>simp only [V_S,Nat.reduceEqDiff,reduceIte]; exact f41
  case p0=>simp only [V_S,Nat.reduceEqDiff,reduceIte]; exact f.f0
  case p1=>simp only [V_S,Nat.reduceEqDiff,reduceIte]; exact f.f1
 | s :: rest,done,hd,fr,f=>by
  have hl : l.length = done.length + rest.length + 1:=by rw [← hd]; simp; omega
  have hsum : sumL l = sumL done + s.length + sumL rest:=by rw [← hd,sumL_app,sumL_cons]; omega
  have hroom : roomN < 4000000000000000000:=by decide
  have hg : (l.map str)[done.length]? = some (str s):=by rw [← hd,List.getElem?_map,List.getElem?_append_right (Nat.le_refl _),Nat.sub_self]; rfl
  have hlt : (done.length : Int) < (l.length : Int):=by omega
  have hov : ¬ IntKind.i64.wrap (9223372036854775807 - ((t0 + sumL done : Nat) : Int)) < (s.length : Int):=by
   rw [show (9223372036854775807 : Int) - ((t0 + sumL done : Nat) : Int) = ((9223372036854775807 - (t0 + sumL done) : Nat) : Int) by omega,wrap_n64 (by omega)]; omega
  have hw1 : IntKind.i64.wrap (((t0 + sumL done : Nat) : Int) + (s.length : Int)) = ((t0 + sumL (done ++ [s]) : Nat) : Int):=by
   rw [sumL_app,sumL_cons,show ((t0 + sumL done : Nat) : Int) + (s.length : Int) = ((t0 + (sumL done + (s.length + sumL [])) : Nat) : Int) by show _ = ((t0 + (sumL done + (s.length + 0)) : Nat) : Int); omega,wrap_n64 (by show t0 + (sumL done + (s.length + 0)) < _; omega)]
  have hw2 : IntKind.i64.wrap ((done.length : Int) + 1) = ((done ++ [s]).length : Int):=by rw [show (done.length : Int) + 1 = ((done ++ [s]).length : Int) by simp,wrap_n64 (by simp; omega)]
  have f5:=f.f5
  have f39:=f.f39
  have f40:=f.f40
  have f41:=f.f41
  have hix : ∀ (R : Type) (k : HK R) (G : Heap),ixaC 1 (.sl a 0 l.length none 1) (.i .i64 (done.length : Int)) k G = k (.p a done.length) G:=by
   intro R k G
   rw [ixa_sl (by omega) (by omega),Int.toNat_natCast,Nat.zero_add,Nat.mul_one]
  have hld:=hr.l done.length hg
  have main : ∃ fr1,F35a a 0 l.length (done ++ [s]).length (t0 + sumL (done ++ [s])) fr1∧∀ M,99≤M→∀ (R : Type) (k : XK R),runK tbl (M + 1) R Lp35a fr H k = runK tbl M R Lp35a fr1 H k:=by
   refine ⟨?fr1b,⟨?p5b,?p39b,?p40b,?p41b,?p0b,?p1b⟩,fun M hM R k=>?eb⟩
   case eb =>
    obtain ⟨m,rfl⟩ : ∃ m,M = m + 99:=⟨M - 99,by omega⟩
    unfold Lp35a
    rw [run_loop]
    simp only [EX,reduceIte,Nat.reduceEqDiff,Nat.reduceAdd,Int.reduceEq,Int.reduceLT,Int.reduceLE,reduceCtorEq,Nat.reduceLeDiff,Nat.reduceSub,Nat.reduceLT,f5,f39,f40,f41,hlt,hix,hld,i_sub,hov,i_add,hw1,hw2]
    with_reducible rfl
   case p5b=>simp only [V_S,Nat.reduceEqDiff,reduceIte]
   case p39b=>simp only [V_S,Nat.reduceEqDiff,reduceIte]; exact f39
   case p40b=>simp only [V_S,Nat.reduceEqDiff,reduceIte]; exact f40
   case p41b=>simp only [V_S,Nat.reduceEqDiff,reduceIte]
   case p0b=>simp only [V_S,Nat.reduceEqDiff,reduceIte]; exact f.f0
   case p1b=>simp only [V_S,Nat.reduceEqDiff,reduceIte]; exact f.f1
  obtain ⟨fr1,f1,e1⟩:=main
  obtain ⟨fr2,f2,e2⟩:=loop35a hr hn hs ht0 rest (done ++ [s]) (by rw [← hd]; simp) fr1 f1
  refine ⟨fr2,f2,fun M hM R k=>?_⟩
  rw [List.length_cons] at hM
  obtain ⟨m,rfl⟩ : ∃ m,M = m + 1:=⟨M - 1,by omega⟩
  rw [e1 m (by omega),e2 m (by omega)]
structure F35b (p a : Pa) (n i : Nat) (fr : Tr AV) : Prop where
 f1 : V fr 1 = str [44,32]
 f8 : V fr 8 = .p p 0
 f63 : V fr 63 = .sl a 1 n none 1
 f64 : V fr 64 = .i .i64 (n : Int)
 f65 : V fr 65 = .i .i64 (i : Int)
structure H35b (H0 : Heap) (p : Pa) (T : Nat) (s : List UInt8) (x : AV) (H : Heap) : Prop where
 g : Grow H0 H
 b : Bd H0.next.toN H p x s T
theorem H35b.put {H0 H : Heap} {p : Pa} {T : Nat} {s t : List UInt8} {x : AV} (h : H35b H0 p T s x H) (hT : (s ++ t).length≤T) (hr : T≤roomN) :
  ∃ x' H',H35b H0 p T (s ++ t) x' H'∧∀ M,100≤M→∀ (R : Type) (k : HK R),callK tbl (runK tbl M) R (toPa 58) [.p p 0,str t] H k = k (.tu [.i .i64 (t.length : Int),.ni]) H':=by
 obtain ⟨H',x',c,b,e⟩:=s58 (t:=t) h.b h.g.next (Or.inl hT) (by omega)
 have hz : max T (s ++ t).length = T:=by omega
 rw [hz] at b
 exact ⟨x',H',⟨c.of h.b h.g (Nat.le_refl _),b⟩,e⟩
theorem loop35b {H0 : Heap} {p a : Pa} {s0 : List UInt8} {l : List (List UInt8)} (hr : Row H0 a 9 ((s0 :: l).map str)) (ha : a.toN < H0.next.toN) (hn : l.length≤1000) {T : Nat} (hT : (s0 ++ joinT l).length≤T) (hroom : T≤roomN) : ∀ (rest done : List (List UInt8)) (x : AV) (H : Heap),done ++ rest = l→H35b H0 p T (s0 ++ joinT done) x H →
  ∃ x' H',H35b H0 p T (s0 ++ joinT l) x' H'∧∀ fr,F35b p a l.length done.length fr→∃ fr',F35b p a l.length l.length fr'∧∀ M,300 + rest.length≤M→∀ (R : Type) (k : XK R),runK tbl M R Lp35b fr H k = k (.exit 3) fr' H'
 | [],done,x,H,hd,h=>by
  rw [List.append_nil] at hd
  subst hd
  refine ⟨x,H,h,fun fr f=>?_⟩
  have f1:=f.f1
  have f8:=f.f8
  have f63:=f.f63
  have f64:=f.f64
  have f65:=f.f65
  refine ⟨?fr1,⟨?p1,?p8,?p63,?p64,?p65⟩,fun M hM R k=>?e⟩
  case e =>
   obtain ⟨m,rfl⟩ : ∃ m,M = m + 100:=⟨M - 100,by omega⟩
   unfold Lp35b
   rw [run_loop]
   simp only [EX,reduceIte,Nat.reduceEqDiff,Nat.reduceAdd,Int.reduceEq,Int.reduceLT,Int.reduceLE,reduceCtorEq,Nat.reduceLeDiff,Nat.reduceSub,Nat.reduceLT,f64,f65,Int.lt_irrefl]
   with_reducible rfl
  case p1=>simp only [V_S,Nat.reduceEqDiff,reduceIte]; exact f1
  case p8=>simp only [V_S,Nat.reduceEqDiff,reduceIte]; exact f8
  case p63=>simp only [V_S,Nat.reduceEqDiff,reduceIte]; exact f63
  case p64=>simp only [V_S,Nat.reduceEqDiff,reduceIte]; exact f64
  case p65=>simp only [V_S,Nat.reduceEqDiff,reduceIte]; exact f65
 | s :: rest,done,x,H,hd,h=>by
  have hl : l.length = done.length + rest.length + 1:=by rw [← hd]; simp; omega
  have ej : joinT l = joinT done ++ ([44,32] ++ s) ++ joinT rest:=by
   rw [← hd,joinT_app,List.append_assoc]; rfl
  have hTl : (s0 ++ joinT done ++ [44,32] ++ s).length≤T:=by
   rw [ej] at hT
   simp only [List.length_append] at hT ⊢
   omega
  obtain ⟨x1,H1,h1,e1⟩:=h.put (t:=[44,32]) (by rw [List.length_append] at hTl; omega) hroom
  obtain ⟨x2,H2,h2,e2⟩:=h1.put (t:=s) hTl hroom
  have ed : s0 ++ joinT done ++ [44,32] ++ s = s0 ++ joinT (done ++ [s]):=by rw [joinT_app]; simp [joinT]
  rw [ed] at h2
  obtain ⟨x',H',h',eq'⟩:=loop35b hr ha hn hT hroom rest (done ++ [s]) x2 H2 (by rw [← hd]; simp) h2
  refine ⟨x',H',h',fun fr f=>?_⟩
  have f1:=f.f1
  have f8:=f.f8
  have f63:=f.f63
  have f64:=f.f64
  have f65:=f.f65
  have hg : ((s0 :: l).map str)[1 + done.length]? = some (str s):=by
   rw [Nat.add_comm,List.map_cons,List.getElem?_cons_succ,← hd,List.getElem?_map,List.getElem?_append_right (Nat.le_refl _),Nat.sub_self]; rfl
  have hlt : (done.length : Int) < (l.length : Int):=by omega
  have hix : ∀ (R : Type) (k : HK R) (G : Heap),ixaC 1 (.sl a 1 l.length none 1) (.i .i64 (done.length : Int)) k G = k (.p a (1 + done.length)) G:=by
   intro R k G
   rw [ixa_sl (by omega) (by omega),Int.toNat_natCast,Nat.mul_one]
  have hld:=(hr.grow h.g ha).l (1 + done.length) hg
  have hw2 : IntKind.i64.wrap ((done.length : Int) + 1) = ((done ++ [s]).length : Int):=by rw [show (done.length : Int) + 1 = ((done ++ [s]).length : Int) by simp,wrap_n64 (by simp; omega)]
  obtain ⟨fr',f',er⟩:=eq' (S (S (S (S (S (S (S (S (S (S fr 66 (.b true)) 67 (.p a (1 + done.length))) 68 (str s)) 10 (str s)) 69 (str [44,32])) 70 (.tu [.i .i64 (([44,32] : List UInt8).length : Int),.ni])) 71 (str s)) 72 (.tu [.i .i64 (s.length : Int),.ni])) 73 (.i .i64 ((done ++ [s]).length : Int))) 65 (.i .i64 ((done ++ [s]).length : Int))) ⟨by simp only [V_S,Nat.reduceEqDiff,reduceIte]; exact f1,by simp only [V_S,Nat.reduceEqDiff,reduceIte]; exact f8,by simp only [V_S,Nat.reduceEqDiff,reduceIte]; exact f63,by simp only [V_S,Nat.reduceEqDiff,reduceIte]; exact f64,by simp only [V_S,Nat.reduceEqDiff,reduceIte]⟩
  refine ⟨fr',f',fun M hM R k=>?_⟩
  rw [List.length_cons] at hM
  obtain ⟨m,rfl⟩ : ∃ m,M = m + 200:=⟨M - 200,by omega⟩
  unfold Lp35b
  rw [run_loop]
  simp only [EX,reduceIte,Nat.reduceEqDiff,Nat.reduceAdd,Int.reduceEq,Int.reduceLT,Int.reduceLE,reduceCtorEq,Nat.reduceLeDiff,Nat.reduceSub,Nat.reduceLT,f1,f8,f63,f64,f65,hlt,hix,hld]
  rw [e1 _ (by omega)]
  simp only [EX,reduceIte,Nat.reduceEqDiff,Nat.reduceAdd,Int.reduceEq,Int.reduceLT,Int.reduceLE,reduceCtorEq,Nat.reduceLeDiff,Nat.reduceSub,Nat.reduceLT,f1,f8,f63,f64,f65]
  rw [e2 _ (by omega)]
  simp only [EX,reduceIte,Nat.reduceEqDiff,Nat.reduceAdd,Int.reduceEq,Int.reduceLT,Int.reduceLE,reduceCtorEq,Nat.reduceLeDiff,Nat.reduceSub,Nat.reduceLT,f65,i_add,hw2]
  exact er (m + 199) (by omega) R k
/-- strings.Join by commas. -/
theorem s35 {l : List (List UInt8)} {H : Heap} {x : AV} (hx : Strs H x l) (hn : l.length≤1000) (hs : 2 * l.length + sumL l≤roomN) : Tells 35 2000 [x,str [44,32]] H (str (joinS l)):=by
 match l,hx,hn,hs with
 | [],hx,hn,hs =>
  refine ⟨H,Grow.refl H,fun M hM R k=>?_⟩
  obtain ⟨m,rfl⟩ : ∃ m,M = m + 2000:=⟨M - 2000,by omega⟩
  have h0 : ((([] : List (List UInt8)).length : Nat) : Int) = 0:=rfl
  rw [call_eq L35]
  unfold B35
  simp only [EX,reduceIte,Nat.reduceEqDiff,Nat.reduceAdd,Int.reduceEq,Int.reduceLT,Int.reduceLE,reduceCtorEq,Nat.reduceLeDiff,Nat.reduceSub,Nat.reduceLT,hx.len,h0]
  exact rfl
 | [s],hx,hn,hs =>
  obtain ⟨rfl,h⟩ | ⟨a,cp,rfl,_,hr,ha⟩:=hx
  ·cases h
  show Tells 35 2000 [.sl a 0 1 cp 1,str [44,32]] H (str (s ++ []))
  rw [List.append_nil]
  refine ⟨H,Grow.refl H,fun M hM R k=>?_⟩
  obtain ⟨m,rfl⟩ : ∃ m,M = m + 2000:=⟨M - 2000,by omega⟩
  have c1 : ((1 : Nat) : Int) = 1:=rfl
  have hix : ∀ (R : Type) (k : HK R) (G : Heap),ixaC 1 (.sl a 0 1 cp 1) (.i .i64 0) k G = k (.p a 0) G:=fun R k G=>ixa_sl (by decide) (by decide)
  have hld:=hr.l 0 (v:=str s) rfl
  rw [call_eq L35]
  unfold B35
  simp only [EX,reduceIte,Nat.reduceEqDiff,Nat.reduceAdd,Int.reduceEq,Int.reduceLT,Int.reduceLE,reduceCtorEq,Nat.reduceLeDiff,Nat.reduceSub,Nat.reduceLT,c1,hix,hld]
 | s0 :: s1 :: l,hx,hn,hs =>
  obtain ⟨rfl,h⟩ | ⟨a,cp,rfl,hc,hr,ha⟩:=hx
  ·cases h
  obtain rfl : cp = none:=hc.elim id fun h=>absurd h (by rw [List.length_cons,List.length_cons]; omega)
  obtain ⟨L,hL⟩ : ∃ L,L = s1 :: l:=⟨_,rfl⟩
  rw [← hL] at hr hn hs ⊢
  have hLl : 1≤L.length:=by rw [hL,List.length_cons]; omega
  obtain ⟨n,hn'⟩ : ∃ n,n = (s0 :: L).length:=⟨_,rfl⟩
  have hnL : n = L.length + 1:=by rw [hn']; rfl
  rw [← hn'] at hn hs ⊢
  have hroom : roomN < 4000000000000000000:=by decide
  have hjl : (joinS (s0 :: L)).length = 2 * L.length + sumL (s0 :: L):=by
   show (s0 ++ joinT L).length = _
   rw [List.length_append,joinT_len,sumL_cons]; omega
  obtain ⟨T,hT⟩ : ∃ T,T = 2 * (n - 1) + sumL (s0 :: L):=⟨_,rfl⟩
  have hTj : (s0 ++ joinT L).length = T:=by rw [show s0 ++ joinT L = joinS (s0 :: L) from rfl,hjl,hT,hnL]; rfl
  have hTr : T≤roomN:=by omega
  have ela:=loop35a hr (by rw [← hn']; exact hn) (by rw [← hn']; exact hs) (t0:=2 * (n - 1)) (by omega) (s0 :: L) [] rfl
  rw [← hn'] at ela
  have elaq : ∀ fr,F35a a 0 n 0 (2 * (n - 1)) fr→∀ M,100 + n≤M→∀ (R : Type) (k : XK R) (res : Option R),(∀ fr',F35a a 0 n n T fr'→k (.exit 1) fr' H = res)→runK tbl M R Lp35a fr H k = res:=by
   intro fr f M hM R k res hr
   obtain ⟨fr',f',er⟩:=ela fr f
   rw [er M hM R k,hr fr' (by rw [hT]; exact f')]
  obtain ⟨H1,e1⟩ : ∃ H1,H1 = H.alloc (.cells false 0 105 2 (setCells [.np,.ns] 0 .leaf)):=⟨_,rfl⟩
  have g1 : Grow H H1:=by rw [e1]; exact Grow.alloc H _
  have n1 : H1.next.toN = H.next.toN + 1:=by rw [e1]; exact next_alloc H _
  have r1 : Row H1 H.next 105 [.np,.ns]:=by rw [e1]; exact Row.new H 105 [.np,.ns]
  have b1 : Bd H.next.toN H1 H.next .ns [] 0:=⟨Nat.le_refl _,by omega,(by intro o l c z q; cases q),⟨_,r1,Or.inl rfl⟩,Or.inl ⟨rfl,rfl,rfl⟩⟩
  obtain ⟨H2,x2,c2,b2,e2⟩:=s57 b1 (by omega) hTr
  have h2 : H35b H H.next T [] x2 H2:=⟨c2.of b1 g1 (Nat.le_refl _),b2⟩
  obtain ⟨x3,H3,h3,e3⟩:=h2.put (t:=s0) (by rw [List.nil_append,← hTj,List.length_append]; omega) hTr
  obtain ⟨x4,H4,h4,el4⟩:=loop35b (T:=T) hr ha (by omega) (by omega) hTr L [] x3 H3 rfl (by rw [show joinT [] = [] from rfl,List.append_nil]; exact h3)
  have el4q : ∀ fr,F35b H.next a L.length 0 fr→∀ M,300 + L.length≤M→∀ (R : Type) (k : XK R) (res : Option R),(∀ fr',F35b H.next a L.length L.length fr'→k (.exit 3) fr' H4 = res)→runK tbl M R Lp35b fr H3 k = res:=by
   intro fr f M hM R k res hr
   obtain ⟨fr',f',er⟩:=el4 fr f
   rw [er M hM R k,hr fr' f']
  have hx4 : s0 ++ joinT L ≠ []:=by
   intro h
   have:=congrArg List.length h
   rw [hTj,hT] at this
   have : ([] : List UInt8).length = 0:=rfl
   omega
  obtain ⟨H5,⟨k1,k2,k3⟩,e5⟩:=s59 h4.b (Or.inl hx4) (by omega)
  have g5 : Grow H H5:=⟨Nat.le_trans h4.g.next k1,fun c hc=>by rw [k2 c hc (Nat.lt_of_lt_of_le hc h4.g.next),h4.g.get c hc],fun f=>k3 (h4.g.dead f)⟩
  refine ⟨H5,g5,fun M hM R k=>?_⟩
  obtain ⟨m,rfl⟩ : ∃ m,M = m + 2000:=⟨M - 2000,by omega⟩
  have c0 : ¬ (n : Int) = 0:=by omega
  have c1 : ¬ (n : Int) = 1:=by omega
  have hnn : 2≤n:=by omega
  have c2 : (0 : Int) < ((2 : Nat) : Int):=by decide
  have wn : IntKind.i64.wrap ((n : Int) - 1) = ((n - 1 : Nat) : Int):=by rw [show (n : Int) - 1 = ((n - 1 : Nat) : Int) by omega,wrap_n64 (by omega)]
  have hz : (((n - 1 : Nat)) : Int) ≠ 0:=by omega
  have hq : IntKind.i64.wrap ((9223372036854775807 : Int).tdiv ((n - 1 : Nat) : Int)) = ((9223372036854775807 / (n - 1) : Nat) : Int):=by
   rw [show (9223372036854775807 : Int) = ((9223372036854775807 : Nat) : Int) from rfl,quo_n,wrap_n64 (Nat.lt_of_le_of_lt (Nat.div_le_self _ _) (by decide))]
  have hq2 : ¬ ((9223372036854775807 / (n - 1) : Nat) : Int)≤((2 : Nat) : Int):=by
   have : 3≤9223372036854775807 / (n - 1):=(Nat.le_div_iff_mul_le (by omega)).mpr (by omega)
   show ¬ _≤(2 : Int)
   omega
  have wm : IntKind.i64.wrap (((2 : Nat) : Int) * ((n - 1 : Nat) : Int)) = ((2 * (n - 1) : Nat) : Int):=by
   rw [show ((2 : Nat) : Int) * ((n - 1 : Nat) : Int) = ((2 * (n - 1) : Nat) : Int) by show (2 : Int) * _ = _; omega,wrap_n64 (by omega)]
  have wa : IntKind.i64.wrap (0 + ((2 * (n - 1) : Nat) : Int)) = ((2 * (n - 1) : Nat) : Int):=by rw [Int.zero_add,wrap_n64 (by omega)]
  have hix : ∀ (R : Type) (k : HK R) (G : Heap),ixaC 1 (.sl a 0 n none 1) (.i .i64 0) k G = k (.p a 0) G:=fun R k G=>ixa_sl (by decide) (by omega)
  have hld:=(hr.grow h2.g ha).l 0 (v:=str s0) rfl
  have hsl : ∀ (R : Type) (k : HK R) (G : Heap),sllC 1 (.sl a 0 n none 1) (some (.i .i64 1)) none none k G = k (.sl a 1 L.length none 1) G:=by
   intro R k G
   refine (sll_from (l:=1) (by omega)).trans ?_
   rw [Nat.zero_add,Nat.mul_one,show n - 1 = L.length by omega]
  rw [call_eq L35]
  unfold B35
  simp only [EX,reduceIte,Nat.reduceEqDiff,Nat.reduceAdd,Int.reduceEq,Int.reduceLT,Int.reduceLE,reduceCtorEq,Nat.reduceLeDiff,Nat.reduceSub,Nat.reduceLT,c0,c1,c2,i_sub,wn,i_quo hz,hq,hq2,i_mul,wm,i_add,wa]
  refine elaq _ ?ff _ ?hm R _ _ fun fr' f'=>?ee
  case ff=>exact ⟨by simp only [V_S,Nat.reduceEqDiff,reduceIte],by simp only [V_S,Nat.reduceEqDiff,reduceIte],by simp only [V_S,Nat.reduceEqDiff,reduceIte],by (simp only [V_S,Nat.reduceEqDiff,reduceIte]) <;> rfl,by simp only [V_S,Nat.reduceEqDiff,reduceIte],by simp only [V_S,Nat.reduceEqDiff,reduceIte]⟩
  case hm=>omega
  case ee =>
   have f0:=f'.f0
   have f1:=f'.f1
   have f5:=f'.f5
   simp only [EX,reduceIte,Nat.reduceEqDiff,Nat.reduceAdd,Int.reduceEq,Int.reduceLT,Int.reduceLE,reduceCtorEq,Nat.reduceLeDiff,Nat.reduceSub,Nat.reduceLT,f5]
   rw [← e1,e2 _ (by omega)]
   simp only [EX,reduceIte,Nat.reduceEqDiff,Nat.reduceAdd,Int.reduceEq,Int.reduceLT,Int.reduceLE,reduceCtorEq,Nat.reduceLeDiff,Nat.reduceSub,Nat.reduceLT,f0,hix,hld]
   rw [e3 _ (by omega)]
   simp only [EX,reduceIte,Nat.reduceEqDiff,Nat.reduceAdd,Int.reduceEq,Int.reduceLT,Int.reduceLE,reduceCtorEq,Nat.reduceLeDiff,Nat.reduceSub,Nat.reduceLT,f0,hsl]
   refine el4q _ ?ff2 _ ?hm2 R _ _ fun fr2 f2=>?ee2
   case ff2=>exact ⟨by simp only [V_S,Nat.reduceEqDiff,reduceIte]; exact f1,by simp only [V_S,Nat.reduceEqDiff,reduceIte],by simp only [V_S,Nat.reduceEqDiff,reduceIte],by simp only [V_S,Nat.reduceEqDiff,reduceIte],by (simp only [V_S,Nat.reduceEqDiff,reduceIte]) <;> rfl⟩
   case hm2=>omega
   case ee2 =>
    have f8:=f2.f8
    simp only [EX,reduceIte,Nat.reduceEqDiff,Nat.reduceAdd,Int.reduceEq,Int.reduceLT,Int.reduceLE,reduceCtorEq,Nat.reduceLeDiff,Nat.reduceSub,Nat.reduceLT,f8]
    rw [e5 _ (by omega)]
    simp only [EX,reduceIte,Nat.reduceEqDiff,Nat.reduceAdd,Int.reduceEq,Int.reduceLT,Int.reduceLE,reduceCtorEq,Nat.reduceLeDiff,Nat.reduceSub,Nat.reduceLT]
    exact rfl
end Go.Proofs.YtmmmjhkgjmbfaaaDoor

/- A truth's text (value.Text). -/
namespace Go.Proofs.YtmmmjhkgjmbfaaaDoor
open Go Go.Vai
set_option maxRecDepth 100000
set_option maxHeartbeats 1600000
set_option linter.unusedSimpArgs false
def tru (b : Bool) : List UInt8:=if b then [116,114,117,101] else [102,97,108,115,101]
def vb (b : Bool) : List AV:=[.i .i64 1,.b b,.i .i64 0,str [],str [],str [],.ns]
theorem vb_one (b : Bool) : ∀ v ∈ vb b,oneC v = true:=ec_one (op:=1) (b:=b) (n:=0) (s:=[]) (t:=[]) (d:=[]) rfl
theorem flat0 {R : Type} {k : HK R} {H : Heap} : binC .neq (.flat [2,2]) (.ag [str [],str []]) (.ag [str [],str []]) k H = k (.b false) H:=id rfl
theorem s61 {H : Heap} (b : Bool) : Tells 61 200 [.ag (vb b)] H (.tu [.ifc 126 (.b b),.i .i64 0]):=by
 obtain ⟨H1,e1⟩ : ∃ H1,H1 = H.alloc (.cells false 0 85 7 (setCells [.i .i64 1,.b b,.i .i64 0,str [],str [],str [],.ns] 0 .leaf)):=⟨_,rfl⟩
 have g1 : Grow H H1:=by rw [e1]; exact Grow.alloc H _
 have n1 : H1.next.toN = H.next.toN + 1:=by rw [e1]; exact next_alloc H _
 have r1 : Row H1 H.next 85 (vb b):=by rw [e1]; exact Row.new H 85 (vb b)
 obtain ⟨H2,e2⟩ : ∃ H2,H2 = H1.alloc (.cells false 0 85 7 (setCells [.i .i64 0,.b false,.i .i64 0,str [],str [],str [],.ns] 0 .leaf)):=⟨_,rfl⟩
 have g2 : Grow H1 H2:=by rw [e2]; exact Grow.alloc H1 _
 have n2 : H2.next.toN = H1.next.toN + 1:=by rw [e2]; exact next_alloc H1 _
 have r2 : Row H2 H1.next 85 zs7:=by rw [e2]; exact Row.new H1 85 zs7
 obtain ⟨H3,r3,b3,n3,est3⟩:=r2.st_all (n:=7) (ys:=vb b) (by omega) rfl rfl (vb_one b)
 have n3' : H3.next.toN = H2.next.toN:=by rw [n3]
 obtain ⟨H4,r4,b4,n4,est4⟩:=r3.st_one (off:=1) (v:=.b false) (by omega) (by show 1 < 7; omega) rfl
 have r4 : Row H4 H1.next 85 (vb false):=r4
 have p1 : Row H3 H.next 85 (vb b):=(r1.grow g2 (by omega)).but b3 (by omega) (by intro q; rw [← q] at n1; omega)
 have la:=r1.la 7 rfl
 have l0:=p1.l 0 (v:=.i .i64 1) rfl
 have l1:=p1.l 1 (v:=.b b) rfl
 have k1:=r4.l 1 (v:=.b false) rfl
 have k2:=r4.l 2 (v:=.i .i64 0) rfl
 have k3:=r4.l 3 (v:=str []) rfl
 have k6:=r4.l 6 (v:=.ns) rfl
 have k4 : ∀ (R : Type) (k : HK R),ldC true 2 (.p H1.next 4) k H4 = k (.ag [str [],str []]) H4:=fun R k=>r4.lds (n:=2) (off:=4) (by show 6≤7; omega)
 refine ⟨H4,(b3.trans b4).of (g1.trans g2) (by omega),fun M hM R k=>?_⟩
 obtain ⟨m,rfl⟩ : ∃ m,M = m + 200:=⟨M - 200,by omega⟩
 rw [call_eq L61]
 unfold B61
 simp only [EX,reduceIte,Nat.reduceEqDiff,Nat.reduceAdd,Int.reduceEq,Int.reduceLT,Int.reduceLE,reduceCtorEq,Nat.reduceLeDiff,Nat.reduceSub,Nat.reduceLT,vb]
 rw [← e1]
 simp only [EX,reduceIte,Nat.reduceEqDiff,Nat.reduceAdd,Int.reduceEq,Int.reduceLT,Int.reduceLE,reduceCtorEq,Nat.reduceLeDiff,Nat.reduceSub,Nat.reduceLT,la,vb]
 rw [← e2]
 refine (est3 _ _).trans ?_
 simp only [EX,reduceIte,Nat.reduceEqDiff,Nat.reduceAdd,Int.reduceEq,Int.reduceLT,Int.reduceLE,reduceCtorEq,Nat.reduceLeDiff,Nat.reduceSub,Nat.reduceLT,l0,l1,est4,k1,k2,k3,k4,k6,flat0,s_neq]
theorem s40 {H : Heap} (b : Bool) : Tells 40 400 [.ag (vb b)] H (str (tru b)):=by
 obtain ⟨H1,e1⟩ : ∃ H1,H1 = H.alloc (.cells false 0 85 7 (setCells [.i .i64 1,.b b,.i .i64 0,str [],str [],str [],.ns] 0 .leaf)):=⟨_,rfl⟩
 have g1 : Grow H H1:=by rw [e1]; exact Grow.alloc H _
 have r1 : Row H1 H.next 85 (vb b):=by rw [e1]; exact Row.new H 85 (vb b)
 have la:=r1.la 7 rfl
 obtain ⟨H2,g2,e2⟩:=s61 (H:=H1) b
 refine ⟨H2,g1.trans g2,fun M hM R k=>?_⟩
 obtain ⟨m,rfl⟩ : ∃ m,M = m + 400:=⟨M - 400,by omega⟩
 rw [call_eq L40]
 unfold B40
 simp only [EX,reduceIte,Nat.reduceEqDiff,Nat.reduceAdd,Int.reduceEq,Int.reduceLT,Int.reduceLE,reduceCtorEq,Nat.reduceLeDiff,Nat.reduceSub,Nat.reduceLT,vb]
 rw [← e1]
 simp only [EX,reduceIte,Nat.reduceEqDiff,Nat.reduceAdd,Int.reduceEq,Int.reduceLT,Int.reduceLE,reduceCtorEq,Nat.reduceLeDiff,Nat.reduceSub,Nat.reduceLT,la]
 rw [e2 _ (by omega)]
 simp only [EX,reduceIte,Nat.reduceEqDiff,Nat.reduceAdd,Int.reduceEq,Int.reduceLT,Int.reduceLE,reduceCtorEq,Nat.reduceLeDiff,Nat.reduceSub,Nat.reduceLT]
 rw [call_eq L111]
 unfold B111
 cases b
 ·simp only [EX,reduceIte,Nat.reduceEqDiff,Nat.reduceAdd,Int.reduceEq,Int.reduceLT,Int.reduceLE,reduceCtorEq,Nat.reduceLeDiff,Nat.reduceSub,Nat.reduceLT]
  exact rfl
 ·simp only [EX,reduceIte,Nat.reduceEqDiff,Nat.reduceAdd,Int.reduceEq,Int.reduceLT,Int.reduceLE,reduceCtorEq,Nat.reduceLeDiff,Nat.reduceSub,Nat.reduceLT]
  exact rfl
end Go.Proofs.YtmmmjhkgjmbfaaaDoor

/- What a tree's text is; the program's kid,row and uid (show). -/
namespace Go.Proofs.YtmmmjhkgjmbfaaaDoor
open Go Go.Vai
set_option maxRecDepth 100000
set_option maxHeartbeats 1600000
set_option linter.unusedSimpArgs false
/-- A text of bytes,quoted. -/
def quoB (s : List UInt8) : List UInt8:=34 :: s.flatMap qb ++ [34]
theorem dec_len (n : Nat) : (dec n).length≤21:=decF_len 20 n
theorem quoB_tx {l : List Nat} (hl : ∀ i ∈ l,i < 25) : quoB (txt l) = quo l:=by unfold quoB quo; rw [qb_tx hl]
theorem joinS_le : ∀ l,(joinS l).length≤2 * l.length + sumL l
 | []=>Nat.zero_le _
 | s :: l=>by
  have:=joinT_len l
  show (s ++ joinT l).length≤_
  rw [List.length_append,this,sumL_cons,List.length_cons]; omega
def Any : Pa→Prop:=fun _=>True
/-- What is laid of the program's variables. -/
def Gl (H : Heap) : Prop:=Glob H∧Glob3 H
theorem Gl.grow {H H' : Heap} (h : Gl H) (g : Grow H H') : Gl H':=⟨h.1.grow g,h.2.grow g⟩
theorem sMax4 : 4000000000004≤sMax:=by decide
end Go.Proofs.YtmmmjhkgjmbfaaaDoor

/- Numbers below nought: their texts. -/
namespace Go.Proofs.YtmmmjhkgjmbfaaaDoor
open Go Go.Vai
set_option maxRecDepth 100000
set_option maxHeartbeats 1600000
set_option linter.unusedSimpArgs false
theorem sla_to {R : Type} {H : Heap} {k : HK R} {n : Nat} {a : Pa} {e : Nat} {l : List AV} (hr : Row H a e l) (hn : n≤l.length) {kd' : IntKind} {hi : Int} (h1 : 0≤hi) (h2 : hi≤n) :
  slaC n 1 (.p a 0) none (some (.i kd' hi)) none k H = k (.sl a 0 hi.toNat (some n) 1) H:=sla_row (lo:=0) (kd:=.i64) hr hn (Int.le_refl 0) h1 h2
/-- A whole number's text. -/
def decZ (z : Int) : List UInt8:=if z < 0 then 45 :: dec z.natAbs else dec z.toNat
theorem decZ_le (z : Int) : (decZ z).length≤22:=by
 unfold decZ
 split
 ·have:=dec_len z.natAbs; show _ + 1≤22; omega
 ·have:=dec_len z.toNat; omega
theorem wrap_low {n : Nat} (h0 : 0 < n) (hn : n≤9223372036854775808) : IntKind.u64.wrap (-(n : Int)) = ((18446744073709551616 - n : Nat) : Int):=by
 show (-(n : Int)) % 18446744073709551616 = _
 omega
theorem wrap_back {n : Nat} (h0 : 0 < n) (hn : n≤9223372036854775808) : IntKind.u64.wrap (-((18446744073709551616 - n : Nat) : Int)) = (n : Int):=by
 show (-((18446744073709551616 - n : Nat) : Int)) % 18446744073709551616 = _
 omega
theorem s24n {n : Nat} (h0 : 0 < n) (hn : n≤9223372036854775808) (H : Heap) : Tells 24 1400 [.i .i64 (-(n : Int))] H (str (45 :: dec n)):=by
 obtain ⟨H',g,e⟩:=s50F 20 (Nat.le_refl _) n (Nat.lt_of_le_of_lt hn (by decide)) (by omega) H
 refine ⟨H',g,fun M hM R k=>?_⟩
 obtain ⟨m,rfl⟩ : ∃ m,M = m + 1400:=⟨M - 1400,by omega⟩
 have hge : (-(n : Int)) < 0:=by omega
 have hl:=dec_len n
 have hs : (30 : Nat)≤sMax:=by decide
 have hw : IntKind.u64.wrap (0 - ((18446744073709551616 - n : Nat) : Int)) = (n : Int):=by rw [Int.zero_sub]; exact wrap_back h0 hn
 rw [call_eq L24]
 unfold B24
 simp only [EX,reduceIte,Nat.reduceEqDiff,Nat.reduceAdd,Int.reduceEq,Int.reduceLT,Int.reduceLE,reduceCtorEq,Nat.reduceLeDiff,Nat.reduceSub,Nat.reduceLT,hge,wrap_low h0 hn,i_sub,hw]
 rw [e _ (by omega)]
 simp only [EX,reduceIte,Nat.reduceEqDiff,Nat.reduceAdd,Int.reduceEq,Int.reduceLT,Int.reduceLE,reduceCtorEq,Nat.reduceLeDiff,Nat.reduceSub,Nat.reduceLT]
 rw [show str (decF 20 n) = str (dec n) from rfl,s_add (by show 1 + _≤_; omega)]
 simp only [EX,reduceIte,Nat.reduceEqDiff,Nat.reduceAdd,Int.reduceEq,Int.reduceLT,Int.reduceLE,reduceCtorEq,Nat.reduceLeDiff,Nat.reduceSub,Nat.reduceLT]
 exact rfl
theorem s75n {n : Nat} (h0 : 0 < n) (hn : n≤9223372036854775808) {H : Heap} (hG : Glob H) : Tells 75 900 [.i .i64 (-(n : Int)),.i .i64 10] H (str (45 :: dec n)):=by
 have hng : ¬ (0 : Int)≤-(n : Int):=by omega
 have hneg : (-(n : Int)) < 0:=by omega
 have wl:=wrap_low h0 hn
 have wb:=wrap_back h0 hn
 obtain ⟨H1,e1⟩ : ∃ H1,H1 = H.alloc (.cells false 0 138 24 (setCells (List.replicate 24 (.i .u8 0)) 0 .leaf)):=⟨_,rfl⟩
 have g1 : Grow H H1:=by rw [e1]; exact Grow.alloc H _
 have n1 : H1.next.toN = H.next.toN + 1:=by rw [e1]; exact next_alloc H _
 have r1 : Row H1 H.next 138 (List.replicate 24 (.i .u8 0)):=by rw [e1]; exact Row.new H 138 (List.replicate 24 (.i .u8 0))
 obtain ⟨d,hd,e81⟩:=s81 (x:=n) (by omega) (by omega)
 have hd':=hd
 obtain ⟨d1,d2,d3,d4⟩:=hd'
 obtain ⟨H2,w,e82⟩:=s82 (c:=some 23) (off:=1) (len:=d) (u:=n) r1 (n:=24) (by rw [List.length_replicate]) (by omega) (by omega) d2 d4 (by omega)
 obtain ⟨R2,r2,l2,c2⟩:=w.r
 have hb2 : H.next.toN < H2.next.toN:=by have:=w.g.next; omega
 obtain ⟨H3,r3,b3,n3,est⟩:=r2.st_one (off:=0) (v:=.i .u8 45) hb2 (by omega) rfl
 have hcells : ((R2.set 0 (.i .u8 45)).drop 0).take (1 + d) = bcs (45 :: dec n):=by
  have q:=cells_dec hd c2 (by omega)
  match R2,l2,q with
  | x :: R2,l2,q =>
   show ((.i .u8 45 : AV) :: R2).take (1 + d) = _
   rw [Nat.add_comm 1 d,List.take_succ_cons]
   have q : R2.take d = bcs (dec n):=q
   rw [q]; rfl
 refine ⟨H3,(b3.of (w.g.of g1 (Nat.le_refl _)) (Nat.le_refl _)),fun M hM R k=>?_⟩
 obtain ⟨m,rfl⟩ : ∃ m,M = m + 900:=⟨M - 900,by omega⟩
 rw [call_eq L75]
 unfold B75
 simp only [EX,reduceIte,Nat.reduceEqDiff,Nat.reduceAdd,Int.reduceEq,Int.reduceLT,Int.reduceLE,reduceCtorEq,Nat.reduceLeDiff,Nat.reduceSub,Nat.reduceLT,hng,hneg]
 rw [show H.alloc (.cells false 0 138 24 (setCells [.i .u8 0,.i .u8 0,.i .u8 0,.i .u8 0,.i .u8 0,.i .u8 0,.i .u8 0,.i .u8 0,.i .u8 0,.i .u8 0,.i .u8 0,.i .u8 0,.i .u8 0,.i .u8 0,.i .u8 0,.i .u8 0,.i .u8 0,.i .u8 0,.i .u8 0,.i .u8 0,.i .u8 0,.i .u8 0,.i .u8 0,.i .u8 0] 0 .leaf)) = H1 from e1.symm]
 simp only [EX,reduceIte,Nat.reduceEqDiff,Nat.reduceAdd,Int.reduceEq,Int.reduceLT,Int.reduceLE,reduceCtorEq,Nat.reduceLeDiff,Nat.reduceSub,Nat.reduceLT,hng,hneg,wl,wb,neg_i]
 rw [e81 _ (hG.grow g1) _ (by omega)]
 simp only [EX,reduceIte,Nat.reduceEqDiff,Nat.reduceAdd,Int.reduceEq,Int.reduceLT,Int.reduceLE,reduceCtorEq,Nat.reduceLeDiff,Nat.reduceSub,Nat.reduceLT,i_add]
 rw [show (1 : Int) + (d : Int) = ((1 + d : Nat) : Int) by omega,wrap_n64 (by omega),sla_row r1 (by rw [List.length_replicate]; exact Nat.le_refl _) (by omega) (by omega) (by omega),Int.toNat_natCast,show 1 + d - (1 : Int).toNat = d by show 1 + d - 1 = d; omega]
 simp only [EX,reduceIte,Nat.reduceEqDiff,Nat.reduceAdd,Int.reduceEq,Int.reduceLT,Int.reduceLE,reduceCtorEq,Nat.reduceLeDiff,Nat.reduceSub,Nat.reduceLT]
 refine (e82 _ (by omega) _ _).trans ?_
 simp only [EX,reduceIte,Nat.reduceEqDiff,Nat.reduceAdd,Int.reduceEq,Int.reduceLT,Int.reduceLE,reduceCtorEq,Nat.reduceLeDiff,Nat.reduceSub,Nat.reduceLT,i_add,hneg,ixp_p (Int.le_refl 0) (show (0 : Int) < (24 : Nat) by decide),show 0 + (0 : Int).toNat * 1 = 0 from rfl,est]
 rw [show (1 : Int) + (d : Int) = ((1 + d : Nat) : Int) by omega,wrap_n64 (by omega),sla_to r3 (by rw [List.length_set]; omega) (by omega) (by omega),Int.toNat_natCast]
 simp only [EX,reduceIte,Nat.reduceEqDiff,Nat.reduceAdd,Int.reduceEq,Int.reduceLT,Int.reduceLE,reduceCtorEq,Nat.reduceLeDiff,Nat.reduceSub,Nat.reduceLT]
 rw [b2s_part r3 (s:=45 :: dec n) (by show _ = (dec n).length + 1; rw [(dec_at hd).1]; omega) (by rw [List.length_set]; omega) hcells]
 simp only [EX,reduceIte,Nat.reduceEqDiff,Nat.reduceAdd,Int.reduceEq,Int.reduceLT,Int.reduceLE,reduceCtorEq,Nat.reduceLeDiff,Nat.reduceSub,Nat.reduceLT]
theorem s24z {z : Int} (h1 : -9223372036854775808≤z) (h2 : z < 9223372036854775808) (H : Heap) : Tells 24 1400 [.i .i64 z] H (str (decZ z)):=by
 unfold decZ
 by_cases h : z < 0
 ·rw [if_pos h]
  have:=s24n (n:=z.natAbs) (by omega) (by omega) H
  rw [show -((z.natAbs : Nat) : Int) = z by omega] at this
  exact this
 ·rw [if_neg h]
  have:=s24 (n:=z.toNat) (by omega) H
  rw [show ((z.toNat : Nat) : Int) = z by omega] at this
  exact this
theorem s44z {z : Int} (h1 : -9223372036854775808≤z) (h2 : z < 9223372036854775808) {H : Heap} (hG : Glob H) : Tells 44 1100 [.i .i64 z] H (str (decZ z)):=by
 have e75 : Tells 75 900 [.i .i64 z,.i .i64 10] H (str (decZ z)):=by
  unfold decZ
  by_cases h : z < 0
  ·rw [if_pos h]
   have:=s75n (n:=z.natAbs) (by omega) (by omega) hG
   rw [show -((z.natAbs : Nat) : Int) = z by omega] at this
   exact this
  ·rw [if_neg h]
   have:=s75 (n:=z.toNat) (by omega) hG
   rw [show ((z.toNat : Nat) : Int) = z by omega] at this
   exact this
 obtain ⟨H',g,e⟩:=e75
 refine ⟨H',g,fun M hM R k=>?_⟩
 obtain ⟨m,rfl⟩ : ∃ m,M = m + 1100:=⟨M - 1100,by omega⟩
 rw [call_eq L44]
 unfold B44
 simp only [EX,reduceIte,Nat.reduceEqDiff,Nat.reduceAdd,Int.reduceEq,Int.reduceLT,Int.reduceLE,reduceCtorEq,Nat.reduceLeDiff,Nat.reduceSub,Nat.reduceLT]
 rw [call_eq L64]
 unfold B64
 simp only [EX,reduceIte,Nat.reduceEqDiff,Nat.reduceAdd,Int.reduceEq,Int.reduceLT,Int.reduceLE,reduceCtorEq,Nat.reduceLeDiff,Nat.reduceSub,Nat.reduceLT]
 rw [e _ (by omega)]
 simp only [EX,reduceIte,Nat.reduceEqDiff,Nat.reduceAdd,Int.reduceEq,Int.reduceLT,Int.reduceLE,reduceCtorEq,Nat.reduceLeDiff,Nat.reduceSub,Nat.reduceLT]
end Go.Proofs.YtmmmjhkgjmbfaaaDoor

/- Things in memory that are told by their blocks: rows of things,rows that grow,loops. -/
namespace Go.Proofs.YtmmmjhkgjmbfaaaDoor
open Go Go.Vai
set_option maxRecDepth 100000
set_option maxHeartbeats 1600000
set_option linter.unusedSimpArgs false
/-- What lies in memory of a thing: the blocks that it may be of,memory,its cells. -/
abbrev DP (α : Type):=(Pa→Prop)→Heap→List AV→α→Prop
structure Mov {α : Type} (w : Nat) (P : DP α) : Prop where
 mv : ∀ {S S' : Pa→Prop} {H H' : Heap} {bs : List AV} {r : α},(∀ a,S a→a.toN < H.next.toN→S' a∧H'.get a = H.get a)→H.next.toN≤H'.next.toN→P S H bs r→P S' H' bs r
 len : ∀ {S : Pa→Prop} {H : Heap} {bs : List AV} {r : α},P S H bs r→bs.length = w
 one : ∀ {S : Pa→Prop} {H : Heap} {bs : List AV} {r : α},P S H bs r→∀ v ∈ bs,oneC v = true∧avEq1 v v = true
theorem Mov.grow {α : Type} {w : Nat} {P : DP α} (h : Mov w P) {S : Pa→Prop} {H H' : Heap} {bs : List AV} {r : α} (hp : P S H bs r) (g : Grow H H') : P S H' bs r :=
 h.mv (fun a hs ha=>⟨hs,g.get a ha⟩) g.next hp
theorem Mov.weak {α : Type} {w : Nat} {P : DP α} (h : Mov w P) {S S' : Pa→Prop} {H : Heap} {bs : List AV} {r : α} (hp : P S H bs r) (hs : ∀ a,S a→a.toN < H.next.toN→S' a) : P S' H bs r :=
 h.mv (fun a q ha=>⟨hs a q ha,rfl⟩) (Nat.le_refl _) hp
theorem Mov.av {α : Type} {w : Nat} {P : DP α} (h : Mov w P) {S : Pa→Prop} {H : Heap} {bs : List AV} {r : α} (hp : P S H bs r) : avEq (.ag bs) (.ag bs) = true:=avEq_ag fun v hv=>(h.one hp v hv).2
theorem Mov.ones {α : Type} {w : Nat} {P : DP α} (h : Mov w P) {S : Pa→Prop} {H : Heap} {bs : List AV} {r : α} (hp : P S H bs r) : ∀ v ∈ bs,oneC v = true:=fun v hv=>(h.one hp v hv).1
/-- A slice of things. -/
def Lst {α : Type} (w : Nat) (P : DP α) (S : Pa→Prop) (H : Heap) (x : AV) (l : List α) : Prop :=
 (x = .ns∧l = []) ∨ ∃ a off cp ro fz e size c,x = .sl a off l.length cp w∧S a∧a.toN < H.next.toN∧H.get a = .cells ro fz e size c∧off + l.length * w≤size∧∀ j r,l[j]? = some r→P S H (getCells w (off + j * w) c) r
section
variable {α : Type} {w : Nat} {P : DP α} {S : Pa→Prop} {H : Heap} {x : AV} {l : List α}
theorem Lst.mv (hP : Mov w P) {S' : Pa→Prop} {H' : Heap} (hs : ∀ a,S a→a.toN < H.next.toN→S' a∧H'.get a = H.get a) (hn : H.next.toN≤H'.next.toN) (h : Lst w P S H x l) : Lst w P S' H' x l:=by
 obtain h | ⟨a,off,cp,ro,fz,e,size,c,hx,ha,hb,hg,hl,hd⟩:=h
 ·exact Or.inl h
 ·exact Or.inr ⟨a,off,cp,ro,fz,e,size,c,hx,(hs a ha hb).1,Nat.lt_of_lt_of_le hb hn,by rw [(hs a ha hb).2,hg],hl,fun j r hj=>hP.mv hs hn (hd j r hj)⟩
theorem Lst.grow (hP : Mov w P) {H' : Heap} (h : Lst w P S H x l) (g : Grow H H') : Lst w P S H' x l:=h.mv hP (fun a hs ha=>⟨hs,g.get a ha⟩) g.next
theorem Lst.weak (hP : Mov w P) {S' : Pa→Prop} (h : Lst w P S H x l) (hs : ∀ a,S a→a.toN < H.next.toN→S' a) : Lst w P S' H x l:=h.mv hP (fun a q ha=>⟨hs a q ha,rfl⟩) (Nat.le_refl _)
theorem Lst.len (h : Lst w P S H x l) : ∀ (R : Type) (k : HK R) (G : Heap),lenC false x k G = k (.i .i64 (l.length : Int)) G:=by
 intro R k G
 obtain ⟨rfl,rfl⟩ | ⟨a,off,cp,ro,fz,e,size,c,rfl,_⟩:=h <;> rfl
theorem Lst.cell (h : Lst w P S H x l) : oneC x = true∧avEq1 x x = true:=by
 obtain ⟨rfl,rfl⟩ | ⟨a,off,cp,ro,fz,e,size,c,rfl,_⟩:=h
 ·exact ⟨rfl,av1_ns⟩
 ·exact ⟨one_sl,av1_sl⟩
theorem Lst.self (h : Lst w P S H x l) : avEq x x = true:=av1_av h.cell.1 h.cell.2
/-- The thing at a place,and its loads. -/
theorem Lst.at (hP : Mov w P) (h : Lst w P S H x l) {j : Nat} {r : α} (hj : l[j]? = some r) : ∃ a o bs,P S H bs r∧a.toN < H.next.toN ∧
  (∀ (R : Type) (k : HK R) (G : Heap),ixaC w x (.i .i64 (j : Int)) k G = k (.p a o) G) ∧
  (∀ G,Grow H G→∀ (f : Nat) (v : AV),bs[f]? = some v→∀ (R : Type) (k : HK R),ldC false 1 (.p a (o + f)) k G = k v G) ∧
  ∀ G,Grow H G→∀ (f m : Nat),f + m≤w→∀ (R : Type) (k : HK R),ldC true m (.p a (o + f)) k G = k (.ag ((bs.drop f).take m)) G:=by
 have hl : j < l.length:=(List.getElem?_eq_some_iff.mp hj).1
 have hm : (j + 1) * w≤l.length * w:=Nat.mul_le_mul_right w hl
 rw [Nat.add_mul,Nat.one_mul] at hm
 obtain ⟨rfl,rfl⟩ | ⟨a,off,cp,ro,fz,e,size,c,rfl,ha,hb,hg,hsz,hd⟩:=h
 ·cases hj
 ·have hd:=hd j r hj
  have hbl:=hP.len hd
  refine ⟨a,off + j * w,_,hd,hb,fun R k G=>?_,fun G g f v hv R k=>?_,fun G g f m hm R k=>?_⟩
  ·rw [ixa_sl (by omega) (by omega),Int.toNat_natCast]
  ·have hf : f < w:=by rw [← hbl]; exact (List.getElem?_eq_some_iff.mp hv).1
   have hg' : G.get a = .cells ro fz e size c:=by rw [g.get a hb,hg]
   rw [ld_one hg' (by omega)]
   rw [getCells_at _ _ _ _ hf] at hv
   rw [Option.some.inj hv]
  ·have hg' : G.get a = .cells ro fz e size c:=by rw [g.get a hb,hg]
   rw [ld_ag hg' (by omega)]
   congr 2
   apply List.ext_getElem?
   intro q
   by_cases hq : q < m
   ·rw [getCells_at _ _ _ _ hq,List.getElem?_take_of_lt hq,List.getElem?_drop,getCells_at _ _ _ _ (by omega),Nat.add_assoc]
   ·rw [List.getElem?_eq_none (by rw [getCells_len]; omega),List.getElem?_eq_none (by rw [List.length_take]; omega)]
/-- The slice's first ones. -/
theorem Lst.take (h : Lst w P S H x l) {n : Nat} (hn : n≤l.length) : ∃ x',Lst w P S H x' (l.take n)∧∀ (R : Type) (k : HK R) (G : Heap),x ≠ .ns→(∀ a off len cp,x = .sl a off len cp w→cp = none→sllC w x none (some (.i .i64 (n : Int))) none k G = k x' G):=by
 obtain ⟨rfl,rfl⟩ | ⟨a,off,cp,ro,fz,e,size,c,rfl,ha,hb,hg,hsz,hd⟩:=h
 ·exact ⟨.ns,Or.inl ⟨rfl,by rw [List.take_nil]⟩,fun R k G h=>absurd rfl h⟩
 ·have hnw : n * w≤l.length * w:=Nat.mul_le_mul_right w hn
  refine ⟨.sl a off n cp w,Or.inr ⟨a,off,cp,ro,fz,e,size,c,by rw [List.length_take,Nat.min_eq_left hn],ha,hb,hg,by rw [List.length_take,Nat.min_eq_left hn]; omega,fun j r hj=>hd j r ?_⟩,fun R k G _ a' off' len' cp' q hc=>?_⟩
  ·rw [List.getElem?_take] at hj
   split at hj
   ·exact hj
   ·cases hj
  ·cases q
   subst hc
   rw [sll_to (by omega) (by omega),Int.toNat_natCast]
end
end Go.Proofs.YtmmmjhkgjmbfaaaDoor
