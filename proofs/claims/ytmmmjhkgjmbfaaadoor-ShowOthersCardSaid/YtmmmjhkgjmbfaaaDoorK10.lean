/- A verified interpreter of the model's code, and what the functions that show schemas and entities tell by it: part 10 (S45, S46, S47, S48, S49, S50, S51). No condition but those that each statement bears. -/
import Derived.Test.YtmmmjhkgjmbfaaaDoorK09
set_option linter.unusedVariables false
set_option linter.unusedSimpArgs false
set_option linter.unusedSectionVars false
set_option linter.constructorNameAsVariable false
set_option linter.unnecessarySimpa false
/- A value's text,the program's (value.Text). -/
namespace Go.Proofs.YtmmmjhkgjmbfaaaDoor
open Go Go.Vai
set_option maxRecDepth 100000
set_option maxHeartbeats 1600000
set_option linter.unusedSimpArgs false
theorem tru_le (b : Bool) : (tru b).length≤5:=by cases b <;> decide
theorem Pl.tx_le {p : Pl} (h : p.Ok) : p.tx.length≤224:=by
 match p,h with
 | .b x,_=>exact Nat.le_trans (tru_le x) (by decide)
 | .n z,_=>exact Nat.le_trans (decZ_le z) (by decide)
 | .s t,h=>exact Nat.le_trans (rt_le h) (by decide)
 | .u t i,h =>
  have h1:=rt_le h.2
  have h2:=h.1
  show (t ++ [58,58] ++ quoB i).length≤224
  rw [List.length_append,List.length_append]
  show t.length + 2 + _≤224
  omega
/-- Texts in a row that grows. -/
structure Txs (H0 H : Heap) (x : AV) (ts : List (List UInt8)) : Prop where
 g : Grow H0 H
 h : Held H0 H 9 1 x ts.length (ts.map str)
theorem Txs.init (H : Heap) : Txs H H .ns []:=⟨Grow.refl _,Held.init _ _ _ _⟩
theorem Txs.strs {H0 H : Heap} {x : AV} {ts : List (List UInt8)} (h : Txs H0 H x ts) : Strs H x ts:=Strs.of h.h
theorem Txs.add {H0 H H3 : Heap} {x : AV} {ts : List (List UInt8)} (h : Txs H0 H x ts) (g : Grow H H3) {q : Pa} {s : List UInt8} (r3 : Row H3 q 9 [str s]) (hn : ts.length≤100) :
  ∃ H4 x',Txs H0 H4 x' (ts ++ [s])∧∀ (R : Type) (k : HK R),appendK 9 1 16 x (.sl q 0 1 (some 1) 1) H3 k = k x' H4:=by
 have room : (101 * 16 : Nat)≤roomN:=by decide
 obtain ⟨H4,g4,n4,h4,e4⟩:=(h.h.grow g).app (n:=0) (bytes:=16) (ys:=[str s]) (h.g.trans g) (by decide) rfl (by intro v hv; rw [List.mem_singleton.mp hv]; exact one_str) (by omega)
 refine ⟨H4,_,⟨g4,?_⟩,fun R k=>e4 R k _ fun f=>src_all (n:=0 + 1) r3 rfl f⟩
 have e1 : (ts ++ [s]).length = ts.length + (0 + 1):=by simp
 have e2 : (ts ++ [s]).map str = ts.map str ++ [str s]:=by simp
 rw [e1,e2]; exact h4
theorem lk127 {R : Type} {f : Pa→Option R} : lookK 127 [(126,toPa 111),(127,toPa 114),(128,toPa 117),(129,toPa 120),(130,toPa 123)] f = f (toPa 114):=rfl
theorem lk128 {R : Type} {f : Pa→Option R} : lookK 128 [(126,toPa 111),(127,toPa 114),(128,toPa 117),(129,toPa 120),(130,toPa 123)] f = f (toPa 117):=rfl
theorem lk129 {R : Type} {f : Pa→Option R} : lookK 129 [(126,toPa 111),(127,toPa 114),(128,toPa 117),(129,toPa 120),(130,toPa 123)] f = f (toPa 120):=rfl
theorem lk130 {R : Type} {f : Pa→Option R} : lookK 130 [(126,toPa 111),(127,toPa 114),(128,toPa 117),(129,toPa 120),(130,toPa 123)] f = f (toPa 123):=rfl
theorem mkif_ag2 {R : Type} {k : HK R} {H : Heap} {e : Nat} {l : List AV} : mkifC e (.ag l) k H = k (.ifc e (.ag l)) H:=by first | rfl | (unfold mkifC; rfl)
theorem s61_n {H : Heap} (z : Int) : Tells 61 200 [.ag [.i .i64 2,.b false,.i .i64 z,str [],str [],str [],.ns]] H (.tu [.ifc 127 (.i .i64 z),.i .i64 0]):=by
 obtain ⟨H1,e1⟩ : ∃ H1,H1 = H.alloc (.cells false 0 85 7 (setCells [.i .i64 2,.b false,.i .i64 z,str [],str [],str [],.ns] 0 .leaf)):=⟨_,rfl⟩
 have g1 : Grow H H1:=by rw [e1]; exact Grow.alloc H _
 have n1 : H1.next.toN = H.next.toN + 1:=by rw [e1]; exact next_alloc H _
 have r1 : Row H1 H.next 85 [.i .i64 2,.b false,.i .i64 z,str [],str [],str [],.ns]:=by rw [e1]; exact Row.new H 85 [.i .i64 2,.b false,.i .i64 z,str [],str [],str [],.ns]
 obtain ⟨H2,e2⟩ : ∃ H2,H2 = H1.alloc (.cells false 0 85 7 (setCells [.i .i64 0,.b false,.i .i64 0,str [],str [],str [],.ns] 0 .leaf)):=⟨_,rfl⟩
 have g2 : Grow H1 H2:=by rw [e2]; exact Grow.alloc H1 _
 have n2 : H2.next.toN = H1.next.toN + 1:=by rw [e2]; exact next_alloc H1 _
 have r2 : Row H2 H1.next 85 zs7:=by rw [e2]; exact Row.new H1 85 zs7
 obtain ⟨H3,r3,b3,n3,est3⟩:=r2.st_all (n:=7) (ys:=[.i .i64 2,.b false,.i .i64 z,str [],str [],str [],.ns]) (by omega) rfl rfl (by intro v hv; simp only [List.mem_cons,List.not_mem_nil,or_false] at hv; rcases hv with rfl | rfl | rfl | rfl | rfl | rfl | rfl <;> first | exact one_i | exact one_b | exact one_str | exact rfl | exact hx)
 have n3' : H3.next.toN = H2.next.toN:=by rw [n3]
 obtain ⟨H4,r4,b4,n4,est4⟩:=r3.st_one (off:=2) (v:=.i .i64 0) (by omega) (by show 2 < 7; omega) rfl
 have r4 : Row H4 H1.next 85 [.i .i64 2,.b false,.i .i64 0,str [],str [],str [],.ns]:=r4
 have p1 : Row H3 H.next 85 [.i .i64 2,.b false,.i .i64 z,str [],str [],str [],.ns]:=(r1.grow g2 (by omega)).but b3 (by omega) (by intro q; rw [← q] at n1; omega)
 have la:=r1.la 7 rfl
 have l0:=p1.l 0 (v:=.i .i64 2) rfl
 have l1:=p1.l 2 (v:=.i .i64 z) rfl
 have k1:=r4.l 1 (v:=.b false) rfl
 have k2:=r4.l 2 (v:=.i .i64 0) rfl
 have k3:=r4.l 3 (v:=str []) rfl
 have k6:=r4.l 6 (v:=.ns) rfl
 have k4 : ∀ (R : Type) (k : HK R),ldC true 2 (.p H1.next 4) k H4 = k (.ag [str [],str []]) H4:=fun R k=>r4.lds (n:=2) (off:=4) (by show 6≤7; omega)
 refine ⟨H4,(b3.trans b4).of (g1.trans g2) (by omega),fun M hM R k=>?_⟩
 obtain ⟨m,rfl⟩ : ∃ m,M = m + 200:=⟨M - 200,by omega⟩
 rw [call_eq L61]
 unfold B61
 simp only [EX,reduceIte,Nat.reduceEqDiff,Nat.reduceAdd,Int.reduceEq,Int.reduceLT,Int.reduceLE,reduceCtorEq,Nat.reduceLeDiff,Nat.reduceSub,Nat.reduceLT]
 rw [← e1]
 simp only [EX,reduceIte,Nat.reduceEqDiff,Nat.reduceAdd,Int.reduceEq,Int.reduceLT,Int.reduceLE,reduceCtorEq,Nat.reduceLeDiff,Nat.reduceSub,Nat.reduceLT,la]
 rw [← e2]
 refine (est3 _ _).trans ?_
 simp only [EX,reduceIte,Nat.reduceEqDiff,Nat.reduceAdd,Int.reduceEq,Int.reduceLT,Int.reduceLE,reduceCtorEq,Nat.reduceLeDiff,Nat.reduceSub,Nat.reduceLT,l0,l1]
 refine (est4 _ _).trans ?_
 simp only [EX,reduceIte,Nat.reduceEqDiff,Nat.reduceAdd,Int.reduceEq,Int.reduceLT,Int.reduceLE,reduceCtorEq,Nat.reduceLeDiff,Nat.reduceSub,Nat.reduceLT,k1,k2,k3,k4,k6,flat0,s_neq]
theorem s61_s {H : Heap} (s : List UInt8) : Tells 61 200 [.ag [.i .i64 3,.b false,.i .i64 0,str s,str [],str [],.ns]] H (.tu [.ifc 128 (str s),.i .i64 0]):=by
 obtain ⟨H1,e1⟩ : ∃ H1,H1 = H.alloc (.cells false 0 85 7 (setCells [.i .i64 3,.b false,.i .i64 0,str s,str [],str [],.ns] 0 .leaf)):=⟨_,rfl⟩
 have g1 : Grow H H1:=by rw [e1]; exact Grow.alloc H _
 have n1 : H1.next.toN = H.next.toN + 1:=by rw [e1]; exact next_alloc H _
 have r1 : Row H1 H.next 85 [.i .i64 3,.b false,.i .i64 0,str s,str [],str [],.ns]:=by rw [e1]; exact Row.new H 85 [.i .i64 3,.b false,.i .i64 0,str s,str [],str [],.ns]
 obtain ⟨H2,e2⟩ : ∃ H2,H2 = H1.alloc (.cells false 0 85 7 (setCells [.i .i64 0,.b false,.i .i64 0,str [],str [],str [],.ns] 0 .leaf)):=⟨_,rfl⟩
 have g2 : Grow H1 H2:=by rw [e2]; exact Grow.alloc H1 _
 have n2 : H2.next.toN = H1.next.toN + 1:=by rw [e2]; exact next_alloc H1 _
 have r2 : Row H2 H1.next 85 zs7:=by rw [e2]; exact Row.new H1 85 zs7
 obtain ⟨H3,r3,b3,n3,est3⟩:=r2.st_all (n:=7) (ys:=[.i .i64 3,.b false,.i .i64 0,str s,str [],str [],.ns]) (by omega) rfl rfl (by intro v hv; simp only [List.mem_cons,List.not_mem_nil,or_false] at hv; rcases hv with rfl | rfl | rfl | rfl | rfl | rfl | rfl <;> first | exact one_i | exact one_b | exact one_str | exact rfl | exact hx)
 have n3' : H3.next.toN = H2.next.toN:=by rw [n3]
 obtain ⟨H4,r4,b4,n4,est4⟩:=r3.st_one (off:=3) (v:=str []) (by omega) (by show 3 < 7; omega) one_str
 have r4 : Row H4 H1.next 85 [.i .i64 3,.b false,.i .i64 0,str [],str [],str [],.ns]:=r4
 have p1 : Row H3 H.next 85 [.i .i64 3,.b false,.i .i64 0,str s,str [],str [],.ns]:=(r1.grow g2 (by omega)).but b3 (by omega) (by intro q; rw [← q] at n1; omega)
 have la:=r1.la 7 rfl
 have l0:=p1.l 0 (v:=.i .i64 3) rfl
 have l1:=p1.l 3 (v:=str s) rfl
 have k1:=r4.l 1 (v:=.b false) rfl
 have k2:=r4.l 2 (v:=.i .i64 0) rfl
 have k3:=r4.l 3 (v:=str []) rfl
 have k6:=r4.l 6 (v:=.ns) rfl
 have k4 : ∀ (R : Type) (k : HK R),ldC true 2 (.p H1.next 4) k H4 = k (.ag [str [],str []]) H4:=fun R k=>r4.lds (n:=2) (off:=4) (by show 6≤7; omega)
 refine ⟨H4,(b3.trans b4).of (g1.trans g2) (by omega),fun M hM R k=>?_⟩
 obtain ⟨m,rfl⟩ : ∃ m,M = m + 200:=⟨M - 200,by omega⟩
 rw [call_eq L61]
 unfold B61
 simp only [EX,reduceIte,Nat.reduceEqDiff,Nat.reduceAdd,Int.reduceEq,Int.reduceLT,Int.reduceLE,reduceCtorEq,Nat.reduceLeDiff,Nat.reduceSub,Nat.reduceLT]
 rw [← e1]
 simp only [EX,reduceIte,Nat.reduceEqDiff,Nat.reduceAdd,Int.reduceEq,Int.reduceLT,Int.reduceLE,reduceCtorEq,Nat.reduceLeDiff,Nat.reduceSub,Nat.reduceLT,la]
 rw [← e2]
 refine (est3 _ _).trans ?_
 simp only [EX,reduceIte,Nat.reduceEqDiff,Nat.reduceAdd,Int.reduceEq,Int.reduceLT,Int.reduceLE,reduceCtorEq,Nat.reduceLeDiff,Nat.reduceSub,Nat.reduceLT,l0,l1]
 refine (est4 _ _).trans ?_
 simp only [EX,reduceIte,Nat.reduceEqDiff,Nat.reduceAdd,Int.reduceEq,Int.reduceLT,Int.reduceLE,reduceCtorEq,Nat.reduceLeDiff,Nat.reduceSub,Nat.reduceLT,k1,k2,k3,k4,k6,flat0,s_neq]
theorem s61_u {H : Heap} (a b : List UInt8) : Tells 61 200 [.ag [.i .i64 4,.b false,.i .i64 0,str [],str a,str b,.ns]] H (.tu [.ifc 129 (.ag [str a,str b]),.i .i64 0]):=by
 obtain ⟨H1,e1⟩ : ∃ H1,H1 = H.alloc (.cells false 0 85 7 (setCells [.i .i64 4,.b false,.i .i64 0,str [],str a,str b,.ns] 0 .leaf)):=⟨_,rfl⟩
 have g1 : Grow H H1:=by rw [e1]; exact Grow.alloc H _
 have n1 : H1.next.toN = H.next.toN + 1:=by rw [e1]; exact next_alloc H _
 have r1 : Row H1 H.next 85 [.i .i64 4,.b false,.i .i64 0,str [],str a,str b,.ns]:=by rw [e1]; exact Row.new H 85 [.i .i64 4,.b false,.i .i64 0,str [],str a,str b,.ns]
 obtain ⟨H2,e2⟩ : ∃ H2,H2 = H1.alloc (.cells false 0 85 7 (setCells [.i .i64 0,.b false,.i .i64 0,str [],str [],str [],.ns] 0 .leaf)):=⟨_,rfl⟩
 have g2 : Grow H1 H2:=by rw [e2]; exact Grow.alloc H1 _
 have n2 : H2.next.toN = H1.next.toN + 1:=by rw [e2]; exact next_alloc H1 _
 have r2 : Row H2 H1.next 85 zs7:=by rw [e2]; exact Row.new H1 85 zs7
 obtain ⟨H3,r3,b3,n3,est3⟩:=r2.st_all (n:=7) (ys:=[.i .i64 4,.b false,.i .i64 0,str [],str a,str b,.ns]) (by omega) rfl rfl (by intro v hv; simp only [List.mem_cons,List.not_mem_nil,or_false] at hv; rcases hv with rfl | rfl | rfl | rfl | rfl | rfl | rfl <;> first | exact one_i | exact one_b | exact one_str | exact rfl | exact hx)
 have n3' : H3.next.toN = H2.next.toN:=by rw [n3]
 obtain ⟨H4,r4,b4,n4,est4⟩:=r3.st_ag (off:=4) (n:=2) (ys:=[str [],str []]) (by omega) rfl (by show 6≤7; omega) (by intro v hv; simp at hv; rw [hv]; exact one_str)
 have r4 : Row H4 H1.next 85 [.i .i64 4,.b false,.i .i64 0,str [],str [],str [],.ns]:=r4
 have p1 : Row H3 H.next 85 [.i .i64 4,.b false,.i .i64 0,str [],str a,str b,.ns]:=(r1.grow g2 (by omega)).but b3 (by omega) (by intro q; rw [← q] at n1; omega)
 have la:=r1.la 7 rfl
 have l0:=p1.l 0 (v:=.i .i64 4) rfl
 have l1 : ∀ (R : Type) (k : HK R),ldC true 2 (.p H.next 4) k H3 = k (.ag [str a,str b]) H3:=fun R k=>p1.lds (n:=2) (off:=4) (by show 6≤7; omega)
 have k1:=r4.l 1 (v:=.b false) rfl
 have k2:=r4.l 2 (v:=.i .i64 0) rfl
 have k3:=r4.l 3 (v:=str []) rfl
 have k6:=r4.l 6 (v:=.ns) rfl
 have k4 : ∀ (R : Type) (k : HK R),ldC true 2 (.p H1.next 4) k H4 = k (.ag [str [],str []]) H4:=fun R k=>r4.lds (n:=2) (off:=4) (by show 6≤7; omega)
 refine ⟨H4,(b3.trans b4).of (g1.trans g2) (by omega),fun M hM R k=>?_⟩
 obtain ⟨m,rfl⟩ : ∃ m,M = m + 200:=⟨M - 200,by omega⟩
 rw [call_eq L61]
 unfold B61
 simp only [EX,reduceIte,Nat.reduceEqDiff,Nat.reduceAdd,Int.reduceEq,Int.reduceLT,Int.reduceLE,reduceCtorEq,Nat.reduceLeDiff,Nat.reduceSub,Nat.reduceLT]
 rw [← e1]
 simp only [EX,reduceIte,Nat.reduceEqDiff,Nat.reduceAdd,Int.reduceEq,Int.reduceLT,Int.reduceLE,reduceCtorEq,Nat.reduceLeDiff,Nat.reduceSub,Nat.reduceLT,la]
 rw [← e2]
 refine (est3 _ _).trans ?_
 simp only [EX,reduceIte,Nat.reduceEqDiff,Nat.reduceAdd,Int.reduceEq,Int.reduceLT,Int.reduceLE,reduceCtorEq,Nat.reduceLeDiff,Nat.reduceSub,Nat.reduceLT,l0,l1,mkif_ag2]
 refine (est4 _ _).trans ?_
 simp only [EX,reduceIte,Nat.reduceEqDiff,Nat.reduceAdd,Int.reduceEq,Int.reduceLT,Int.reduceLE,reduceCtorEq,Nat.reduceLeDiff,Nat.reduceSub,Nat.reduceLT,k1,k2,k3,k4,k6,flat0,s_neq]
theorem s61_l {H : Heap} {x : AV} (hx : oneC x = true) : Tells 61 200 [.ag [.i .i64 5,.b false,.i .i64 0,str [],str [],str [],x]] H (.tu [.ifc 130 x,.i .i64 0]):=by
 obtain ⟨H1,e1⟩ : ∃ H1,H1 = H.alloc (.cells false 0 85 7 (setCells [.i .i64 5,.b false,.i .i64 0,str [],str [],str [],x] 0 .leaf)):=⟨_,rfl⟩
 have g1 : Grow H H1:=by rw [e1]; exact Grow.alloc H _
 have n1 : H1.next.toN = H.next.toN + 1:=by rw [e1]; exact next_alloc H _
 have r1 : Row H1 H.next 85 [.i .i64 5,.b false,.i .i64 0,str [],str [],str [],x]:=by rw [e1]; exact Row.new H 85 [.i .i64 5,.b false,.i .i64 0,str [],str [],str [],x]
 obtain ⟨H2,e2⟩ : ∃ H2,H2 = H1.alloc (.cells false 0 85 7 (setCells [.i .i64 0,.b false,.i .i64 0,str [],str [],str [],.ns] 0 .leaf)):=⟨_,rfl⟩
 have g2 : Grow H1 H2:=by rw [e2]; exact Grow.alloc H1 _
 have n2 : H2.next.toN = H1.next.toN + 1:=by rw [e2]; exact next_alloc H1 _
 have r2 : Row H2 H1.next 85 zs7:=by rw [e2]; exact Row.new H1 85 zs7
 obtain ⟨H3,r3,b3,n3,est3⟩:=r2.st_all (n:=7) (ys:=[.i .i64 5,.b false,.i .i64 0,str [],str [],str [],x]) (by omega) rfl rfl (by intro v hv; simp only [List.mem_cons,List.not_mem_nil,or_false] at hv; rcases hv with rfl | rfl | rfl | rfl | rfl | rfl | rfl <;> first | exact one_i | exact one_b | exact one_str | exact rfl | exact hx)
 have n3' : H3.next.toN = H2.next.toN:=by rw [n3]
 obtain ⟨H4,r4,b4,n4,est4⟩:=r3.st_one (off:=6) (v:=.ns) (by omega) (by show 6 < 7; omega) rfl
 have r4 : Row H4 H1.next 85 [.i .i64 5,.b false,.i .i64 0,str [],str [],str [],.ns]:=r4
 have p1 : Row H3 H.next 85 [.i .i64 5,.b false,.i .i64 0,str [],str [],str [],x]:=(r1.grow g2 (by omega)).but b3 (by omega) (by intro q; rw [← q] at n1; omega)
 have la:=r1.la 7 rfl
 have l0:=p1.l 0 (v:=.i .i64 5) rfl
 have l1:=p1.l 6 (v:=x) rfl
 have k1:=r4.l 1 (v:=.b false) rfl
 have k2:=r4.l 2 (v:=.i .i64 0) rfl
 have k3:=r4.l 3 (v:=str []) rfl
 have k6:=r4.l 6 (v:=.ns) rfl
 have k4 : ∀ (R : Type) (k : HK R),ldC true 2 (.p H1.next 4) k H4 = k (.ag [str [],str []]) H4:=fun R k=>r4.lds (n:=2) (off:=4) (by show 6≤7; omega)
 refine ⟨H4,(b3.trans b4).of (g1.trans g2) (by omega),fun M hM R k=>?_⟩
 obtain ⟨m,rfl⟩ : ∃ m,M = m + 200:=⟨M - 200,by omega⟩
 rw [call_eq L61]
 unfold B61
 simp only [EX,reduceIte,Nat.reduceEqDiff,Nat.reduceAdd,Int.reduceEq,Int.reduceLT,Int.reduceLE,reduceCtorEq,Nat.reduceLeDiff,Nat.reduceSub,Nat.reduceLT]
 rw [← e1]
 simp only [EX,reduceIte,Nat.reduceEqDiff,Nat.reduceAdd,Int.reduceEq,Int.reduceLT,Int.reduceLE,reduceCtorEq,Nat.reduceLeDiff,Nat.reduceSub,Nat.reduceLT,la]
 rw [← e2]
 refine (est3 _ _).trans ?_
 simp only [EX,reduceIte,Nat.reduceEqDiff,Nat.reduceAdd,Int.reduceEq,Int.reduceLT,Int.reduceLE,reduceCtorEq,Nat.reduceLeDiff,Nat.reduceSub,Nat.reduceLT,l0,l1,mkif_one hx]
 refine (est4 _ _).trans ?_
 simp only [EX,reduceIte,Nat.reduceEqDiff,Nat.reduceAdd,Int.reduceEq,Int.reduceLT,Int.reduceLE,reduceCtorEq,Nat.reduceLeDiff,Nat.reduceSub,Nat.reduceLT,k1,k2,k3,k4,k6,flat0,s_neq]
theorem s120 {H : Heap} (hG : Gl H) {u i : List UInt8} (hu : u.length≤40) (hi : Rt i) : Tells 120 2800 [.ag [str u,str i]] H (str (u ++ [58,58] ++ quoB i)):=by
 have hq:=rt_le hi
 obtain ⟨l,hl,hn,rfl⟩:=hi
 rw [quoB_tx hl] at hq ⊢
 obtain ⟨H1,e1⟩ : ∃ H1,H1 = H.alloc (.cells false 0 129 2 (setCells [str u,str (txt l)] 0 .leaf)):=⟨_,rfl⟩
 have g1 : Grow H H1:=by rw [e1]; exact Grow.alloc H _
 have n1 : H1.next.toN = H.next.toN + 1:=by rw [e1]; exact next_alloc H _
 have r1 : Row H1 H.next 129 [str u,str (txt l)]:=by rw [e1]; exact Row.new H 129 [str u,str (txt l)]
 obtain ⟨H2,g2,e2⟩:=s45 hl (by omega) (hG.2.grow g1)
 have r2:=r1.grow g2 (by omega)
 have l1:=r1.l 1 (v:=str (txt l)) rfl
 have l0:=r1.l 0 (v:=str u) rfl
 have l20:=r2.l 0 (v:=str u) rfl
 have hs:=sMax4
 refine ⟨H2,g1.trans g2,fun M hM R k=>?_⟩
 obtain ⟨m,rfl⟩ : ∃ m,M = m + 2800:=⟨M - 2800,by omega⟩
 rw [call_eq L120]
 unfold B120
 simp only [EX,reduceIte,Nat.reduceEqDiff,Nat.reduceAdd,Int.reduceEq,Int.reduceLT,Int.reduceLE,reduceCtorEq,Nat.reduceLeDiff,Nat.reduceSub,Nat.reduceLT]
 rw [← e1]
 simp only [EX,reduceIte,Nat.reduceEqDiff,Nat.reduceAdd,Int.reduceEq,Int.reduceLT,Int.reduceLE,reduceCtorEq,Nat.reduceLeDiff,Nat.reduceSub,Nat.reduceLT,l1]
 rw [e2 _ (by omega)]
 simp only [EX,reduceIte,Nat.reduceEqDiff,Nat.reduceAdd,Int.reduceEq,Int.reduceLT,Int.reduceLE,reduceCtorEq,Nat.reduceLeDiff,Nat.reduceSub,Nat.reduceLT,l0,l20]
 rw [s_add (by show _ + 2≤_; omega)]
 simp only [EX,reduceIte,Nat.reduceEqDiff,Nat.reduceAdd,Int.reduceEq,Int.reduceLT,Int.reduceLE,reduceCtorEq,Nat.reduceLeDiff,Nat.reduceSub,Nat.reduceLT]
 rw [s_add (by rw [List.length_append]; show _ + 2 + _≤_; omega)]
 simp only [EX,reduceIte,Nat.reduceEqDiff,Nat.reduceAdd,Int.reduceEq,Int.reduceLT,Int.reduceLE,reduceCtorEq,Nat.reduceLeDiff,Nat.reduceSub,Nat.reduceLT]
theorem Tells.up {f c c' : Nat} {args : List AV} {H : Heap} {v : AV} (h : Tells f c args H v) (hc : c≤c') : Tells f c' args H v:=by
 obtain ⟨H',g,e⟩:=h
 exact ⟨H',g,fun M hM=>e M (by omega)⟩
/-- A plain value's text. -/
theorem s40p {p : Pl} (hp : p.Ok) {H : Heap} (hG : Gl H) : Tells 40 3200 [.ag p.cs] H (str p.tx):=by
 match p,hp with
 | .b x,_=>exact Tells.up (s40 x) (by omega)
 | .n z,hp =>
  obtain ⟨H1,e1⟩ : ∃ H1,H1 = H.alloc (.cells false 0 85 7 (setCells [.i .i64 2,.b false,.i .i64 z,str [],str [],str [],.ns] 0 .leaf)):=⟨_,rfl⟩
  have g1 : Grow H H1:=by rw [e1]; exact Grow.alloc H _
  have r1 : Row H1 H.next 85 [.i .i64 2,.b false,.i .i64 z,str [],str [],str [],.ns]:=by rw [e1]; exact Row.new H 85 [.i .i64 2,.b false,.i .i64 z,str [],str [],str [],.ns]
  have la:=r1.la 7 rfl
  obtain ⟨H2,g2,e2⟩:=s61_n (H:=H1) z
  obtain ⟨H3,g3,e3⟩:=s44z hp.1 hp.2 ((hG.grow g1).grow g2).1
  refine ⟨H3,(g1.trans g2).trans g3,fun M hM R k=>?_⟩
  obtain ⟨m,rfl⟩ : ∃ m,M = m + 3200:=⟨M - 3200,by omega⟩
  rw [call_eq L40]
  unfold B40
  show runK tbl _ R _ (frame0 [.ag [.i .i64 2,.b false,.i .i64 z,str [],str [],str [],.ns]] 0 .leaf) H _ = _
  simp only [EX,reduceIte,Nat.reduceEqDiff,Nat.reduceAdd,Int.reduceEq,Int.reduceLT,Int.reduceLE,reduceCtorEq,Nat.reduceLeDiff,Nat.reduceSub,Nat.reduceLT]
  rw [← e1]
  simp only [EX,reduceIte,Nat.reduceEqDiff,Nat.reduceAdd,Int.reduceEq,Int.reduceLT,Int.reduceLE,reduceCtorEq,Nat.reduceLeDiff,Nat.reduceSub,Nat.reduceLT,la]
  rw [e2 _ (by omega)]
  simp only [EX,reduceIte,Nat.reduceEqDiff,Nat.reduceAdd,Int.reduceEq,Int.reduceLT,Int.reduceLE,reduceCtorEq,Nat.reduceLeDiff,Nat.reduceSub,Nat.reduceLT,lk127,lk128,lk129,lk130]
  rw [call_eq L114]
  unfold B114
  simp only [EX,reduceIte,Nat.reduceEqDiff,Nat.reduceAdd,Int.reduceEq,Int.reduceLT,Int.reduceLE,reduceCtorEq,Nat.reduceLeDiff,Nat.reduceSub,Nat.reduceLT]
  rw [e3 _ (by omega)]
  simp only [EX,reduceIte,Nat.reduceEqDiff,Nat.reduceAdd,Int.reduceEq,Int.reduceLT,Int.reduceLE,reduceCtorEq,Nat.reduceLeDiff,Nat.reduceSub,Nat.reduceLT]
  exact rfl
 | .s s,hp =>
  obtain ⟨H1,e1⟩ : ∃ H1,H1 = H.alloc (.cells false 0 85 7 (setCells [.i .i64 3,.b false,.i .i64 0,str s,str [],str [],.ns] 0 .leaf)):=⟨_,rfl⟩
  have g1 : Grow H H1:=by rw [e1]; exact Grow.alloc H _
  have r1 : Row H1 H.next 85 [.i .i64 3,.b false,.i .i64 0,str s,str [],str [],.ns]:=by rw [e1]; exact Row.new H 85 [.i .i64 3,.b false,.i .i64 0,str s,str [],str [],.ns]
  have la:=r1.la 7 rfl
  obtain ⟨H2,g2,e2⟩:=s61_s (H:=H1) s
  obtain ⟨H3,g3,e3⟩:=(show Tells 45 2600 [str s] H2 (str (quoB s)) by obtain ⟨l,hl,hn,rfl⟩:=hp; rw [quoB_tx hl]; exact s45 hl (by omega) ((hG.grow g1).grow g2).2)
  refine ⟨H3,(g1.trans g2).trans g3,fun M hM R k=>?_⟩
  obtain ⟨m,rfl⟩ : ∃ m,M = m + 3200:=⟨M - 3200,by omega⟩
  rw [call_eq L40]
  unfold B40
  show runK tbl _ R _ (frame0 [.ag [.i .i64 3,.b false,.i .i64 0,str s,str [],str [],.ns]] 0 .leaf) H _ = _
  simp only [EX,reduceIte,Nat.reduceEqDiff,Nat.reduceAdd,Int.reduceEq,Int.reduceLT,Int.reduceLE,reduceCtorEq,Nat.reduceLeDiff,Nat.reduceSub,Nat.reduceLT]
  rw [← e1]
  simp only [EX,reduceIte,Nat.reduceEqDiff,Nat.reduceAdd,Int.reduceEq,Int.reduceLT,Int.reduceLE,reduceCtorEq,Nat.reduceLeDiff,Nat.reduceSub,Nat.reduceLT,la]
  rw [e2 _ (by omega)]
  simp only [EX,reduceIte,Nat.reduceEqDiff,Nat.reduceAdd,Int.reduceEq,Int.reduceLT,Int.reduceLE,reduceCtorEq,Nat.reduceLeDiff,Nat.reduceSub,Nat.reduceLT,lk127,lk128,lk129,lk130]
  rw [call_eq L117]
  unfold B117
  simp only [EX,reduceIte,Nat.reduceEqDiff,Nat.reduceAdd,Int.reduceEq,Int.reduceLT,Int.reduceLE,reduceCtorEq,Nat.reduceLeDiff,Nat.reduceSub,Nat.reduceLT]
  rw [e3 _ (by omega)]
  simp only [EX,reduceIte,Nat.reduceEqDiff,Nat.reduceAdd,Int.reduceEq,Int.reduceLT,Int.reduceLE,reduceCtorEq,Nat.reduceLeDiff,Nat.reduceSub,Nat.reduceLT]
  exact rfl
 | .u a b,hp =>
  obtain ⟨H1,e1⟩ : ∃ H1,H1 = H.alloc (.cells false 0 85 7 (setCells [.i .i64 4,.b false,.i .i64 0,str [],str a,str b,.ns] 0 .leaf)):=⟨_,rfl⟩
  have g1 : Grow H H1:=by rw [e1]; exact Grow.alloc H _
  have r1 : Row H1 H.next 85 [.i .i64 4,.b false,.i .i64 0,str [],str a,str b,.ns]:=by rw [e1]; exact Row.new H 85 [.i .i64 4,.b false,.i .i64 0,str [],str a,str b,.ns]
  have la:=r1.la 7 rfl
  obtain ⟨H2,g2,e2⟩:=s61_u (H:=H1) a b
  obtain ⟨H3,g3,e3⟩:=s120 ((hG.grow g1).grow g2) hp.1 hp.2
  refine ⟨H3,(g1.trans g2).trans g3,fun M hM R k=>?_⟩
  obtain ⟨m,rfl⟩ : ∃ m,M = m + 3200:=⟨M - 3200,by omega⟩
  rw [call_eq L40]
  unfold B40
  show runK tbl _ R _ (frame0 [.ag [.i .i64 4,.b false,.i .i64 0,str [],str a,str b,.ns]] 0 .leaf) H _ = _
  simp only [EX,reduceIte,Nat.reduceEqDiff,Nat.reduceAdd,Int.reduceEq,Int.reduceLT,Int.reduceLE,reduceCtorEq,Nat.reduceLeDiff,Nat.reduceSub,Nat.reduceLT]
  rw [← e1]
  simp only [EX,reduceIte,Nat.reduceEqDiff,Nat.reduceAdd,Int.reduceEq,Int.reduceLT,Int.reduceLE,reduceCtorEq,Nat.reduceLeDiff,Nat.reduceSub,Nat.reduceLT,la]
  rw [e2 _ (by omega)]
  simp only [EX,reduceIte,Nat.reduceEqDiff,Nat.reduceAdd,Int.reduceEq,Int.reduceLT,Int.reduceLE,reduceCtorEq,Nat.reduceLeDiff,Nat.reduceSub,Nat.reduceLT,lk127,lk128,lk129,lk130]
  rw [e3 _ (by omega)]
  exact rfl
def F123 (x : AV) (n i : Nat) (y : AV) (fr : Tr AV) : Prop:=V fr 3 = y∧V fr 6 = x∧V fr 7 = .i .i64 (n : Int)∧V fr 8 = .i .i64 (i : Int)
theorem loop123 {H0 : Heap} (hG : Gl H0) {x : AV} {l : List Pl} (hx : Lst 7 PlP Any H0 x l) (h8 : l.length≤8) :
  ∃ H' xo,Txs H0 H' xo (l.map Pl.tx)∧∀ fr,F123 x l.length 0 .ns fr→∀ M,3600 + l.length≤M→∀ (R : Type) (k : XK R) (res : Option R),(∀ fr',F123 x l.length l.length xo fr'→k (.exit 0) fr' H' = res)→runK tbl M R Lp123 fr H0 k = res:=by
 have G:=loop_cps (Lp:=Lp123) (ex:=0) (n:=l.length) (c:=3600) (St:=AV) (fun i H y=>Txs H0 H y ((l.take i).map Pl.tx)) (fun i y fr=>F123 x l.length i y fr) ?hend ?hstep l.length 0 H0 .ns (by omega) (Txs.init H0)
 case hend =>
  rintro H y P fr ⟨f3,f6,f7,f8⟩ M hM R k res hr
  obtain ⟨m,rfl⟩ : ∃ m,M = m + 100:=⟨M - 100,by omega⟩
  unfold Lp123
  rw [run_loop]
  simp only [EX,reduceIte,Nat.reduceEqDiff,Nat.reduceAdd,Int.reduceEq,Int.reduceLT,Int.reduceLE,reduceCtorEq,Nat.reduceLeDiff,Nat.reduceSub,Nat.reduceLT,f7,f8,Int.lt_irrefl]
  exact hr _ ⟨by simp only [V_S,Nat.reduceEqDiff,reduceIte]; exact f3,by simp only [V_S,Nat.reduceEqDiff,reduceIte]; exact f6,by simp only [V_S,Nat.reduceEqDiff,reduceIte]; exact f7,by simp only [V_S,Nat.reduceEqDiff,reduceIte]; exact f8⟩
 case hstep =>
  rintro i H y hi P
  have hil : l[i]? = some l[i]:=List.getElem?_eq_getElem hi
  obtain ⟨a,o,bs,⟨hok,rfl⟩,ha,eix,_,eld⟩:=hx.at plP hil
  have ld1 : ∀ (R : Type) (c : HK R),ldC true 7 (.p a o) c H = c (.ag l[i].cs) H:=eld H P.g 0 7 (by omega)
  obtain ⟨H1,e1⟩ : ∃ H1,H1 = H.alloc (.cells false 0 85 7 (setCells [.i .i64 0,.b false,.i .i64 0,str [],str [],str [],.ns] 0 .leaf)):=⟨_,rfl⟩
  have g1 : Grow H H1:=by rw [e1]; exact Grow.alloc H _
  have n1 : H1.next.toN = H.next.toN + 1:=by rw [e1]; exact next_alloc H _
  have r1 : Row H1 H.next 85 zs7:=by rw [e1]; exact Row.new H 85 zs7
  obtain ⟨H2,r2,b2,n2,est⟩:=r1.st_all (n:=7) (ys:=l[i].cs) (by omega) rfl rfl (fun v hv=>(Pl.one _ v hv).1)
  have g2 : Grow H H2:=b2.of g1 (Nat.le_refl _)
  have la:=r2.la 7 rfl
  obtain ⟨H3,g3,e40⟩:=s40p hok (hG.grow (P.g.trans g2))
  obtain ⟨H4,e4⟩ : ∃ H4,H4 = H3.alloc (.cells false 0 9 1 (setCells [str l[i].tx] 0 .leaf)):=⟨_,rfl⟩
  have g4 : Grow H3 H4:=by rw [e4]; exact Grow.alloc H3 _
  have r4 : Row H4 H3.next 9 [str l[i].tx]:=by rw [e4]; exact Row.new H3 9 [str l[i].tx]
  obtain ⟨H5,x5,P5,eapp⟩:=P.add ((g2.trans g3).trans g4) r4 (by rw [List.length_map,List.length_take]; omega)
  have hlt : (i : Int) < (l.length : Int):=by omega
  have hw:=inc_i (show i < 1000 by omega)
  refine ⟨H5,x5,by rw [List.take_add_one,hil,List.map_append]; exact P5,?_⟩
  rintro fr ⟨f3,f6,f7,f8⟩ M hM R k res hr
  obtain ⟨m,rfl⟩ : ∃ m,M = m + 3600:=⟨M - 3600,by omega⟩
  unfold Lp123
  rw [run_loop]
  simp only [EX,reduceIte,Nat.reduceEqDiff,Nat.reduceAdd,Int.reduceEq,Int.reduceLT,Int.reduceLE,reduceCtorEq,Nat.reduceLeDiff,Nat.reduceSub,Nat.reduceLT,f3,f6,f7,f8,hlt,eix,ld1]
  rw [← e1]
  refine (est _ _).trans ?_
  simp only [EX,reduceIte,Nat.reduceEqDiff,Nat.reduceAdd,Int.reduceEq,Int.reduceLT,Int.reduceLE,reduceCtorEq,Nat.reduceLeDiff,Nat.reduceSub,Nat.reduceLT,f3,la]
  rw [e40 _ (by omega)]
  simp only [EX,reduceIte,Nat.reduceEqDiff,Nat.reduceAdd,Int.reduceEq,Int.reduceLT,Int.reduceLE,reduceCtorEq,Nat.reduceLeDiff,Nat.reduceSub,Nat.reduceLT,f3]
  rw [← e4,eapp]
  simp only [EX,reduceIte,Nat.reduceEqDiff,Nat.reduceAdd,Int.reduceEq,Int.reduceLT,Int.reduceLE,reduceCtorEq,Nat.reduceLeDiff,Nat.reduceSub,Nat.reduceLT,f8,i_add,hw]
  exact hr _ ⟨by simp only [V_S,Nat.reduceEqDiff,reduceIte],by simp only [V_S,Nat.reduceEqDiff,reduceIte]; exact f6,by simp only [V_S,Nat.reduceEqDiff,reduceIte]; exact f7,by simp only [V_S,Nat.reduceEqDiff,reduceIte]⟩
 obtain ⟨H',xo,P,e⟩:=G
 rw [List.take_length] at P
 exact ⟨H',xo,P,e⟩
theorem sum_tx {l : List Pl} (h : ∀ p ∈ l,p.Ok) : sumL (l.map Pl.tx)≤224 * l.length:=by
 induction l with
 | nil=>exact Nat.zero_le _
 | cons p l ih =>
  have h1:=Pl.tx_le (h p (List.mem_cons_self ..))
  have h2:=ih fun q hq=>h q (List.mem_cons_of_mem _ hq)
  rw [List.map_cons,sumL_cons,List.length_cons]; omega
theorem lst_ok {S : Pa→Prop} {H : Heap} {x : AV} {l : List Pl} (h : Lst 7 PlP S H x l) : ∀ p ∈ l,p.Ok:=by
 obtain ⟨rfl,rfl⟩ | ⟨a,off,cp,ro,fz,e,size,c,rfl,_,_,_,_,hd⟩:=h
 ·intro p hp; cases hp
 ·intro p hp
  obtain ⟨j,hj⟩:=List.mem_iff_getElem?.mp hp
  exact (hd j p hj).1
/-- A set's text. -/
def stx (l : List Pl) : List UInt8:=[91] ++ joinS (l.map Pl.tx) ++ [93]
theorem stx_le {l : List Pl} (h : ∀ p ∈ l,p.Ok) (h8 : l.length≤8) : (stx l).length≤2000:=by
 have h1:=joinS_le (l.map Pl.tx)
 have h2:=sum_tx h
 rw [List.length_map] at h1
 unfold stx
 rw [List.length_append,List.length_append]
 show 1 + _ + 1≤2000
 omega
theorem s40l {H : Heap} (hG : Gl H) {x : AV} {l : List Pl} (hx : Lst 7 PlP Any H x l) (h8 : l.length≤8) : Tells 40 6000 [.ag (ec 5 false 0 [] [] [] x)] H (str (stx l)):=by
 have hcell:=hx.cell
 obtain ⟨H1,e1⟩ : ∃ H1,H1 = H.alloc (.cells false 0 85 7 (setCells [.i .i64 5,.b false,.i .i64 0,str [],str [],str [],x] 0 .leaf)):=⟨_,rfl⟩
 have g1 : Grow H H1:=by rw [e1]; exact Grow.alloc H _
 have r1 : Row H1 H.next 85 [.i .i64 5,.b false,.i .i64 0,str [],str [],str [],x]:=by rw [e1]; exact Row.new H 85 [.i .i64 5,.b false,.i .i64 0,str [],str [],str [],x]
 have la:=r1.la 7 rfl
 obtain ⟨H2,g2,e2⟩:=s61_l (H:=H1) hcell.1
 obtain ⟨H3,xo,P,el⟩:=loop123 (hG.grow (g1.trans g2)) (hx.grow plP (g1.trans g2)) h8
 have hs:=sum_tx (lst_ok hx)
 have hroom : (3000 : Nat)≤roomN:=by decide
 have hsm : (3000 : Nat)≤sMax:=by decide
 obtain ⟨H4,g4,e35⟩:=s35 P.strs (by rw [List.length_map]; omega) (by rw [List.length_map]; omega)
 have hj:=joinS_le (l.map Pl.tx)
 rw [List.length_map] at hj
 refine ⟨H4,(g1.trans g2).trans (P.g.trans g4),fun M hM R k=>?_⟩
 obtain ⟨m,rfl⟩ : ∃ m,M = m + 6000:=⟨M - 6000,by omega⟩
 rw [call_eq L40]
 unfold B40
 show runK tbl _ R _ (frame0 [.ag [.i .i64 5,.b false,.i .i64 0,str [],str [],str [],x]] 0 .leaf) H _ = _
 simp only [EX,reduceIte,Nat.reduceEqDiff,Nat.reduceAdd,Int.reduceEq,Int.reduceLT,Int.reduceLE,reduceCtorEq,Nat.reduceLeDiff,Nat.reduceSub,Nat.reduceLT]
 rw [← e1]
 simp only [EX,reduceIte,Nat.reduceEqDiff,Nat.reduceAdd,Int.reduceEq,Int.reduceLT,Int.reduceLE,reduceCtorEq,Nat.reduceLeDiff,Nat.reduceSub,Nat.reduceLT,la]
 rw [e2 _ (by omega)]
 simp only [EX,reduceIte,Nat.reduceEqDiff,Nat.reduceAdd,Int.reduceEq,Int.reduceLT,Int.reduceLE,reduceCtorEq,Nat.reduceLeDiff,Nat.reduceSub,Nat.reduceLT,lk130]
 rw [call_eq L123]
 unfold B123
 simp only [EX,reduceIte,Nat.reduceEqDiff,Nat.reduceAdd,Int.reduceEq,Int.reduceLT,Int.reduceLE,reduceCtorEq,Nat.reduceLeDiff,Nat.reduceSub,Nat.reduceLT,hx.len]
 refine el _ ?ff _ ?hm R _ _ ?ee
 case ff=>exact ⟨by simp only [V_S,Nat.reduceEqDiff,reduceIte],by simp only [V_S,Nat.reduceEqDiff,reduceIte],by simp only [V_S,Nat.reduceEqDiff,reduceIte],by (simp only [V_S,Nat.reduceEqDiff,reduceIte]) <;> rfl⟩
 case hm=>omega
 case ee =>
  rintro fr' ⟨c3,c6,c7,c8⟩
  simp only [EX,reduceIte,Nat.reduceEqDiff,Nat.reduceAdd,Int.reduceEq,Int.reduceLT,Int.reduceLE,reduceCtorEq,Nat.reduceLeDiff,Nat.reduceSub,Nat.reduceLT,c3]
  rw [e35 _ (by omega)]
  simp only [EX,reduceIte,Nat.reduceEqDiff,Nat.reduceAdd,Int.reduceEq,Int.reduceLT,Int.reduceLE,reduceCtorEq,Nat.reduceLeDiff,Nat.reduceSub,Nat.reduceLT]
  rw [s_add (by show 1 + _≤_; omega)]
  simp only [EX,reduceIte,Nat.reduceEqDiff,Nat.reduceAdd,Int.reduceEq,Int.reduceLT,Int.reduceLE,reduceCtorEq,Nat.reduceLeDiff,Nat.reduceSub,Nat.reduceLT]
  rw [s_add (by rw [List.length_append]; show 1 + _ + 1≤_; omega)]
  simp only [EX,reduceIte,Nat.reduceEqDiff,Nat.reduceAdd,Int.reduceEq,Int.reduceLT,Int.reduceLE,reduceCtorEq,Nat.reduceLeDiff,Nat.reduceSub,Nat.reduceLT]
  exact rfl
end Go.Proofs.YtmmmjhkgjmbfaaaDoor

/- A value's text,the document's (chancelref3.Text). -/
namespace Go.Proofs.YtmmmjhkgjmbfaaaDoor
open Go Go.Vai
set_option maxRecDepth 100000
set_option maxHeartbeats 1600000
set_option linter.unusedSimpArgs false
theorem joinS_end (ts : List (List UInt8)) (s : List UInt8) : joinS (ts ++ [s]) = if ts = [] then s else joinS ts ++ [44,32] ++ s:=by
 cases ts with
 | nil=>show s ++ [] = _; simp
 | cons t ts =>
  rw [if_neg (by simp)]
  show t ++ joinT (ts ++ [s]) = t ++ joinT ts ++ [44,32] ++ s
  rw [joinT_app]
  show t ++ (joinT ts ++ ([44,32] ++ s ++ [])) = _
  simp
theorem box1 (e : Nat) (H : Heap) (cs : List AV) : ∃ H1,H1 = H.alloc (.cells false 0 e cs.length (setCells cs 0 .leaf))∧Grow H H1∧Row H1 H.next e cs∧H1.next.toN = H.next.toN + 1 :=
 ⟨_,rfl,Grow.alloc H _,Row.new H e cs,next_alloc H _⟩
/-- A plain value's text. -/
theorem s41p {p : Pl} (hp : p.Ok) (H : Heap) : Tells 41 1900 [.ag p.cs] H (str p.tx):=by
 obtain ⟨H1,e1,g1,r1,n1⟩:=box1 85 H p.cs
 obtain ⟨a0,a1,a2,a3,a4,a6⟩:=Bx.of r1
 match p,hp,e1,r1,a0,a1,a2,a3,a4 with
 | .b true,hp,e1,r1,a0,a1,a2,a3,a4 =>
  have a0 : ∀ (R : Type) (k : HK R),ldC false 1 (.p H.next 0) k H1 = k (.i .i64 1) H1:=a0
  have b1 : ∀ (R : Type) (k : HK R),ldC false 1 (.p H.next 1) k H1 = k (.b true) H1:=a1
  refine ⟨H1,g1,fun M hM R k=>?_⟩
  obtain ⟨m,rfl⟩ : ∃ m,M = m + 1900:=⟨M - 1900,by omega⟩
  rw [call_eq L41]
  unfold B41
  simp only [EX,reduceIte,Nat.reduceEqDiff,Nat.reduceAdd,Int.reduceEq,Int.reduceLT,Int.reduceLE,reduceCtorEq,Nat.reduceLeDiff,Nat.reduceSub,Nat.reduceLT]
  rw [← e1]
  simp only [EX,reduceIte,Nat.reduceEqDiff,Nat.reduceAdd,Int.reduceEq,Int.reduceLT,Int.reduceLE,reduceCtorEq,Nat.reduceLeDiff,Nat.reduceSub,Nat.reduceLT,a0,b1]
  exact rfl
 | .b false,hp,e1,r1,a0,a1,a2,a3,a4 =>
  have a0 : ∀ (R : Type) (k : HK R),ldC false 1 (.p H.next 0) k H1 = k (.i .i64 1) H1:=a0
  have b1 : ∀ (R : Type) (k : HK R),ldC false 1 (.p H.next 1) k H1 = k (.b false) H1:=a1
  refine ⟨H1,g1,fun M hM R k=>?_⟩
  obtain ⟨m,rfl⟩ : ∃ m,M = m + 1900:=⟨M - 1900,by omega⟩
  rw [call_eq L41]
  unfold B41
  simp only [EX,reduceIte,Nat.reduceEqDiff,Nat.reduceAdd,Int.reduceEq,Int.reduceLT,Int.reduceLE,reduceCtorEq,Nat.reduceLeDiff,Nat.reduceSub,Nat.reduceLT]
  rw [← e1]
  simp only [EX,reduceIte,Nat.reduceEqDiff,Nat.reduceAdd,Int.reduceEq,Int.reduceLT,Int.reduceLE,reduceCtorEq,Nat.reduceLeDiff,Nat.reduceSub,Nat.reduceLT,a0,b1]
  exact rfl
 | .n z,hp,e1,r1,a0,a1,a2,a3,a4 =>
  have a0 : ∀ (R : Type) (k : HK R),ldC false 1 (.p H.next 0) k H1 = k (.i .i64 2) H1:=a0
  have b1 : ∀ (R : Type) (k : HK R),ldC false 1 (.p H.next 2) k H1 = k (.i .i64 z) H1:=a2
  obtain ⟨H2,g2,e2⟩:=s24z hp.1 hp.2 H1
  refine ⟨H2,g1.trans g2,fun M hM R k=>?_⟩
  obtain ⟨m,rfl⟩ : ∃ m,M = m + 1900:=⟨M - 1900,by omega⟩
  rw [call_eq L41]
  unfold B41
  simp only [EX,reduceIte,Nat.reduceEqDiff,Nat.reduceAdd,Int.reduceEq,Int.reduceLT,Int.reduceLE,reduceCtorEq,Nat.reduceLeDiff,Nat.reduceSub,Nat.reduceLT]
  rw [← e1]
  simp only [EX,reduceIte,Nat.reduceEqDiff,Nat.reduceAdd,Int.reduceEq,Int.reduceLT,Int.reduceLE,reduceCtorEq,Nat.reduceLeDiff,Nat.reduceSub,Nat.reduceLT,a0,b1]
  rw [e2 _ (by omega)]
  simp only [EX,reduceIte,Nat.reduceEqDiff,Nat.reduceAdd,Int.reduceEq,Int.reduceLT,Int.reduceLE,reduceCtorEq,Nat.reduceLeDiff,Nat.reduceSub,Nat.reduceLT]
  exact rfl
 | .s s,hp,e1,r1,a0,a1,a2,a3,a4 =>
  have a0 : ∀ (R : Type) (k : HK R),ldC false 1 (.p H.next 0) k H1 = k (.i .i64 3) H1:=a0
  have b1 : ∀ (R : Type) (k : HK R),ldC false 1 (.p H.next 3) k H1 = k (str s) H1:=a3
  have e2 : ∀ M,1500≤M→∀ (R : Type) (k : HK R),callK tbl (runK tbl M) R (toPa 25) [str s] H1 k = k (str (quoB s)) H1:=by
   obtain ⟨l,hl,hn,rfl⟩:=hp
   intro M hM R k
   rw [quoB_tx hl]
   exact s25q hl (by omega) hM H1 k
  refine ⟨H1,g1,fun M hM R k=>?_⟩
  obtain ⟨m,rfl⟩ : ∃ m,M = m + 1900:=⟨M - 1900,by omega⟩
  rw [call_eq L41]
  unfold B41
  simp only [EX,reduceIte,Nat.reduceEqDiff,Nat.reduceAdd,Int.reduceEq,Int.reduceLT,Int.reduceLE,reduceCtorEq,Nat.reduceLeDiff,Nat.reduceSub,Nat.reduceLT]
  rw [← e1]
  simp only [EX,reduceIte,Nat.reduceEqDiff,Nat.reduceAdd,Int.reduceEq,Int.reduceLT,Int.reduceLE,reduceCtorEq,Nat.reduceLeDiff,Nat.reduceSub,Nat.reduceLT,a0,b1]
  rw [e2 _ (by omega)]
  simp only [EX,reduceIte,Nat.reduceEqDiff,Nat.reduceAdd,Int.reduceEq,Int.reduceLT,Int.reduceLE,reduceCtorEq,Nat.reduceLeDiff,Nat.reduceSub,Nat.reduceLT]
  exact rfl
 | .u a b,hp,e1,r1,a0,a1,a2,a3,a4 =>
  have a0 : ∀ (R : Type) (k : HK R),ldC false 1 (.p H.next 0) k H1 = k (.i .i64 4) H1:=a0
  have b1 : ∀ (R : Type) (k : HK R),ldC true 2 (.p H.next 4) k H1 = k (.ag [str a,str b]) H1:=a4
  obtain ⟨H2,g2,e2⟩:=s52r (H:=H1) hp.1 hp.2
  refine ⟨H2,g1.trans g2,fun M hM R k=>?_⟩
  obtain ⟨m,rfl⟩ : ∃ m,M = m + 1900:=⟨M - 1900,by omega⟩
  rw [call_eq L41]
  unfold B41
  simp only [EX,reduceIte,Nat.reduceEqDiff,Nat.reduceAdd,Int.reduceEq,Int.reduceLT,Int.reduceLE,reduceCtorEq,Nat.reduceLeDiff,Nat.reduceSub,Nat.reduceLT]
  rw [← e1]
  simp only [EX,reduceIte,Nat.reduceEqDiff,Nat.reduceAdd,Int.reduceEq,Int.reduceLT,Int.reduceLE,reduceCtorEq,Nat.reduceLeDiff,Nat.reduceSub,Nat.reduceLT,a0,b1]
  rw [e2 _ (by omega)]
  simp only [EX,reduceIte,Nat.reduceEqDiff,Nat.reduceAdd,Int.reduceEq,Int.reduceLT,Int.reduceLE,reduceCtorEq,Nat.reduceLeDiff,Nat.reduceSub,Nat.reduceLT]
  exact rfl
def F41 (b : Pa) (i : Nat) (s : List UInt8) (fr : Tr AV) : Prop:=V fr 1 = .p b 0∧V fr 3 = str s∧V fr 4 = .i .i64 (i : Int)
theorem take_snoc {α : Type} {l : List α} {i : Nat} (h : i < l.length) : l.take (i + 1) = l.take i ++ [l[i]]:=by
 rw [List.take_add_one,List.getElem?_eq_getElem h]; rfl
theorem take_nil_iff {α : Type} {l : List α} {i : Nat} (h : i < l.length) : l.take i = [] ↔ i = 0:=by
 constructor
 ·intro e
  have:=congrArg List.length e
  rw [List.length_take] at this
  have : ([] : List α).length = 0:=rfl
  omega
 ·rintro rfl; rfl
theorem loop41 {H0 : Heap} {x : AV} {l : List Pl} (hx : Lst 7 PlP Any H0 x l) (h8 : l.length≤8) {b : Pa} (hb : b.toN < H0.next.toN) (hr : Row H0 b 85 (ec 5 false 0 [] [] [] x)) :
  ∃ H',Grow H0 H'∧∀ fr,F41 b 0 [91] fr→∀ M,2100 + l.length≤M→∀ (R : Type) (k : XK R) (res : Option R),(∀ fr',F41 b l.length ([91] ++ joinS (l.map Pl.tx)) fr'→k (.exit 1) fr' H' = res)→runK tbl M R Lp41 fr H0 k = res:=by
 have G:=loop_cps (Lp:=Lp41) (ex:=1) (n:=l.length) (c:=2100) (St:=Unit) (fun i H _=>Grow H0 H) (fun i _ fr=>F41 b i ([91] ++ joinS ((l.take i).map Pl.tx)) fr) ?hend ?hstep l.length 0 H0 () (by omega) (Grow.refl H0)
 case hend =>
  rintro H _ g fr ⟨f1,f3,f4⟩ M hM R k res hr'
  obtain ⟨m,rfl⟩ : ∃ m,M = m + 100:=⟨M - 100,by omega⟩
  have l6:=(hr.grow g hb).l 6 (v:=x) rfl
  unfold Lp41
  rw [run_loop]
  simp only [EX,reduceIte,Nat.reduceEqDiff,Nat.reduceAdd,Int.reduceEq,Int.reduceLT,Int.reduceLE,reduceCtorEq,Nat.reduceLeDiff,Nat.reduceSub,Nat.reduceLT,f1,f4,l6,hx.len,Int.lt_irrefl]
  exact hr' _ ⟨by simp only [V_S,Nat.reduceEqDiff,reduceIte]; exact f1,by simp only [V_S,Nat.reduceEqDiff,reduceIte]; exact f3,by simp only [V_S,Nat.reduceEqDiff,reduceIte]; exact f4⟩
 case hstep =>
  rintro i H _ hi g
  have hil : l[i]? = some l[i]:=List.getElem?_eq_getElem hi
  obtain ⟨a,o,bs,⟨hok,rfl⟩,ha,eix,_,eld⟩:=hx.at plP hil
  have ld1 : ∀ (R : Type) (c : HK R),ldC true 7 (.p a o) c H = c (.ag l[i].cs) H:=eld H g 0 7 (by omega)
  obtain ⟨H1,g1,e41⟩:=s41p hok H
  have l6:=(hr.grow g hb).l 6 (v:=x) rfl
  have hlt : (i : Int) < (l.length : Int):=by omega
  have hw:=inc_i (show i < 1000 by omega)
  have hsm : (5000 : Nat)≤sMax:=by decide
  have ht:=Pl.tx_le hok
  have hjl:=joinS_le ((l.take i).map Pl.tx)
  have hsum : sumL ((l.take i).map Pl.tx)≤224 * (l.take i).length:=sum_tx fun p hp=>lst_ok hx p (List.mem_of_mem_take hp)
  rw [List.length_map] at hjl
  have htl : (l.take i).length≤8:=by rw [List.length_take]; omega
  have es : joinS ((l.take (i + 1)).map Pl.tx) = if i = 0 then l[i].tx else joinS ((l.take i).map Pl.tx) ++ [44,32] ++ l[i].tx:=by
   rw [take_snoc hi,List.map_append]
   show joinS (_ ++ [l[i].tx]) = _
   rw [joinS_end]
   simp only [List.map_eq_nil_iff,take_nil_iff hi]
  refine ⟨H1,(),g.trans g1,?_⟩
  rintro fr ⟨f1,f3,f4⟩ M hM R k res hr'
  obtain ⟨m,rfl⟩ : ∃ m,M = m + 2100:=⟨M - 2100,by omega⟩
  unfold Lp41
  rw [run_loop]
  by_cases h0 : i = 0
  ·have h0' : ¬ (0 : Int) < (i : Int):=by omega
   rw [if_pos h0] at es
   rw [es] at hr'
   subst h0
   simp only [EX,reduceIte,Nat.reduceEqDiff,Nat.reduceAdd,Int.reduceEq,Int.reduceLT,Int.reduceLE,reduceCtorEq,Nat.reduceLeDiff,Nat.reduceSub,Nat.reduceLT,f1,f3,f4,l6,hx.len,hlt,h0',eix,ld1]
   rw [e41 _ (by omega)]
   simp only [EX,reduceIte,Nat.reduceEqDiff,Nat.reduceAdd,Int.reduceEq,Int.reduceLT,Int.reduceLE,reduceCtorEq,Nat.reduceLeDiff,Nat.reduceSub,Nat.reduceLT]
   rw [s_add (by show 1 + _≤_; omega)]
   simp only [EX,reduceIte,Nat.reduceEqDiff,Nat.reduceAdd,Int.reduceEq,Int.reduceLT,Int.reduceLE,reduceCtorEq,Nat.reduceLeDiff,Nat.reduceSub,Nat.reduceLT,f4,i_add,hw]
   exact hr' _ ⟨by simp only [V_S,Nat.reduceEqDiff,reduceIte]; exact f1,by simp only [V_S,Nat.reduceEqDiff,reduceIte]; rfl,by simp only [V_S,Nat.reduceEqDiff,reduceIte]⟩
  ·have h0' : (0 : Int) < (i : Int):=by omega
   rw [if_neg h0] at es
   rw [es] at hr'
   simp only [EX,reduceIte,Nat.reduceEqDiff,Nat.reduceAdd,Int.reduceEq,Int.reduceLT,Int.reduceLE,reduceCtorEq,Nat.reduceLeDiff,Nat.reduceSub,Nat.reduceLT,f1,f3,f4,l6,hx.len,hlt,h0']
   rw [s_add (by rw [List.length_append]; show 1 + _ + 2≤_; omega)]
   simp only [EX,reduceIte,Nat.reduceEqDiff,Nat.reduceAdd,Int.reduceEq,Int.reduceLT,Int.reduceLE,reduceCtorEq,Nat.reduceLeDiff,Nat.reduceSub,Nat.reduceLT,f1,f4,l6,eix,ld1]
   rw [e41 _ (by omega)]
   simp only [EX,reduceIte,Nat.reduceEqDiff,Nat.reduceAdd,Int.reduceEq,Int.reduceLT,Int.reduceLE,reduceCtorEq,Nat.reduceLeDiff,Nat.reduceSub,Nat.reduceLT]
   rw [s_add (by rw [List.length_append,List.length_append]; show 1 + _ + 2 + _≤_; omega)]
   simp only [EX,reduceIte,Nat.reduceEqDiff,Nat.reduceAdd,Int.reduceEq,Int.reduceLT,Int.reduceLE,reduceCtorEq,Nat.reduceLeDiff,Nat.reduceSub,Nat.reduceLT,f4,i_add,hw]
   exact hr' _ ⟨by simp only [V_S,Nat.reduceEqDiff,reduceIte]; exact f1,by simp only [V_S,Nat.reduceEqDiff,reduceIte]; simp,by simp only [V_S,Nat.reduceEqDiff,reduceIte]⟩
 obtain ⟨H',_,g,e⟩:=G
 rw [List.take_length] at e
 exact ⟨H',g,e⟩
theorem s41l {H : Heap} {x : AV} {l : List Pl} (hx : Lst 7 PlP Any H x l) (h8 : l.length≤8) : Tells 41 3000 [.ag (ec 5 false 0 [] [] [] x)] H (str (stx l)):=by
 obtain ⟨H1,e1,g1,r1,n1⟩:=box1 85 H (ec 5 false 0 [] [] [] x)
 have a0:=r1.l 0 (v:=.i .i64 5) rfl
 obtain ⟨H2,g2,el⟩:=loop41 (hx.grow plP g1) h8 (by omega) r1
 have hs:=stx_le (lst_ok hx) h8
 unfold stx at hs
 rw [List.length_append] at hs
 have hsm : (5000 : Nat)≤sMax:=by decide
 refine ⟨H2,g1.trans g2,fun M hM R k=>?_⟩
 obtain ⟨m,rfl⟩ : ∃ m,M = m + 3000:=⟨M - 3000,by omega⟩
 rw [call_eq L41]
 unfold B41
 simp only [EX,reduceIte,Nat.reduceEqDiff,Nat.reduceAdd,Int.reduceEq,Int.reduceLT,Int.reduceLE,reduceCtorEq,Nat.reduceLeDiff,Nat.reduceSub,Nat.reduceLT]
 rw [← e1]
 simp only [EX,reduceIte,Nat.reduceEqDiff,Nat.reduceAdd,Int.reduceEq,Int.reduceLT,Int.reduceLE,reduceCtorEq,Nat.reduceLeDiff,Nat.reduceSub,Nat.reduceLT,a0]
 refine el _ ?ff _ ?hm R _ _ ?ee
 case ff=>exact ⟨by simp only [V_S,Nat.reduceEqDiff,reduceIte],by simp only [V_S,Nat.reduceEqDiff,reduceIte],by (simp only [V_S,Nat.reduceEqDiff,reduceIte]) <;> rfl⟩
 case hm=>omega
 case ee =>
  rintro fr' ⟨c1,c3,c4⟩
  simp only [EX,reduceIte,Nat.reduceEqDiff,Nat.reduceAdd,Int.reduceEq,Int.reduceLT,Int.reduceLE,reduceCtorEq,Nat.reduceLeDiff,Nat.reduceSub,Nat.reduceLT,c3]
  rw [s_add (by show _ + 1≤_; have : ([93] : List UInt8).length = 1:=rfl; omega)]
  simp only [EX,reduceIte,Nat.reduceEqDiff,Nat.reduceAdd,Int.reduceEq,Int.reduceLT,Int.reduceLE,reduceCtorEq,Nat.reduceLeDiff,Nat.reduceSub,Nat.reduceLT]
  exact rfl
end Go.Proofs.YtmmmjhkgjmbfaaaDoor

/- An entity (chancellaw5.Entity): its parents; what is in memory of values,attributes. -/
namespace Go.Proofs.YtmmmjhkgjmbfaaaDoor
open Go Go.Vai
set_option maxRecDepth 100000
set_option maxHeartbeats 1600000
set_option linter.unusedSimpArgs false
/-- A value: a plain one,or a set of some. -/
inductive Va where
 | pl (x : Pl)
 | st (l : List Pl)
def Va.tx : Va→List UInt8
 | .pl x=>x.tx
 | .st l=>stx l
/-- A value's cells. -/
def VaP : DP Va:=fun S H bs v=>match v with
 | .pl x=>x.Ok∧bs = x.cs
 | .st l=>∃ xo,bs = ec 5 false 0 [] [] [] xo∧Lst 7 PlP S H xo l∧l.length≤8
theorem ec_one2 {op : Nat} {b : Bool} {n : Int} {s t d : List UInt8} {xk : AV} (hk : oneC xk = true∧avEq1 xk xk = true) : ∀ v ∈ ec op b n s t d xk,oneC v = true∧avEq1 v v = true:=by
 intro v hv
 simp only [ec,List.mem_cons,List.not_mem_nil,or_false] at hv
 rcases hv with rfl | rfl | rfl | rfl | rfl | rfl | rfl
 ·exact ⟨rfl,av1_i⟩
 ·exact ⟨one_b,av1_b⟩
 ·exact ⟨one_i,av1_i⟩
 ·exact ⟨one_str,av1_str⟩
 ·exact ⟨one_str,av1_str⟩
 ·exact ⟨one_str,av1_str⟩
 ·exact hk
theorem vaP : Mov 7 VaP:=by
 refine ⟨?_,?_,?_⟩
 ·intro S S' H H' bs v hs hn h
  cases v with
  | pl x=>exact h
  | st l =>
   obtain ⟨xo,h1,h2,h3⟩:=h
   exact ⟨xo,h1,h2.mv plP hs hn,h3⟩
 ·intro S H bs v h
  cases v with
  | pl x=>exact plP.len (S:=S) (H:=H) h
  | st l =>
   obtain ⟨xo,rfl,h2,h3⟩:=h
   rfl
 ·intro S H bs v h
  cases v with
  | pl x=>exact plP.one (S:=S) (H:=H) h
  | st l =>
   obtain ⟨xo,rfl,h2,h3⟩:=h
   exact ec_one2 h2.cell
theorem VaP.any {S : Pa→Prop} {H : Heap} {bs : List AV} {v : Va} (h : VaP S H bs v) : VaP Any H bs v:=vaP.weak h fun _ _ _=>trivial
/-- A value's text,the program's and the document's. -/
theorem s40v {S : Pa→Prop} {H : Heap} (hG : Gl H) {bs : List AV} {v : Va} (h : VaP S H bs v) : Tells 40 6000 [.ag bs] H (str v.tx):=by
 have h:=h.any
 cases v with
 | pl x =>
  obtain ⟨h1,rfl⟩:=h
  exact Tells.up (s40p h1 hG) (by omega)
 | st l =>
  obtain ⟨xo,rfl,h2,h3⟩:=h
  exact s40l hG h2 h3
theorem s41v {S : Pa→Prop} {H : Heap} {bs : List AV} {v : Va} (h : VaP S H bs v) : Tells 41 3000 [.ag bs] H (str v.tx):=by
 have h:=h.any
 cases v with
 | pl x =>
  obtain ⟨h1,rfl⟩:=h
  exact Tells.up (s41p h1 H) (by omega)
 | st l =>
  obtain ⟨xo,rfl,h2,h3⟩:=h
  exact s41l h2 h3
theorem va_le {S : Pa→Prop} {H : Heap} {bs : List AV} {v : Va} (h : VaP S H bs v) : v.tx.length≤2000:=by
 cases v with
 | pl x=>exact Nat.le_trans (Pl.tx_le h.1) (by decide)
 | st l =>
  obtain ⟨xo,rfl,h2,h3⟩:=h
  exact stx_le (lst_ok h2) h3
/-- A uid's cells. -/
def UidP : DP (List UInt8 × List UInt8):=fun _ _ bs u=>bs = [str u.1,str u.2]∧u.1.length≤40∧Rt u.2
theorem uidP : Mov 2 UidP:=⟨fun _ _ h=>h,fun h=>by rw [h.1]; rfl,fun h v hv=>by
 rw [h.1,List.mem_cons,List.mem_singleton] at hv
 rcases hv with rfl | rfl <;> exact ⟨one_str,av1_str⟩⟩
def utx (u : List UInt8 × List UInt8) : List UInt8:=u.1 ++ [58,58] ++ quoB u.2
theorem utx_le {S : Pa→Prop} {H : Heap} {bs : List AV} {u : List UInt8 × List UInt8} (h : UidP S H bs u) : (utx u).length≤224:=by
 have h1:=rt_le h.2.2
 have h2:=h.2.1
 unfold utx
 rw [List.length_append,List.length_append]
 show _ + 2 + _≤224
 omega
/-- An attribute's cells. -/
def AtP : DP (List UInt8 × Va):=fun S H bs a=>∃ cs,bs = str a.1 :: cs∧a.1.length≤40∧VaP S H cs a.2
theorem atP : Mov 8 AtP:=by
 refine ⟨?_,?_,?_⟩
 ·rintro S S' H H' bs v hs hn ⟨cs,h1,h2,h3⟩
  exact ⟨cs,h1,h2,vaP.mv hs hn h3⟩
 ·rintro S H bs v ⟨cs,rfl,h2,h3⟩
  show cs.length + 1 = 8
  rw [vaP.len h3]
 ·rintro S H bs v ⟨cs,rfl,h2,h3⟩ w hw
  rw [List.mem_cons] at hw
  rcases hw with rfl | hw
  ·exact ⟨one_str,av1_str⟩
  ·exact vaP.one h3 w hw
theorem nm_le (n : Int) : (nm n).length≤40:=by
 have h : ∀ s ∈ nms,s.length≤40:=by decide
 unfold nm
 cases e : nms[(n % 7).toNat]? with
 | none=>exact Nat.zero_le _
 | some s=>exact h s (List.mem_of_getElem? e)
/-- A letter's text. -/
def let1 (n : Int) : List UInt8:=[UInt8.ofNat (97 + (n % 5)).toNat]
theorem let_5 (n : Int) : n % 5 = 0 ∨ n % 5 = 1 ∨ n % 5 = 2 ∨ n % 5 = 3 ∨ n % 5 = 4:=by
 have h1:=Int.emod_nonneg n (b:=5) (by decide)
 have h2:=Int.emod_lt_of_pos n (b:=5) (by decide)
 omega
theorem let_rt (n : Int) : Rt (let1 n):=by
 unfold let1
 rcases let_5 n with h | h | h | h | h <;> rw [h]
 ·exact ⟨[0],by decide,by decide,rfl⟩
 ·exact ⟨[1],by decide,by decide,rfl⟩
 ·exact ⟨[22],by decide,by decide,rfl⟩
 ·exact ⟨[23],by decide,by decide,rfl⟩
 ·exact ⟨[24],by decide,by decide,rfl⟩
theorem let_cs (n : Int) : bcs (let1 n) = [.i .u8 (97 + n % 5)]:=by
 unfold let1
 rcases let_5 n with h | h | h | h | h <;> rw [h] <;> rfl
theorem letw (n : Int) : IntKind.u8.wrap (IntKind.i64.wrap (97 + n % 5)) = 97 + n % 5:=by
 have h1:=Int.emod_nonneg n (b:=5) (by decide)
 have h2:=Int.emod_lt_of_pos n (b:=5) (by decide)
 rw [wrap_i64 (by omega) (by omega)]
 show (97 + n % 5) % 256 = _
 omega
/-- A number of a row,read anywhere later. -/
theorem ints_at {H : Heap} {x : AV} {l : List Int} (h : Ints H x l) {j : Nat} (hj : j < l.length) : ∃ a o,(∀ (R : Type) (k : HK R) (G : Heap),ixaC 1 x (.i .i64 (j : Int)) k G = k (.p a o) G)∧∀ G,Grow H G→∀ (R : Type) (k : HK R),ldC false 1 (.p a o) k G = k (.i .i64 l[j]) G:=by
 obtain ⟨rfl,rfl⟩ | ⟨a,off,ro,fz,e,size,c,rfl,ha,k1,k2,k3⟩:=h
 ·cases hj
 ·refine ⟨a,off + j * 1,fun R k G=>by rw [ixa_sl (by omega) (by omega),Int.toNat_natCast],fun G g R k=>?_⟩
  rw [ld_one (by rw [g.get a ha,k1]) (by omega),Nat.mul_one,k3 j hj,List.getElem?_eq_getElem hj]
  rfl
def F12a (q p e : Pa) (i : Nat) (fr : Tr AV) : Prop:=V fr 1 = .p p 0∧V fr 2 = .p q 0∧V fr 3 = .p e 0∧V fr 4 = .i .i64 (i : Int)
structure I12a (H0 : Heap) (e : Pa) (u d : List UInt8) (i : Nat) (H : Heap) (st : AV × List (List UInt8 × List UInt8) × List AV) : Prop where
 a : Acc H0 29 2 UidP st.1 st.2.1 st.2.2 H
 r : Row H e 49 [str u,str d,st.1,.ns]
 k : KeepBut e H0.next.toN H0 H
 l : st.2.1.length = i
theorem KeepBut.ints {e : Pa} {n : Nat} {H H' : Heap} (k : KeepBut e n H H') {x : AV} {l : List Int} (h : IntsP (fun a=>a.toN < n∧a ≠ e) H x l) : IntsP (fun a=>a.toN < n∧a ≠ e) H' x l :=
 h.mv (fun a hs hb=>⟨hs,k.get a hs.1 hb hs.2⟩) k.next
theorem loop12a {H0 : Heap} (hf : Fresh H0) {q p e : Pa} {u d : List UInt8} {t n : Int} {xp xn xv : AV} {lp : List Int} (hp : p.toN < H0.next.toN) (he : e.toN < H0.next.toN) (hpe : p ≠ e)
  (hr : Row H0 p 40 [.i .i64 t,.i .i64 n,xp,xn,xv]) (hre : Row H0 e 49 [str u,str d,.ns,.ns]) (hxp : IntsP (fun a=>a.toN < H0.next.toN∧a ≠ e) H0 xp lp) :
  ∃ H' x l L,I12a H0 e u d (min lp.length 3) H' (x,l,L)∧∀ fr,F12a q p e 0 fr→∀ M,1000 + min lp.length 3≤M→∀ (R : Type) (k : XK R) (res : Option R),(∀ fr',F12a q p e (min lp.length 3) fr'→k (.exit 0) fr' H' = res)→runK tbl M R Lp12a fr H0 k = res:=by
 have G:=loop_cps (Lp:=Lp12a) (ex:=0) (n:=min lp.length 3) (c:=1000) (St:=AV × List (List UInt8 × List UInt8) × List AV) (fun i H st=>I12a H0 e u d i H st) (fun i _ fr=>F12a q p e i fr) ?hend ?hstep (min lp.length 3) 0 H0 (.ns,[],[]) (by omega) ⟨Acc.init (Nat.le_refl _),hre,KeepBut.refl _ _ _,rfl⟩
 case hend =>
  rintro H ⟨x,l,L⟩ I fr ⟨f1,f2,f3,f4⟩ M hM R k res hr'
  obtain ⟨m,rfl⟩ : ∃ m,M = m + 100:=⟨M - 100,by omega⟩
  have l2:=(I.k.row hr hp hp hpe).l 2 (v:=xp) rfl
  have hl:=(I.k.ints hxp).1
  unfold Lp12a
  rw [run_loop]
  by_cases h : lp.length≤3
  ·have hn : ¬ ((min lp.length 3 : Nat) : Int) < (lp.length : Int):=by omega
   simp only [EX,reduceIte,Nat.reduceEqDiff,Nat.reduceAdd,Int.reduceEq,Int.reduceLT,Int.reduceLE,reduceCtorEq,Nat.reduceLeDiff,Nat.reduceSub,Nat.reduceLT,f1,f4,l2,hl.len,hn]
   exact hr' _ ⟨by simp only [V_S,Nat.reduceEqDiff,reduceIte]; exact f1,by simp only [V_S,Nat.reduceEqDiff,reduceIte]; exact f2,by simp only [V_S,Nat.reduceEqDiff,reduceIte]; exact f3,by simp only [V_S,Nat.reduceEqDiff,reduceIte]; exact f4⟩
  ·have hn : ((min lp.length 3 : Nat) : Int) < (lp.length : Int):=by omega
   have hn2 : ¬ ((min lp.length 3 : Nat) : Int) < 3:=by omega
   simp only [EX,reduceIte,Nat.reduceEqDiff,Nat.reduceAdd,Int.reduceEq,Int.reduceLT,Int.reduceLE,reduceCtorEq,Nat.reduceLeDiff,Nat.reduceSub,Nat.reduceLT,f1,f4,l2,hl.len,hn,hn2]
   exact hr' _ ⟨by simp only [V_S,Nat.reduceEqDiff,reduceIte]; exact f1,by simp only [V_S,Nat.reduceEqDiff,reduceIte]; exact f2,by simp only [V_S,Nat.reduceEqDiff,reduceIte]; exact f3,by simp only [V_S,Nat.reduceEqDiff,reduceIte]; exact f4⟩
 case hstep =>
  rintro i H ⟨x,l,L⟩ hi I
  have A : Acc H0 29 2 UidP x l L H:=I.a
  have hre1 : Row H e 49 [str u,str d,x,.ns]:=I.r
  have hli : l.length = i:=I.l
  have K:=I.k
  have hn0:=K.next
  have gb : Grow H (H.bump 2):=Grow.bump 2 H
  have nb : (H.bump 2).next.toN = H.next.toN + 2:=next_bump
  have hI:=(K.ints hxp).1
  obtain ⟨a,o,eix,eld⟩:=ints_at hI (show i < lp.length by omega)
  obtain ⟨H1,g1,e30⟩:=s30 lp[i] (H.bump 2)
  have gb1:=gb.trans g1
  have n1:=g1.next
  have ldb:=eld (H.bump 2) gb
  have ld1:=eld H1 gb1
  obtain ⟨H2,e2⟩ : ∃ H2,H2 = H1.put H.next (.cells false 0 5 1 (setCells [.i .u8 (97 + (IntKind.i64.wrap (lp[i].tdiv 4)) % 5)] 0 .leaf)):=⟨_,rfl⟩
  obtain ⟨v,hv⟩ : ∃ v,v = IntKind.i64.wrap (lp[i].tdiv 4):=⟨_,rfl⟩
  rw [← hv] at e2
  have n2 : H2.next = H1.next:=by rw [e2]
  have g2 : Grow H H2:=by rw [e2]; exact gb1.put (Nat.le_refl _) (by omega) _
  have r2 : Row H2 H.next 5 [.i .u8 (97 + v % 5)]:=by rw [e2]; exact ⟨_,get_put,fun j _=>cell_at [.i .u8 (97 + v % 5)] j⟩
  obtain ⟨H3,e3⟩ : ∃ H3,H3 = H2.put H.next.succ (.cells false 0 29 2 (setCells [str (kdn lp[i]),str (let1 v)] 0 .leaf)):=⟨_,rfl⟩
  have hsn : H.next.succ.toN = H.next.toN + 1:=Pa.toN_succ _
  have g3 : Grow H H3:=by rw [e3]; exact g2.put (by omega) (by rw [n2]; omega) _
  have r3 : Row H3 H.next.succ 29 [str (kdn lp[i]),str (let1 v)]:=by rw [e3]; exact ⟨_,get_put,fun j _=>cell_at [str (kdn lp[i]),str (let1 v)] j⟩
  have hd : H1.get H.next = .dead:=by
   rw [g1.get _ (by omega),get_bump]
   exact (K.dead hf) _ (Nat.le_refl _)
  have hrd : ∀ (fr : Tr AV) (w : AV) (nn : Nat) (Gs : List Heap),ev fr (T 47) = .sl H.next 0 1 (some 1) 1→readOk (.b2s (T 47)) fr w 1000002 (H1 :: Gs) nn = true:=fun fr w nn Gs hev=>read_hm (by decide) (home_b2s hev hd)
  have hb2 : ∀ (R : Type) (k : HK R),b2sC (.sl H.next 0 1 (some 1) 1) k H2 = k (str (let1 v)) H2:=fun R k=>b2s_part r2 (s:=let1 v) rfl (Nat.le_refl _) (let_cs v).symm
  have A3:=A.grow uidP g3
  have hre3:=hre1.grow g3 (by omega)
  have room : (10 * 32 : Nat)≤roomN:=by decide
  obtain ⟨H4,H5,A5,re5,K5,_,eapp,est⟩:=A3.boxed uidP (by decide) hre3 he (f:=2) (by show 2 < 4; decide) (ys:=[str (kdn lp[i]),str (let1 v)]) (r:=(kdn lp[i],let1 v)) ⟨rfl,Nat.le_trans (kdn_le _) (by decide),let_rt v⟩ (bytes:=32) (by omega)
  have eapp' : ∀ (R : Type) (k : HK R),appendK 29 2 32 x (.sl H.next.succ 0 1 (some 1) 2) H3 k = k (.sl H3.next 0 (l.length + (0 + 1)) none 2) H4:=fun R k=>eapp R k _ fun f=>src_all (n:=0 + 1) r3 rfl f
  have est' : ∀ (R : Type) (k : HK R),stC 1 (.p e 2) (.sl H3.next 0 (l.length + 1) none 2) k H4 = k un H5:=est
  have l2:=(K.row hr hp hp hpe).l 2 (v:=xp) rfl
  have l2b:=((K.row hr hp hp hpe).grow gb (by omega)).l 2 (v:=xp) rfl
  have l21:=((K.row hr hp hp hpe).grow gb1 (by omega)).l 2 (v:=xp) rfl
  have m2b:=(hre1.grow gb (by omega)).l 2 (v:=x) rfl
  have m21:=(hre1.grow gb1 (by omega)).l 2 (v:=x) rfl
  have axx : avEq x x = true:=A.self
  have axp : avEq xp xp = true:=av1_av hI.cell.1 hI.cell.2
  have hlt : (i : Int) < (lp.length : Int):=by omega
  have hlt3 : (i : Int) < 3:=by omega
  have hw:=inc_i (show i < 1000 by omega)
  have hq : ∀ (R : Type) (k : HK R) (G : Heap),binC .quo .no (.i .i64 lp[i]) (.i .i64 4) k G = k (.i .i64 v) G:=fun R k G=>by rw [hv]; exact i_quo (show (4 : Int) ≠ 0 by decide)
  refine ⟨H5,(_,l ++ [(kdn lp[i],let1 v)],L ++ [str (kdn lp[i]),str (let1 v)]),⟨A5,re5,(K.trans ((Grow.kb g3 e H0.next.toN))).trans K5,by show (l ++ [(kdn lp[i],let1 v)]).length = i + 1; rw [List.length_append,hli]; rfl⟩,?_⟩
  rintro fr ⟨f1,f2,f3,f4⟩ M hM R k res hr'
  obtain ⟨m,rfl⟩ : ∃ m,M = m + 1000:=⟨M - 1000,by omega⟩
  unfold Lp12a
  rw [run_loop]
  simp only [EX,reduceIte,Nat.reduceEqDiff,Nat.reduceAdd,Int.reduceEq,Int.reduceLT,Int.reduceLE,reduceCtorEq,Nat.reduceLeDiff,Nat.reduceSub,Nat.reduceLT,f1,f3,f4,l2,hI.len,hlt,hlt3,l2b,axp,eix,ldb,avEq_i]
  rw [e30 _ (by omega)]
  simp only [EX,reduceIte,Nat.reduceEqDiff,Nat.reduceAdd,Int.reduceEq,Int.reduceLT,Int.reduceLE,reduceCtorEq,Nat.reduceLeDiff,Nat.reduceSub,Nat.reduceLT,f1,f3,f4,l2b,l21,axp,eix,ldb,ld1,avEq_i,hq]
  rw [s18 (by decide) (by decide) (by omega)]
  simp only [EX,reduceIte,Nat.reduceEqDiff,Nat.reduceAdd,Int.reduceEq,Int.reduceLT,Int.reduceLE,reduceCtorEq,Nat.reduceLeDiff,Nat.reduceSub,Nat.reduceLT,f1,f3,f4,m2b,m21,axx,i_add,letw,cvi_i]
  rw [← e2]
  simp only [EX,reduceIte,Nat.reduceEqDiff,Nat.reduceAdd,Int.reduceEq,Int.reduceLT,Int.reduceLE,reduceCtorEq,Nat.reduceLeDiff,Nat.reduceSub,Nat.reduceLT,hb2]
  rw [hrd _ _ _ _ (by simp only [ev_T,V_S,Nat.reduceEqDiff,reduceIte])]
  simp only [EX,reduceIte,Nat.reduceEqDiff,Nat.reduceAdd,Int.reduceEq,Int.reduceLT,Int.reduceLE,reduceCtorEq,Nat.reduceLeDiff,Nat.reduceSub,Nat.reduceLT]
  rw [fill_agn ?fa ?fb]
  case fa=>rfl
  case fb=>show 0 + 2≤2; omega
  have hlay : lay [str [],str []] 0 [str (kdn lp[i]),str (let1 v)] = [str (kdn lp[i]),str (let1 v)]:=rfl
  simp only [EX,reduceIte,Nat.reduceEqDiff,Nat.reduceAdd,Int.reduceEq,Int.reduceLT,Int.reduceLE,reduceCtorEq,Nat.reduceLeDiff,Nat.reduceSub,Nat.reduceLT,hlay]
  rw [← e3,eapp']
  simp only [EX,reduceIte,Nat.reduceEqDiff,Nat.reduceAdd,Int.reduceEq,Int.reduceLT,Int.reduceLE,reduceCtorEq,Nat.reduceLeDiff,Nat.reduceSub,Nat.reduceLT,f3]
  rw [est']
  simp only [EX,reduceIte,Nat.reduceEqDiff,Nat.reduceAdd,Int.reduceEq,Int.reduceLT,Int.reduceLE,reduceCtorEq,Nat.reduceLeDiff,Nat.reduceSub,Nat.reduceLT,f4,i_add,hw]
  exact hr' _ ⟨by simp only [V_S,Nat.reduceEqDiff,reduceIte]; exact f1,by simp only [V_S,Nat.reduceEqDiff,reduceIte]; exact f2,by simp only [V_S,Nat.reduceEqDiff,reduceIte]; exact f3,by simp only [V_S,Nat.reduceEqDiff,reduceIte]⟩
 obtain ⟨H',⟨x,l,L⟩,I,e⟩:=G
 exact ⟨H',x,l,L,I,e⟩
end Go.Proofs.YtmmmjhkgjmbfaaaDoor

/- An entity (chancellaw5.Entity): its attributes,the whole. -/
namespace Go.Proofs.YtmmmjhkgjmbfaaaDoor
open Go Go.Vai
set_option maxRecDepth 100000
set_option maxHeartbeats 1600000
set_option linter.unusedSimpArgs false
/-- A raw value's cells,those of its own things told too. -/
def R3Q : DP Unit:=fun S H bs _=>∃ (op n : Int) (xs xk : AV) (s : List Int) (lk : List Unit),bs = [.i .i64 op,.i .i64 n,xs,xk]∧I64 n∧IntsP S H xs s∧Lst 4 R3P S H xk lk
theorem r3Q : Mov 4 R3Q:=by
 refine ⟨?_,?_,?_⟩
 ·rintro S S' H H' bs _ hs hn ⟨op,n,xs,xk,s,lk,h1,h2,h3,h4⟩
  exact ⟨op,n,xs,xk,s,lk,h1,h2,h3.mv hs hn,h4.mv r3P hs hn⟩
 ·rintro S H bs _ ⟨op,n,xs,xk,s,lk,rfl,_⟩; rfl
 ·rintro S H bs _ ⟨op,n,xs,xk,s,lk,rfl,h2,h3,h4⟩ v hv
  simp only [List.mem_cons,List.not_mem_nil,or_false] at hv
  rcases hv with rfl | rfl | rfl | rfl
  ·exact ⟨one_i,av1_i⟩
  ·exact ⟨one_i,av1_i⟩
  ·exact h3.1.cell
  ·exact h4.cell
theorem good_va {H H1 : Heap} {cs : List AV} (h : GoodV H H1 cs) :
  (∃ (v : Va) (x6 : AV) (n : Int),VaP (fun a=>H.next.toN≤a.toN) H1 cs v∧cs[6]? = some x6∧n≤3∧∀ (R : Type) (k : HK R) (G : Heap),lenC false x6 k G = k (.i .i64 n) G) ∨
  ∃ (xo y : AV) (n : Int) (l : List Pl),cs = ec 5 false 0 [] [] [] xo∧3 < n∧VaP (fun a=>H.next.toN≤a.toN) H1 cs (.st l)∧VaP (fun a=>H.next.toN≤a.toN) H1 (ec 5 false 0 [] [] [] y) (.st (l.take 3))∧(∀ (R : Type) (k : HK R) (G : Heap),lenC false xo k G = k (.i .i64 n) G)∧∀ (R : Type) (k : HK R) (G : Heap),sllC 7 xo none (some (.i .i64 3)) none k G = k y G:=by
 obtain ⟨p,hp,rfl⟩ | ⟨xo,lo,rfl,P,h8⟩:=h
 ·exact Or.inl ⟨.pl p,.ns,0,⟨hp,rfl⟩,rfl,by decide,fun R k G=>rfl⟩
 ·have hl : Lst 7 PlP (fun a=>H.next.toN≤a.toN) H1 xo lo:=P.lst fun a ha _=>ha
  by_cases h3 : lo.length≤3
  ·exact Or.inl ⟨.st lo,xo,(lo.length : Int),⟨xo,rfl,hl,h8⟩,rfl,by omega,hl.len⟩
  ·have hne : xo ≠ .ns:=by
    rintro rfl
    have:=P.h.ll
    obtain ⟨_,h0,_⟩ | ⟨a,q,_⟩:=P.h
    ·omega
    ·cases q
   obtain ⟨y,hy,ey⟩:=hl.take (n:=3) (by omega)
   refine Or.inr ⟨xo,y,(lo.length : Int),lo,rfl,by omega,⟨xo,rfl,hl,h8⟩,⟨y,rfl,hy,by rw [List.length_take]; omega⟩,hl.len,fun R k G=>?_⟩
   obtain ⟨q,_⟩ | ⟨a',q',_⟩:=P.h
   ·exact absurd q hne
   ·exact ey R k G hne a' 0 lo.length none q' rfl
theorem lay_1 {b : AV} {bs cs : List AV} (h : bs.length = cs.length) : lay (b :: bs) 1 cs = b :: cs:=by
 show b :: lay bs 0 cs = _
 rw [lay_all h]
def F12b (q p e : Pa) (i : Nat) (fr : Tr AV) : Prop:=V fr 1 = .p p 0∧V fr 2 = .p q 0∧V fr 3 = .p e 0∧V fr 5 = .i .i64 (i : Int)
structure I12b (H0 : Heap) (e : Pa) (u d : List UInt8) (xp : AV) (i : Nat) (H : Heap) (st : AV × List (List UInt8 × Va) × List AV) : Prop where
 a : Acc H0 90 8 AtP st.1 st.2.1 st.2.2 H
 r : Row H e 49 [str u,str d,xp,st.1]
 k : KeepBut e H0.next.toN H0 H
 l : st.2.1.length = i
theorem loop12b {H0 : Heap} (hf : Fresh H0) {q p e : Pa} {u d : List UInt8} {t n : Int} {y xp xn xv : AV} {ln : List Int} {lv : List Unit} (hp : p.toN < H0.next.toN) (he : e.toN < H0.next.toN) (hpe : p ≠ e)
  (hr : Row H0 p 40 [.i .i64 t,.i .i64 n,xp,xn,xv]) (hre : Row H0 e 49 [str u,str d,y,.ns]) (hxn : IntsP (fun a=>a.toN < H0.next.toN∧a ≠ e) H0 xn ln) (hxv : Lst 4 R3Q (fun a=>a.toN < H0.next.toN∧a ≠ e) H0 xv lv) :
  ∃ H' x l L,I12b H0 e u d y (min (min ln.length lv.length) 3) H' (x,l,L)∧∀ fr,F12b q p e 0 fr→∀ M,9000 + min (min ln.length lv.length) 3≤M→∀ (R : Type) (k : XK R) (res : Option R),(∀ fr',F12b q p e (min (min ln.length lv.length) 3) fr'→k (.exit 2) fr' H' = res)→runK tbl M R Lp12b fr H0 k = res:=by
 have G:=loop_cps (Lp:=Lp12b) (ex:=2) (n:=min (min ln.length lv.length) 3) (c:=9000) (St:=AV × List (List UInt8 × Va) × List AV) (fun i H st=>I12b H0 e u d y i H st) (fun i _ fr=>F12b q p e i fr) ?hend ?hstep (min (min ln.length lv.length) 3) 0 H0 (.ns,[],[]) (by omega) ⟨Acc.init (Nat.le_refl _),hre,KeepBut.refl _ _ _,rfl⟩
 case hend =>
  rintro H ⟨x,l,L⟩ I fr ⟨f1,f2,f3,f5⟩ M hM R k res hr'
  obtain ⟨m,rfl⟩ : ∃ m,M = m + 100:=⟨M - 100,by omega⟩
  have l3:=(I.k.row hr hp hp hpe).l 3 (v:=xn) rfl
  have l4:=(I.k.row hr hp hp hpe).l 4 (v:=xv) rfl
  have hl:=(I.k.ints hxn).1
  have hv : Lst 4 R3Q (fun a=>a.toN < H0.next.toN∧a ≠ e) H xv lv:=hxv.mv r3Q (fun a hs hb=>⟨hs,I.k.get a hs.1 hb hs.2⟩) I.k.next
  unfold Lp12b
  rw [run_loop]
  by_cases h : ((min (min ln.length lv.length) 3 : Nat) : Int) < (ln.length : Int)
  ·by_cases h2 : ((min (min ln.length lv.length) 3 : Nat) : Int) < (lv.length : Int)
   ·have hn2 : ¬ ((min (min ln.length lv.length) 3 : Nat) : Int) < 3:=by omega
    simp only [EX,reduceIte,Nat.reduceEqDiff,Nat.reduceAdd,Int.reduceEq,Int.reduceLT,Int.reduceLE,reduceCtorEq,Nat.reduceLeDiff,Nat.reduceSub,Nat.reduceLT,f1,f5,l3,l4,hl.len,hv.len,h,h2,hn2]
    exact hr' _ ⟨by simp only [V_S,Nat.reduceEqDiff,reduceIte]; exact f1,by simp only [V_S,Nat.reduceEqDiff,reduceIte]; exact f2,by simp only [V_S,Nat.reduceEqDiff,reduceIte]; exact f3,by simp only [V_S,Nat.reduceEqDiff,reduceIte]; exact f5⟩
   ·simp only [EX,reduceIte,Nat.reduceEqDiff,Nat.reduceAdd,Int.reduceEq,Int.reduceLT,Int.reduceLE,reduceCtorEq,Nat.reduceLeDiff,Nat.reduceSub,Nat.reduceLT,f1,f5,l3,l4,hl.len,hv.len,h,h2]
    exact hr' _ ⟨by simp only [V_S,Nat.reduceEqDiff,reduceIte]; exact f1,by simp only [V_S,Nat.reduceEqDiff,reduceIte]; exact f2,by simp only [V_S,Nat.reduceEqDiff,reduceIte]; exact f3,by simp only [V_S,Nat.reduceEqDiff,reduceIte]; exact f5⟩
  ·simp only [EX,reduceIte,Nat.reduceEqDiff,Nat.reduceAdd,Int.reduceEq,Int.reduceLT,Int.reduceLE,reduceCtorEq,Nat.reduceLeDiff,Nat.reduceSub,Nat.reduceLT,f1,f5,l3,l4,hl.len,hv.len,h]
   exact hr' _ ⟨by simp only [V_S,Nat.reduceEqDiff,reduceIte]; exact f1,by simp only [V_S,Nat.reduceEqDiff,reduceIte]; exact f2,by simp only [V_S,Nat.reduceEqDiff,reduceIte]; exact f3,by simp only [V_S,Nat.reduceEqDiff,reduceIte]; exact f5⟩
 case hstep =>
  rintro i H ⟨x,l,L⟩ hi I
  have A : Acc H0 90 8 AtP x l L H:=I.a
  have hre1 : Row H e 49 [str u,str d,y,x]:=I.r
  have hli : l.length = i:=I.l
  have K:=I.k
  have hn0:=K.next
  have hI:=(K.ints hxn).1
  have hv : Lst 4 R3Q (fun a=>a.toN < H0.next.toN∧a ≠ e) H xv lv:=hxv.mv r3Q (fun a hs hb=>⟨hs,K.get a hs.1 hb hs.2⟩) K.next
  obtain ⟨a,o,bs,hR,ha,eix,_,eld⟩:=hv.at r3Q (List.getElem?_eq_getElem (show i < lv.length by omega))
  have ldR : ∀ (R : Type) (c : HK R),ldC true 4 (.p a o) c H = c (.ag bs) H:=by
   intro R c
   have:=eld H (Grow.refl _) 0 4 (by omega) R c
   rw [List.drop_zero,List.take_of_length_le (by rw [r3Q.len hR]; omega)] at this
   exact this
  obtain ⟨op,nn,xs,xk,s,lk,rfl,hnn,⟨hxs,_⟩,hxk⟩:=hR
  obtain ⟨cs,H1,g1,hgv,e31⟩:=s31 (H:=H) (op:=op) (n:=nn) (xs:=xs) (xk:=xk) (K.dead hf) hxs hnn (hxk.weak r3P fun _ _ _=>trivial)
  obtain ⟨H2,e2⟩ : ∃ H2,H2 = H1.alloc (.cells false 0 85 7 (setCells [.i .i64 0,.b false,.i .i64 0,str [],str [],str [],.ns] 0 .leaf)):=⟨_,rfl⟩
  have g2 : Grow H1 H2:=by rw [e2]; exact Grow.alloc H1 _
  have n1:=g1.next
  have n2 : H2.next.toN = H1.next.toN + 1:=by rw [e2]; exact next_alloc H1 _
  have r2 : Row H2 H1.next 85 zs7:=by rw [e2]; exact Row.new H1 85 zs7
  have hcs : cs.length = 7∧∀ v ∈ cs,oneC v = true:=by
   rcases good_va hgv with ⟨v,_,_,hv,_⟩ | ⟨_,_,_,_,_,_,hv,_⟩ <;> exact ⟨vaP.len hv,fun w hw=>(vaP.one hv w hw).1⟩
  obtain ⟨H3,r3,b3,n3,est3⟩:=r2.st_all (n:=7) (ys:=cs) (by omega) hcs.1 rfl hcs.2
  have n3' : H3.next.toN = H2.next.toN:=by rw [n3]
  have g13 : Grow H1 H3:=b3.of g2 (Nat.le_refl _)
  have hlt1 : (i : Int) < (ln.length : Int):=by omega
  have hlt2 : (i : Int) < (lv.length : Int):=by omega
  have hlt3 : (i : Int) < 3:=by omega
  have hw:=inc_i (show i < 1000 by omega)
  obtain ⟨a',o',eix',eld'⟩:=ints_at hI (show i < ln.length by omega)
  have p3:=(K.row hr hp hp hpe).l 3 (v:=xn) rfl
  have p4:=(K.row hr hp hp hpe).l 4 (v:=xv) rfl
  have axx : avEq x x = true:=A.self
  have axn : avEq xn xn = true:=av1_av hI.cell.1 hI.cell.2
  have room : (10 * 112 : Nat)≤roomN:=by decide
  rcases good_va hgv with ⟨v,x6,n6,hva,hx6,hn6,hlen6⟩ | ⟨xo,y6,n6,lo,rfl,hn6,hva0,hva,hlen6,esl⟩
  ·have ld6:=r3.l 6 hx6
   have hn6' : ¬ 3 < n6:=by omega
   have g14 : Grow H1 H3:=g13
   have gb:=Grow.bump 1 H3
   have nb : (H3.bump 1).next.toN = H3.next.toN + 1:=next_bump
   have n14:=g14.next
   have ldb:=eld' (H3.bump 1) ((g1.trans g14).trans gb)
   obtain ⟨H5,g5,e19⟩:=s19 ln[i] (H3.bump 1)
   have n5:=g5.next
   obtain ⟨H6,e6⟩ : ∃ H6,H6 = H5.put H3.next (.cells false 0 90 (str (nm ln[i]) :: cs).length (setCells (str (nm ln[i]) :: cs) 0 .leaf)):=⟨_,rfl⟩
   have g46 : Grow H3 H6:=by rw [e6]; exact (gb.trans g5).put (Nat.le_refl _) (by omega) _
   have hc4 : (cs).length = 7:=vaP.len hva
   have r6 : Row H6 H3.next 90 (str (nm ln[i]) :: cs):=by rw [e6]; exact ⟨_,get_put,fun j _=>cell_at _ j⟩
   have g6 : Grow H H6:=g1.trans (g14.trans g46)
   have A6:=A.grow atP g6
   have hre6:=hre1.grow g6 (by omega)
   have hva6 : VaP (Mine H0 x) H6 (cs) v:=vaP.mv (fun b hb hb1=>⟨⟨Nat.le_trans hn0 hb,A.off (Or.inr hb)⟩,(g14.trans g46).get b hb1⟩) (g14.trans g46).next hva
   obtain ⟨H7,H8,A8,re8,K8,_,eapp,est⟩:=A6.boxed atP (by decide) hre6 he (f:=3) (by show 3 < 4; decide) (ys:=str (nm ln[i]) :: cs) (r:=(nm ln[i],v)) ⟨_,rfl,nm_le _,hva6⟩ (bytes:=112) (by omega)
   have eapp' : ∀ (R : Type) (k : HK R),appendK 90 8 112 x (.sl H3.next 0 1 (some 1) 8) H6 k = k (.sl H6.next 0 (l.length + (0 + 1)) none 8) H7:=fun R k=>eapp R k _ fun f=>src_all (n:=0 + 1) r6 (by rw [List.length_cons,hc4]) f
   have est' : ∀ (R : Type) (k : HK R),stC 1 (.p e 3) (.sl H6.next 0 (l.length + 1) none 8) k H7 = k un H8:=est
   have p3b:=((K.row hr hp hp hpe).grow ((g1.trans g14).trans gb) (by omega)).l 3 (v:=xn) rfl
   have m3b:=(hre1.grow ((g1.trans g14).trans gb) (by omega)).l 3 (v:=x) rfl
   have m31:=(hre1.grow (((g1.trans g14).trans gb).trans g5) (by omega)).l 3 (v:=x) rfl
   have q7b:=(r3.grow gb (by omega)).la 7 hc4.symm
   have q71:=(r3.grow (gb.trans g5) (by omega)).la 7 hc4.symm
   have axc : avEq (.ag (cs)) (.ag (cs)) = true:=vaP.av hva
   refine ⟨H8,(_,l ++ [(nm ln[i],v)],L ++ (str (nm ln[i]) :: cs)),⟨A8,re8,(K.trans ((Grow.kb g6 e H0.next.toN))).trans K8,by show (l ++ [(nm ln[i],v)]).length = i + 1; rw [List.length_append,hli]; rfl⟩,?_⟩
   rintro fr ⟨f1,f2,f3,f5⟩ M hM R k res hr'
   obtain ⟨m,rfl⟩ : ∃ m,M = m + 9000:=⟨M - 9000,by omega⟩
   unfold Lp12b
   rw [run_loop]
   simp only [EX,reduceIte,Nat.reduceEqDiff,Nat.reduceAdd,Int.reduceEq,Int.reduceLT,Int.reduceLE,reduceCtorEq,Nat.reduceLeDiff,Nat.reduceSub,Nat.reduceLT,f1,f3,f5,p3,p4,hI.len,hv.len,hlt1,hlt2,hlt3,eix,ldR]
   rw [e31 _ (by omega)]
   simp only [EX,reduceIte,Nat.reduceEqDiff,Nat.reduceAdd,Int.reduceEq,Int.reduceLT,Int.reduceLE,reduceCtorEq,Nat.reduceLeDiff,Nat.reduceSub,Nat.reduceLT]
   rw [← e2]
   refine (est3 _ _).trans ?_
   simp only [EX,reduceIte,Nat.reduceEqDiff,Nat.reduceAdd,Int.reduceEq,Int.reduceLT,Int.reduceLE,reduceCtorEq,Nat.reduceLeDiff,Nat.reduceSub,Nat.reduceLT,ld6,hlen6,hn6']
   simp only [EX,reduceIte,Nat.reduceEqDiff,Nat.reduceAdd,Int.reduceEq,Int.reduceLT,Int.reduceLE,reduceCtorEq,Nat.reduceLeDiff,Nat.reduceSub,Nat.reduceLT,f1,f3,f5,p3b,axn,eix',ldb,avEq_i]
   rw [e19 _ (by omega)]
   simp only [EX,reduceIte,Nat.reduceEqDiff,Nat.reduceAdd,Int.reduceEq,Int.reduceLT,Int.reduceLE,reduceCtorEq,Nat.reduceLeDiff,Nat.reduceSub,Nat.reduceLT,f1,f3,f5,m3b,m31,axx,q7b,q71,axc]
   rw [fill_agn ?fa ?fb]
   case fa=>exact hc4
   case fb=>show 1 + 7≤8; omega
   simp only [EX,reduceIte,Nat.reduceEqDiff,Nat.reduceAdd,Int.reduceEq,Int.reduceLT,Int.reduceLE,reduceCtorEq,Nat.reduceLeDiff,Nat.reduceSub,Nat.reduceLT]
   rw [lay_1 (by rw [hc4]; rfl),fill_agn ?fa2 ?fb2]
   case fa2=>rw [List.length_cons,hc4]
   case fb2=>show 0 + 8≤8; omega
   simp only [EX,reduceIte,Nat.reduceEqDiff,Nat.reduceAdd,Int.reduceEq,Int.reduceLT,Int.reduceLE,reduceCtorEq,Nat.reduceLeDiff,Nat.reduceSub,Nat.reduceLT]
   rw [lay_all (by show 8 = (cs).length + 1; rw [hc4]),← e6,eapp']
   simp only [EX,reduceIte,Nat.reduceEqDiff,Nat.reduceAdd,Int.reduceEq,Int.reduceLT,Int.reduceLE,reduceCtorEq,Nat.reduceLeDiff,Nat.reduceSub,Nat.reduceLT,f3]
   rw [est']
   simp only [EX,reduceIte,Nat.reduceEqDiff,Nat.reduceAdd,Int.reduceEq,Int.reduceLT,Int.reduceLE,reduceCtorEq,Nat.reduceLeDiff,Nat.reduceSub,Nat.reduceLT,f5,i_add,hw]
   exact hr' _ ⟨by simp only [V_S,Nat.reduceEqDiff,reduceIte]; exact f1,by simp only [V_S,Nat.reduceEqDiff,reduceIte]; exact f2,by simp only [V_S,Nat.reduceEqDiff,reduceIte]; exact f3,by simp only [V_S,Nat.reduceEqDiff,reduceIte]⟩
  ·have ld6:=r3.l 6 (v:=xo) rfl
   obtain ⟨H4,r4,b4,n4,est4⟩:=r3.st_one (off:=6) (v:=y6) (by omega) (by show 6 < 7; omega) (vaP.one hva y6 (by simp [ec])).1
   have r4 : Row H4 H1.next 85 (ec 5 false 0 [] [] [] y6):=r4
   have n4' : H4.next.toN = H3.next.toN:=by rw [n4]
   have g14 : Grow H1 H4:=b4.of g13 (by omega)
   have gb:=Grow.bump 1 H4
   have nb : (H4.bump 1).next.toN = H4.next.toN + 1:=next_bump
   have n14:=g14.next
   have ldb:=eld' (H4.bump 1) ((g1.trans g14).trans gb)
   obtain ⟨H5,g5,e19⟩:=s19 ln[i] (H4.bump 1)
   have n5:=g5.next
   obtain ⟨H6,e6⟩ : ∃ H6,H6 = H5.put H4.next (.cells false 0 90 (str (nm ln[i]) :: ec 5 false 0 [] [] [] y6).length (setCells (str (nm ln[i]) :: ec 5 false 0 [] [] [] y6) 0 .leaf)):=⟨_,rfl⟩
   have g46 : Grow H4 H6:=by rw [e6]; exact (gb.trans g5).put (Nat.le_refl _) (by omega) _
   have hc4 : (ec 5 false 0 [] [] [] y6).length = 7:=vaP.len hva
   have r6 : Row H6 H4.next 90 (str (nm ln[i]) :: ec 5 false 0 [] [] [] y6):=by rw [e6]; exact ⟨_,get_put,fun j _=>cell_at _ j⟩
   have g6 : Grow H H6:=g1.trans (g14.trans g46)
   have A6:=A.grow atP g6
   have hre6:=hre1.grow g6 (by omega)
   have hva6 : VaP (Mine H0 x) H6 (ec 5 false 0 [] [] [] y6) (Va.st (lo.take 3)):=vaP.mv (fun b hb hb1=>⟨⟨Nat.le_trans hn0 hb,A.off (Or.inr hb)⟩,(g14.trans g46).get b hb1⟩) (g14.trans g46).next hva
   obtain ⟨H7,H8,A8,re8,K8,_,eapp,est⟩:=A6.boxed atP (by decide) hre6 he (f:=3) (by show 3 < 4; decide) (ys:=str (nm ln[i]) :: ec 5 false 0 [] [] [] y6) (r:=(nm ln[i],(Va.st (lo.take 3)))) ⟨_,rfl,nm_le _,hva6⟩ (bytes:=112) (by omega)
   have eapp' : ∀ (R : Type) (k : HK R),appendK 90 8 112 x (.sl H4.next 0 1 (some 1) 8) H6 k = k (.sl H6.next 0 (l.length + (0 + 1)) none 8) H7:=fun R k=>eapp R k _ fun f=>src_all (n:=0 + 1) r6 (by rw [List.length_cons,hc4]) f
   have est' : ∀ (R : Type) (k : HK R),stC 1 (.p e 3) (.sl H6.next 0 (l.length + 1) none 8) k H7 = k un H8:=est
   have p3b:=((K.row hr hp hp hpe).grow ((g1.trans g14).trans gb) (by omega)).l 3 (v:=xn) rfl
   have m3b:=(hre1.grow ((g1.trans g14).trans gb) (by omega)).l 3 (v:=x) rfl
   have m31:=(hre1.grow (((g1.trans g14).trans gb).trans g5) (by omega)).l 3 (v:=x) rfl
   have q7b:=(r4.grow gb (by omega)).la 7 hc4.symm
   have q71:=(r4.grow (gb.trans g5) (by omega)).la 7 hc4.symm
   have axc : avEq (.ag (ec 5 false 0 [] [] [] y6)) (.ag (ec 5 false 0 [] [] [] y6)) = true:=vaP.av hva
   refine ⟨H8,(_,l ++ [(nm ln[i],(Va.st (lo.take 3)))],L ++ (str (nm ln[i]) :: ec 5 false 0 [] [] [] y6)),⟨A8,re8,(K.trans ((Grow.kb g6 e H0.next.toN))).trans K8,by show (l ++ [(nm ln[i],(Va.st (lo.take 3)))]).length = i + 1; rw [List.length_append,hli]; rfl⟩,?_⟩
   rintro fr ⟨f1,f2,f3,f5⟩ M hM R k res hr'
   obtain ⟨m,rfl⟩ : ∃ m,M = m + 9000:=⟨M - 9000,by omega⟩
   unfold Lp12b
   rw [run_loop]
   simp only [EX,reduceIte,Nat.reduceEqDiff,Nat.reduceAdd,Int.reduceEq,Int.reduceLT,Int.reduceLE,reduceCtorEq,Nat.reduceLeDiff,Nat.reduceSub,Nat.reduceLT,f1,f3,f5,p3,p4,hI.len,hv.len,hlt1,hlt2,hlt3,eix,ldR]
   rw [e31 _ (by omega)]
   simp only [EX,reduceIte,Nat.reduceEqDiff,Nat.reduceAdd,Int.reduceEq,Int.reduceLT,Int.reduceLE,reduceCtorEq,Nat.reduceLeDiff,Nat.reduceSub,Nat.reduceLT]
   rw [← e2]
   refine (est3 _ _).trans ?_
   simp only [EX,reduceIte,Nat.reduceEqDiff,Nat.reduceAdd,Int.reduceEq,Int.reduceLT,Int.reduceLE,reduceCtorEq,Nat.reduceLeDiff,Nat.reduceSub,Nat.reduceLT,ld6,hlen6,hn6,esl]
   refine (est4 _ _).trans ?_
   simp only [EX,reduceIte,Nat.reduceEqDiff,Nat.reduceAdd,Int.reduceEq,Int.reduceLT,Int.reduceLE,reduceCtorEq,Nat.reduceLeDiff,Nat.reduceSub,Nat.reduceLT,f1,f3,f5,p3b,axn,eix',ldb,avEq_i]
   rw [e19 _ (by omega)]
   simp only [EX,reduceIte,Nat.reduceEqDiff,Nat.reduceAdd,Int.reduceEq,Int.reduceLT,Int.reduceLE,reduceCtorEq,Nat.reduceLeDiff,Nat.reduceSub,Nat.reduceLT,f1,f3,f5,m3b,m31,axx,q7b,q71,axc]
   rw [fill_agn ?fc ?fd]
   case fc=>exact hc4
   case fd=>show 1 + 7≤8; omega
   simp only [EX,reduceIte,Nat.reduceEqDiff,Nat.reduceAdd,Int.reduceEq,Int.reduceLT,Int.reduceLE,reduceCtorEq,Nat.reduceLeDiff,Nat.reduceSub,Nat.reduceLT]
   rw [lay_1 (by rw [hc4]; rfl),fill_agn ?fc2 ?fd2]
   case fc2=>rw [List.length_cons,hc4]
   case fd2=>show 0 + 8≤8; omega
   simp only [EX,reduceIte,Nat.reduceEqDiff,Nat.reduceAdd,Int.reduceEq,Int.reduceLT,Int.reduceLE,reduceCtorEq,Nat.reduceLeDiff,Nat.reduceSub,Nat.reduceLT]
   rw [lay_all (by show 8 = (ec 5 false 0 [] [] [] y6).length + 1; rw [hc4]),← e6,eapp']
   simp only [EX,reduceIte,Nat.reduceEqDiff,Nat.reduceAdd,Int.reduceEq,Int.reduceLT,Int.reduceLE,reduceCtorEq,Nat.reduceLeDiff,Nat.reduceSub,Nat.reduceLT,f3]
   rw [est']
   simp only [EX,reduceIte,Nat.reduceEqDiff,Nat.reduceAdd,Int.reduceEq,Int.reduceLT,Int.reduceLE,reduceCtorEq,Nat.reduceLeDiff,Nat.reduceSub,Nat.reduceLT,f5,i_add,hw]
   exact hr' _ ⟨by simp only [V_S,Nat.reduceEqDiff,reduceIte]; exact f1,by simp only [V_S,Nat.reduceEqDiff,reduceIte]; exact f2,by simp only [V_S,Nat.reduceEqDiff,reduceIte]; exact f3,by simp only [V_S,Nat.reduceEqDiff,reduceIte]⟩
 obtain ⟨H',⟨x,l,L⟩,I,e⟩:=G
 exact ⟨H',x,l,L,I,e⟩
end Go.Proofs.YtmmmjhkgjmbfaaaDoor

/- An entity's text,the program's (show.Entity). -/
namespace Go.Proofs.YtmmmjhkgjmbfaaaDoor
open Go Go.Vai
set_option maxRecDepth 100000
set_option maxHeartbeats 1600000
set_option linter.unusedSimpArgs false
/-- Names behind an in,rows in braces. -/
def parT (ts : List (List UInt8)) : List UInt8:=if ts = [] then [] else [32,105,110,32] ++ joinS ts
def braT (ts : List (List UInt8)) : List UInt8:=if ts = [] then [32,123,125,59] else [32,123,32] ++ joinS ts ++ [32,125,59]
theorem parT_le (ts : List (List UInt8)) : (parT ts).length≤4 + (2 * ts.length + sumL ts):=by
 have h:=joinS_le ts
 unfold parT
 split
 ·exact Nat.zero_le _
 ·rw [List.length_append]; show 4 + _≤_; omega
theorem braT_le (ts : List (List UInt8)) : (braT ts).length≤6 + (2 * ts.length + sumL ts):=by
 have h:=joinS_le ts
 unfold braT
 split
 ·show 4≤_; omega
 ·rw [List.length_append,List.length_append]; show 3 + _ + 3≤_; omega
theorem s_ad {s t : List UInt8} (h : s.length + t.length≤sMax) : ∀ (R : Type) (k : HK R) (H : Heap) (ek : EK),binC .add ek (str s) (str t) k H = k (str (s ++ t)) H:=fun _ _ _ _=>s_add h
theorem s33 {H : Heap} {x : AV} {ts : List (List UInt8)} (hx : Strs H x ts) (hn : ts.length≤1000) (hs : sumL ts≤1000000) : Tells 33 2200 [x] H (str (parT ts)):=by
 have hroom : (2000000 : Nat)≤roomN:=by decide
 have hsm : (2000000 : Nat)≤sMax:=by decide
 have hj:=joinS_le ts
 by_cases h : ts = []
 ·subst h
  have hl : ∀ (R : Type) (k : HK R) (G : Heap),lenC false x k G = k (.i .i64 0) G:=fun R k G=>hx.len k G
  refine ⟨H,Grow.refl H,fun M hM R k=>?_⟩
  obtain ⟨m,rfl⟩ : ∃ m,M = m + 2200:=⟨M - 2200,by omega⟩
  rw [call_eq L33]
  unfold B33
  simp only [EX,reduceIte,Nat.reduceEqDiff,Nat.reduceAdd,Int.reduceEq,Int.reduceLT,Int.reduceLE,reduceCtorEq,Nat.reduceLeDiff,Nat.reduceSub,Nat.reduceLT,hl]
  exact rfl
 ·have h0 : ¬ (ts.length : Int) = 0:=by
   intro q; exact h (List.length_eq_zero_iff.mp (by omega))
  obtain ⟨H1,g1,e35⟩:=s35 hx hn (by omega)
  have hA:=s_ad (s:=[32,105,110,32]) (t:=joinS ts) (by show 4 + _≤_; omega)
  refine ⟨H1,g1,fun M hM R k=>?_⟩
  obtain ⟨m,rfl⟩ : ∃ m,M = m + 2200:=⟨M - 2200,by omega⟩
  rw [call_eq L33]
  unfold B33
  simp only [EX,reduceIte,Nat.reduceEqDiff,Nat.reduceAdd,Int.reduceEq,Int.reduceLT,Int.reduceLE,reduceCtorEq,Nat.reduceLeDiff,Nat.reduceSub,Nat.reduceLT,hx.len,h0]
  rw [e35 _ (by omega)]
  simp only [EX,reduceIte,Nat.reduceEqDiff,Nat.reduceAdd,Int.reduceEq,Int.reduceLT,Int.reduceLE,reduceCtorEq,Nat.reduceLeDiff,Nat.reduceSub,Nat.reduceLT,hA]
  unfold parT
  rw [if_neg h]
theorem s34 {H : Heap} {x : AV} {ts : List (List UInt8)} (hx : Strs H x ts) (hn : ts.length≤1000) (hs : sumL ts≤1000000) : Tells 34 2200 [x] H (str (braT ts)):=by
 have hroom : (2000000 : Nat)≤roomN:=by decide
 have hsm : (2000000 : Nat)≤sMax:=by decide
 have hj:=joinS_le ts
 by_cases h : ts = []
 ·subst h
  have hl : ∀ (R : Type) (k : HK R) (G : Heap),lenC false x k G = k (.i .i64 0) G:=fun R k G=>hx.len k G
  refine ⟨H,Grow.refl H,fun M hM R k=>?_⟩
  obtain ⟨m,rfl⟩ : ∃ m,M = m + 2200:=⟨M - 2200,by omega⟩
  rw [call_eq L34]
  unfold B34
  simp only [EX,reduceIte,Nat.reduceEqDiff,Nat.reduceAdd,Int.reduceEq,Int.reduceLT,Int.reduceLE,reduceCtorEq,Nat.reduceLeDiff,Nat.reduceSub,Nat.reduceLT,hl]
  exact rfl
 ·have h0 : ¬ (ts.length : Int) = 0:=by
   intro q; exact h (List.length_eq_zero_iff.mp (by omega))
  obtain ⟨H1,g1,e35⟩:=s35 hx hn (by omega)
  have hA:=s_ad (s:=[32,123,32]) (t:=joinS ts) (by show 3 + _≤_; omega)
  have hB:=s_ad (s:=[32,123,32] ++ joinS ts) (t:=[32,125,59]) (by rw [List.length_append]; show 3 + _ + 3≤_; omega)
  refine ⟨H1,g1,fun M hM R k=>?_⟩
  obtain ⟨m,rfl⟩ : ∃ m,M = m + 2200:=⟨M - 2200,by omega⟩
  rw [call_eq L34]
  unfold B34
  simp only [EX,reduceIte,Nat.reduceEqDiff,Nat.reduceAdd,Int.reduceEq,Int.reduceLT,Int.reduceLE,reduceCtorEq,Nat.reduceLeDiff,Nat.reduceSub,Nat.reduceLT,hx.len,h0]
  rw [e35 _ (by omega)]
  simp only [EX,reduceIte,Nat.reduceEqDiff,Nat.reduceAdd,Int.reduceEq,Int.reduceLT,Int.reduceLE,reduceCtorEq,Nat.reduceLeDiff,Nat.reduceSub,Nat.reduceLT,hA,hB]
  unfold braT
  rw [if_neg h]
/-- An entity. -/
structure En where
 u : List UInt8 × List UInt8
 ps : List (List UInt8 × List UInt8)
 at_ : List (List UInt8 × Va)
def atx (a : List UInt8 × Va) : List UInt8:=a.1 ++ [58,32] ++ a.2.tx
def En.tx (e : En) : List UInt8:=utx e.u ++ parT (e.ps.map utx) ++ braT (e.at_.map atx)
/-- An entity's cells. -/
def EnP : DP En:=fun S H bs e=>∃ xp xa,bs = [str e.u.1,str e.u.2,xp,xa]∧e.u.1.length≤40∧Rt e.u.2∧Lst 2 UidP S H xp e.ps∧e.ps.length≤3∧Lst 8 AtP S H xa e.at_∧e.at_.length≤3
theorem sum_map {α : Type} {f : α→List UInt8} {l : List α} {c : Nat} (h : ∀ a ∈ l,(f a).length≤c) : sumL (l.map f)≤c * l.length:=by
 induction l with
 | nil=>exact Nat.zero_le _
 | cons a l ih =>
  have h1:=h a (List.mem_cons_self ..)
  have h2:=ih fun q hq=>h q (List.mem_cons_of_mem _ hq)
  rw [List.map_cons,sumL_cons,List.length_cons,Nat.mul_add]; omega
theorem Lst.all {α : Type} {w : Nat} {P : DP α} {S : Pa→Prop} {H : Heap} {x : AV} {l : List α} (h : Lst w P S H x l) : ∀ r ∈ l,∃ bs,P S H bs r:=by
 obtain ⟨rfl,rfl⟩ | ⟨a,off,cp,ro,fz,e,size,c,rfl,_,_,_,_,hd⟩:=h
 ·intro p hp; cases hp
 ·intro p hp
  obtain ⟨j,hj⟩:=List.mem_iff_getElem?.mp hp
  exact ⟨_,hd j p hj⟩
theorem atx_le {S : Pa→Prop} {H : Heap} {bs : List AV} {a : List UInt8 × Va} (h : AtP S H bs a) : (atx a).length≤2042:=by
 obtain ⟨cs,rfl,h1,h2⟩:=h
 have:=va_le h2
 unfold atx
 rw [List.length_append,List.length_append]
 show _ + 2 + _≤_
 omega
def F15a (p : Pa) (xp : AV) (n i : Nat) (y : AV) (fr : Tr AV) : Prop:=V fr 1 = .p p 0∧V fr 3 = y∧V fr 4 = .ns∧V fr 10 = xp∧V fr 11 = .i .i64 (n : Int)∧V fr 12 = .i .i64 (i : Int)
theorem loop15a {H0 : Heap} (hG : Gl H0) {p : Pa} {x : AV} {l : List (List UInt8 × List UInt8)} (hx : Lst 2 UidP Any H0 x l) (h8 : l.length≤3) :
  ∃ H' xo,Txs H0 H' xo (l.map utx)∧∀ fr,F15a p x l.length 0 .ns fr→∀ M,3600 + l.length≤M→∀ (R : Type) (k : XK R) (res : Option R),(∀ fr',F15a p x l.length l.length xo fr'→k (.exit 0) fr' H' = res)→runK tbl M R Lp15a fr H0 k = res:=by
 have G:=loop_cps (Lp:=Lp15a) (ex:=0) (n:=l.length) (c:=3600) (St:=AV) (fun i H y=>Txs H0 H y ((l.take i).map utx)) (fun i y fr=>F15a p x l.length i y fr) ?hend ?hstep l.length 0 H0 .ns (by omega) (Txs.init H0)
 case hend =>
  rintro H y P fr ⟨f1,f3,f4,f6,f7,f8⟩ M hM R k res hr
  obtain ⟨m,rfl⟩ : ∃ m,M = m + 100:=⟨M - 100,by omega⟩
  unfold Lp15a
  rw [run_loop]
  simp only [EX,reduceIte,Nat.reduceEqDiff,Nat.reduceAdd,Int.reduceEq,Int.reduceLT,Int.reduceLE,reduceCtorEq,Nat.reduceLeDiff,Nat.reduceSub,Nat.reduceLT,f7,f8,Int.lt_irrefl]
  exact hr _ ⟨by simp only [V_S,Nat.reduceEqDiff,reduceIte]; exact f1,by simp only [V_S,Nat.reduceEqDiff,reduceIte]; exact f3,by simp only [V_S,Nat.reduceEqDiff,reduceIte]; exact f4,by simp only [V_S,Nat.reduceEqDiff,reduceIte]; exact f6,by simp only [V_S,Nat.reduceEqDiff,reduceIte]; exact f7,by simp only [V_S,Nat.reduceEqDiff,reduceIte]; exact f8⟩
 case hstep =>
  rintro i H y hi P
  have hil : l[i]? = some l[i]:=List.getElem?_eq_getElem hi
  obtain ⟨a,o,bs,hu,ha,eix,_,eld⟩:=hx.at uidP hil
  have hul:=utx_le hu
  obtain ⟨rfl,hu1,hu2⟩:=hu
  have ld1 : ∀ (R : Type) (c : HK R),ldC true 2 (.p a o) c H = c (.ag [str l[i].1,str l[i].2]) H:=eld H P.g 0 2 (by omega)
  obtain ⟨H1,e1⟩ : ∃ H1,H1 = H.alloc (.cells false 0 29 2 (setCells [str [],str []] 0 .leaf)):=⟨_,rfl⟩
  have g1 : Grow H H1:=by rw [e1]; exact Grow.alloc H _
  have n1 : H1.next.toN = H.next.toN + 1:=by rw [e1]; exact next_alloc H _
  have r1 : Row H1 H.next 29 [str [],str []]:=by rw [e1]; exact Row.new H 29 [str [],str []]
  obtain ⟨H2,r2,b2,n2,est⟩:=r1.st_all (n:=2) (ys:=[str l[i].1,str l[i].2]) (by omega) rfl rfl (by intro v hv; simp at hv; rcases hv with rfl | rfl <;> exact one_str)
  have g2 : Grow H H2:=b2.of g1 (Nat.le_refl _)
  have la:=r2.la 2 rfl
  obtain ⟨H3,g3,e39⟩:=s39r (hG.grow (P.g.trans g2)) hu1 hu2
  obtain ⟨H4,e4⟩ : ∃ H4,H4 = H3.alloc (.cells false 0 9 1 (setCells [str (utx l[i])] 0 .leaf)):=⟨_,rfl⟩
  have e4' : H3.alloc (.cells false 0 9 1 (setCells [str (l[i].1 ++ [58,58] ++ quoB l[i].2)] 0 .leaf)) = H4:=e4.symm
  have g4 : Grow H3 H4:=by rw [e4]; exact Grow.alloc H3 _
  have r4 : Row H4 H3.next 9 [str (utx l[i])]:=by rw [e4]; exact Row.new H3 9 [str (utx l[i])]
  obtain ⟨H5,x5,P5,eapp⟩:=P.add ((g2.trans g3).trans g4) r4 (by rw [List.length_map,List.length_take]; omega)
  have hlt : (i : Int) < (l.length : Int):=by omega
  have hw:=inc_i (show i < 1000 by omega)
  refine ⟨H5,x5,by rw [List.take_add_one,hil,List.map_append]; exact P5,?_⟩
  rintro fr ⟨f1,f3,f4,f6,f7,f8⟩ M hM R k res hr
  obtain ⟨m,rfl⟩ : ∃ m,M = m + 3600:=⟨M - 3600,by omega⟩
  unfold Lp15a
  rw [run_loop]
  simp only [EX,reduceIte,Nat.reduceEqDiff,Nat.reduceAdd,Int.reduceEq,Int.reduceLT,Int.reduceLE,reduceCtorEq,Nat.reduceLeDiff,Nat.reduceSub,Nat.reduceLT,f3,f6,f7,f8,hlt,eix,ld1]
  rw [← e1]
  refine (est _ _).trans ?_
  simp only [EX,reduceIte,Nat.reduceEqDiff,Nat.reduceAdd,Int.reduceEq,Int.reduceLT,Int.reduceLE,reduceCtorEq,Nat.reduceLeDiff,Nat.reduceSub,Nat.reduceLT,f3,la]
  rw [e39 _ (by omega)]
  simp only [EX,reduceIte,Nat.reduceEqDiff,Nat.reduceAdd,Int.reduceEq,Int.reduceLT,Int.reduceLE,reduceCtorEq,Nat.reduceLeDiff,Nat.reduceSub,Nat.reduceLT,f3]
  rw [e4',eapp]
  simp only [EX,reduceIte,Nat.reduceEqDiff,Nat.reduceAdd,Int.reduceEq,Int.reduceLT,Int.reduceLE,reduceCtorEq,Nat.reduceLeDiff,Nat.reduceSub,Nat.reduceLT,f8,i_add,hw]
  exact hr _ ⟨by simp only [V_S,Nat.reduceEqDiff,reduceIte]; exact f1,by simp only [V_S,Nat.reduceEqDiff,reduceIte],by simp only [V_S,Nat.reduceEqDiff,reduceIte]; exact f4,by simp only [V_S,Nat.reduceEqDiff,reduceIte]; exact f6,by simp only [V_S,Nat.reduceEqDiff,reduceIte]; exact f7,by simp only [V_S,Nat.reduceEqDiff,reduceIte]⟩
 obtain ⟨H',xo,P,e⟩:=G
 rw [List.take_length] at P
 exact ⟨H',xo,P,e⟩
def F15b (p : Pa) (y3 xa : AV) (n i : Nat) (y : AV) (fr : Tr AV) : Prop:=V fr 1 = .p p 0∧V fr 3 = y3∧V fr 4 = y∧V fr 23 = xa∧V fr 24 = .i .i64 (n : Int)∧V fr 25 = .i .i64 (i : Int)
theorem loop15b {H0 : Heap} (hG : Gl H0) {p : Pa} {y3 x : AV} {l : List (List UInt8 × Va)} (hx : Lst 8 AtP Any H0 x l) (h8 : l.length≤3) :
  ∃ H' xo,Txs H0 H' xo (l.map atx)∧∀ fr,F15b p y3 x l.length 0 .ns fr→∀ M,7000 + l.length≤M→∀ (R : Type) (k : XK R) (res : Option R),(∀ fr',F15b p y3 x l.length l.length xo fr'→k (.exit 2) fr' H' = res)→runK tbl M R Lp15b fr H0 k = res:=by
 have G:=loop_cps (Lp:=Lp15b) (ex:=2) (n:=l.length) (c:=7000) (St:=AV) (fun i H y=>Txs H0 H y ((l.take i).map atx)) (fun i y fr=>F15b p y3 x l.length i y fr) ?hend ?hstep l.length 0 H0 .ns (by omega) (Txs.init H0)
 case hend =>
  rintro H y P fr ⟨f1,f3,f4,f6,f7,f8⟩ M hM R k res hr
  obtain ⟨m,rfl⟩ : ∃ m,M = m + 100:=⟨M - 100,by omega⟩
  unfold Lp15b
  rw [run_loop]
  simp only [EX,reduceIte,Nat.reduceEqDiff,Nat.reduceAdd,Int.reduceEq,Int.reduceLT,Int.reduceLE,reduceCtorEq,Nat.reduceLeDiff,Nat.reduceSub,Nat.reduceLT,f7,f8,Int.lt_irrefl]
  exact hr _ ⟨by simp only [V_S,Nat.reduceEqDiff,reduceIte]; exact f1,by simp only [V_S,Nat.reduceEqDiff,reduceIte]; exact f3,by simp only [V_S,Nat.reduceEqDiff,reduceIte]; exact f4,by simp only [V_S,Nat.reduceEqDiff,reduceIte]; exact f6,by simp only [V_S,Nat.reduceEqDiff,reduceIte]; exact f7,by simp only [V_S,Nat.reduceEqDiff,reduceIte]; exact f8⟩
 case hstep =>
  rintro i H y hi P
  have hil : l[i]? = some l[i]:=List.getElem?_eq_getElem hi
  obtain ⟨a,o,bs,hat,ha,eix,_,eld⟩:=(hx.grow atP P.g).at atP hil
  have hatl:=atx_le hat
  have hb8:=atP.len hat
  have hb1:=atP.ones hat
  have ld1 : ∀ (R : Type) (c : HK R),ldC true 8 (.p a o) c H = c (.ag bs) H:=by
   intro R c
   have:=eld H (Grow.refl _) 0 8 (by omega) R c
   rw [List.drop_zero,List.take_of_length_le (by omega)] at this
   exact this
  obtain ⟨H1,e1⟩ : ∃ H1,H1 = H.alloc (.cells false 0 90 8 (setCells [str [],.i .i64 0,.b false,.i .i64 0,str [],str [],str [],.ns] 0 .leaf)):=⟨_,rfl⟩
  have g1 : Grow H H1:=by rw [e1]; exact Grow.alloc H _
  have n1 : H1.next.toN = H.next.toN + 1:=by rw [e1]; exact next_alloc H _
  have r1 : Row H1 H.next 90 [str [],.i .i64 0,.b false,.i .i64 0,str [],str [],str [],.ns]:=by rw [e1]; exact Row.new H 90 [str [],.i .i64 0,.b false,.i .i64 0,str [],str [],str [],.ns]
  obtain ⟨H2,r2,b2,n2,est⟩:=r1.st_all (n:=8) (ys:=bs) (by omega) hb8 rfl hb1
  have g2 : Grow H H2:=b2.of g1 (Nat.le_refl _)
  have n2' : H2.next.toN = H1.next.toN:=by rw [n2]
  obtain ⟨cs,rfl,hnm,hva⟩:=hat
  have hc7:=vaP.len hva
  have gb:=Grow.bump 1 H2
  have nb : (H2.bump 1).next.toN = H2.next.toN + 1:=next_bump
  obtain ⟨H3,g3,e40⟩:=s40v (hG.grow (P.g.trans (g2.trans gb))) (vaP.grow hva (g2.trans gb))
  have n3:=g3.next
  have vb : ∀ (R : Type) (k : HK R),ldC true 7 (.p H.next 1) k (H2.bump 1) = k (.ag cs) (H2.bump 1):=by
   intro R k
   have:=(r2.grow gb (by omega)).lds (R:=R) (k:=k) (n:=7) (off:=1) (by rw [List.length_cons]; omega)
   rw [show ((str l[i].1 :: cs).drop 1).take 7 = cs from List.take_of_length_le (by rw [List.drop_one,List.tail_cons]; omega)] at this
   exact this
  have k0b:=(r2.grow gb (by omega)).l 0 (v:=str l[i].1) rfl
  have k03:=(r2.grow (gb.trans g3) (by omega)).l 0 (v:=str l[i].1) rfl
  have axc : avEq (.ag cs) (.ag cs) = true:=vaP.av hva
  have hvl:=va_le hva
  have hsm : (3000 : Nat)≤sMax:=by decide
  have hA:=s_ad (s:=l[i].1) (t:=[58,32]) (by show _ + 2≤_; omega)
  have hB:=s_ad (s:=l[i].1 ++ [58,32]) (t:=l[i].2.tx) (by rw [List.length_append]; show _ + 2 + _≤_; omega)
  obtain ⟨H4,e4⟩ : ∃ H4,H4 = H3.put H2.next (.cells false 0 9 1 (setCells [str (atx l[i])] 0 .leaf)):=⟨_,rfl⟩
  have e4' : H3.put H2.next (.cells false 0 9 1 (setCells [str (l[i].1 ++ [58,32] ++ l[i].2.tx)] 0 .leaf)) = H4:=e4.symm
  have g4 : Grow H2 H4:=by rw [e4]; exact (gb.trans g3).put (Nat.le_refl _) (by omega) _
  have r4 : Row H4 H2.next 9 [str (atx l[i])]:=by rw [e4]; exact ⟨_,get_put,fun j _=>cell_at [str (atx l[i])] j⟩
  obtain ⟨H5,x5,P5,eapp⟩:=P.add (g2.trans g4) r4 (by rw [List.length_map,List.length_take]; omega)
  have hlt : (i : Int) < (l.length : Int):=by omega
  have hw:=inc_i (show i < 1000 by omega)
  refine ⟨H5,x5,by rw [List.take_add_one,hil,List.map_append]; exact P5,?_⟩
  rintro fr ⟨f1,f3,f4,f6,f7,f8⟩ M hM R k res hr
  obtain ⟨m,rfl⟩ : ∃ m,M = m + 7000:=⟨M - 7000,by omega⟩
  unfold Lp15b
  rw [run_loop]
  simp only [EX,reduceIte,Nat.reduceEqDiff,Nat.reduceAdd,Int.reduceEq,Int.reduceLT,Int.reduceLE,reduceCtorEq,Nat.reduceLeDiff,Nat.reduceSub,Nat.reduceLT,f4,f6,f7,f8,hlt,eix,ld1]
  rw [← e1]
  refine (est _ _).trans ?_
  simp only [EX,reduceIte,Nat.reduceEqDiff,Nat.reduceAdd,Int.reduceEq,Int.reduceLT,Int.reduceLE,reduceCtorEq,Nat.reduceLeDiff,Nat.reduceSub,Nat.reduceLT,f4,vb,axc]
  rw [e40 _ (by omega)]
  simp only [EX,reduceIte,Nat.reduceEqDiff,Nat.reduceAdd,Int.reduceEq,Int.reduceLT,Int.reduceLE,reduceCtorEq,Nat.reduceLeDiff,Nat.reduceSub,Nat.reduceLT,f4,k0b,k03,avEq_str,hA,hB]
  rw [e4',eapp]
  simp only [EX,reduceIte,Nat.reduceEqDiff,Nat.reduceAdd,Int.reduceEq,Int.reduceLT,Int.reduceLE,reduceCtorEq,Nat.reduceLeDiff,Nat.reduceSub,Nat.reduceLT,f8,i_add,hw]
  exact hr _ ⟨by simp only [V_S,Nat.reduceEqDiff,reduceIte]; exact f1,by simp only [V_S,Nat.reduceEqDiff,reduceIte]; exact f3,by simp only [V_S,Nat.reduceEqDiff,reduceIte],by simp only [V_S,Nat.reduceEqDiff,reduceIte]; exact f6,by simp only [V_S,Nat.reduceEqDiff,reduceIte]; exact f7,by simp only [V_S,Nat.reduceEqDiff,reduceIte]⟩
 obtain ⟨H',xo,P,e⟩:=G
 rw [List.take_length] at P
 exact ⟨H',xo,P,e⟩
/-- show.Entity -/
theorem s15 {S : Pa→Prop} {H : Heap} (hG : Gl H) {bs : List AV} {e : En} (h : EnP S H bs e) : Tells 15 9000 [.ag bs] H (str e.tx):=by
 obtain ⟨xp,xa,rfl,hu1,hu2,hp,hp3,ha,ha3⟩:=h
 have hp:=hp.weak uidP (S':=Any) fun _ _ _=>trivial
 have ha:=ha.weak atP (S':=Any) fun _ _ _=>trivial
 obtain ⟨H1,e1,g1,r1,n1⟩:=box1 49 H [str e.u.1,str e.u.2,xp,xa]
 have l2:=r1.l 2 (v:=xp) rfl
 obtain ⟨H2,x2,P2,el2⟩:=loop15a (p:=H.next) (hG.grow g1) (hp.grow uidP g1) hp3
 have l3:=(r1.grow P2.g (by omega)).l 3 (v:=xa) rfl
 obtain ⟨H3,x3,P3,el3⟩:=loop15b (p:=H.next) (y3:=x2) (hG.grow (g1.trans P2.g)) (ha.grow atP (g1.trans P2.g)) ha3
 have n2:=P2.g.next
 have n3:=P3.g.next
 have la : ∀ (R : Type) (k : HK R),ldC true 2 (.p H.next 0) k H3 = k (.ag [str e.u.1,str e.u.2]) H3:=fun R k=>(r1.grow (P2.g.trans P3.g) (by omega)).lds (n:=2) (off:=0) (by show 2≤4; omega)
 obtain ⟨H4,g4,e39⟩:=s39r (hG.grow (g1.trans (P2.g.trans P3.g))) hu1 hu2
 have hsu:=sum_map (f:=utx) (l:=e.ps) (c:=224) fun r hr=>by obtain ⟨bs,hb⟩:=hp.all r hr; exact utx_le hb
 have hsa:=sum_map (f:=atx) (l:=e.at_) (c:=2042) fun r hr=>by obtain ⟨bs,hb⟩:=ha.all r hr; exact atx_le hb
 obtain ⟨H5,g5,e33⟩:=s33 ((P2.strs.grow P3.g).grow g4) (by rw [List.length_map]; omega) (by omega)
 obtain ⟨H6,g6,e34⟩:=s34 (P3.strs.grow (g4.trans g5)) (by rw [List.length_map]; omega) (by omega)
 have hpl:=parT_le (e.ps.map utx)
 have hbl:=braT_le (e.at_.map atx)
 rw [List.length_map] at hpl hbl
 have hul : (utx e.u).length≤224:=utx_le (S:=Any) (H:=H) ⟨rfl,hu1,hu2⟩
 have hsm : (20000 : Nat)≤sMax:=by decide
 have hA:=s_ad (s:=utx e.u) (t:=parT (e.ps.map utx)) (by omega)
 have hB:=s_ad (s:=utx e.u ++ parT (e.ps.map utx)) (t:=braT (e.at_.map atx)) (by rw [List.length_append]; omega)
 refine ⟨H6,(g1.trans (P2.g.trans P3.g)).trans (g4.trans (g5.trans g6)),fun M hM R k=>?_⟩
 obtain ⟨m,rfl⟩ : ∃ m,M = m + 9000:=⟨M - 9000,by omega⟩
 have e1' : H.alloc (.cells false 0 49 4 (setCells [str e.u.1,str e.u.2,xp,xa] 0 .leaf)) = H1:=e1.symm
 rw [call_eq L15]
 unfold B15
 simp only [EX,reduceIte,Nat.reduceEqDiff,Nat.reduceAdd,Int.reduceEq,Int.reduceLT,Int.reduceLE,reduceCtorEq,Nat.reduceLeDiff,Nat.reduceSub,Nat.reduceLT]
 rw [e1']
 simp only [EX,reduceIte,Nat.reduceEqDiff,Nat.reduceAdd,Int.reduceEq,Int.reduceLT,Int.reduceLE,reduceCtorEq,Nat.reduceLeDiff,Nat.reduceSub,Nat.reduceLT,l2,hp.len]
 refine el2 _ ?ff _ ?hm R _ _ ?ee
 case ff=>exact ⟨by simp only [V_S,Nat.reduceEqDiff,reduceIte],by simp only [V_S,Nat.reduceEqDiff,reduceIte],by simp only [V_S,Nat.reduceEqDiff,reduceIte],by simp only [V_S,Nat.reduceEqDiff,reduceIte],by simp only [V_S,Nat.reduceEqDiff,reduceIte],by (simp only [V_S,Nat.reduceEqDiff,reduceIte]) <;> rfl⟩
 case hm=>omega
 case ee =>
  rintro fr' ⟨c1,c3,c4,c10,c11,c12⟩
  simp only [EX,reduceIte,Nat.reduceEqDiff,Nat.reduceAdd,Int.reduceEq,Int.reduceLT,Int.reduceLE,reduceCtorEq,Nat.reduceLeDiff,Nat.reduceSub,Nat.reduceLT,c1,l3,ha.len]
  refine el3 _ ?ff2 _ ?hm2 R _ _ ?ee2
  case ff2=>exact ⟨by simp only [V_S,Nat.reduceEqDiff,reduceIte]; exact c1,by simp only [V_S,Nat.reduceEqDiff,reduceIte]; exact c3,by simp only [V_S,Nat.reduceEqDiff,reduceIte]; exact c4,by simp only [V_S,Nat.reduceEqDiff,reduceIte],by simp only [V_S,Nat.reduceEqDiff,reduceIte],by (simp only [V_S,Nat.reduceEqDiff,reduceIte]) <;> rfl⟩
  case hm2=>omega
  case ee2 =>
   rintro fr2 ⟨d1,d3,d4,d23,d24,d25⟩
   simp only [EX,reduceIte,Nat.reduceEqDiff,Nat.reduceAdd,Int.reduceEq,Int.reduceLT,Int.reduceLE,reduceCtorEq,Nat.reduceLeDiff,Nat.reduceSub,Nat.reduceLT,d1,la]
   rw [e39 _ (by omega)]
   simp only [EX,reduceIte,Nat.reduceEqDiff,Nat.reduceAdd,Int.reduceEq,Int.reduceLT,Int.reduceLE,reduceCtorEq,Nat.reduceLeDiff,Nat.reduceSub,Nat.reduceLT,d3]
   rw [e33 _ (by omega),show str (e.u.1 ++ [58,58] ++ quoB e.u.2) = str (utx e.u) from rfl]
   simp only [EX,reduceIte,Nat.reduceEqDiff,Nat.reduceAdd,Int.reduceEq,Int.reduceLT,Int.reduceLE,reduceCtorEq,Nat.reduceLeDiff,Nat.reduceSub,Nat.reduceLT,hA,d4]
   rw [e34 _ (by omega)]
   simp only [EX,reduceIte,Nat.reduceEqDiff,Nat.reduceAdd,Int.reduceEq,Int.reduceLT,Int.reduceLE,reduceCtorEq,Nat.reduceLeDiff,Nat.reduceSub,Nat.reduceLT,hB]
   exact rfl
end Go.Proofs.YtmmmjhkgjmbfaaaDoor

/- An entity's text,the document's (chancelref6.Entity). -/
namespace Go.Proofs.YtmmmjhkgjmbfaaaDoor
open Go Go.Vai
set_option maxRecDepth 100000
set_option maxHeartbeats 1600000
set_option linter.unusedSimpArgs false
/-- What stands in braces. -/
def bodT (ts : List (List UInt8)) : List UInt8:=if ts = [] then [] else [32] ++ joinS ts
def endT (n : Nat) : List UInt8:=if n = 0 then [125,59] else [32,125,59]
theorem braT_eq (ts : List (List UInt8)) : braT ts = [32,123] ++ bodT ts ++ endT ts.length:=by
 unfold braT bodT endT
 cases ts with
 | nil=>rfl
 | cons t ts =>
  rw [if_neg (by simp),if_neg (by simp),if_neg (by simp)]
  simp
theorem parT_snoc (ts : List (List UInt8)) (s : List UInt8) : parT (ts ++ [s]) = if ts = [] then [32,105,110,32] ++ s else parT ts ++ [44,32] ++ s:=by
 unfold parT
 rw [if_neg (by simp),joinS_end]
 by_cases h : ts = []
 ·rw [if_pos h,if_pos h]
 ·rw [if_neg h,if_neg h,if_neg h]; simp
theorem bodT_snoc (ts : List (List UInt8)) (s : List UInt8) : bodT (ts ++ [s]) = if ts = [] then [32] ++ s else bodT ts ++ [44] ++ ([32] ++ s):=by
 unfold bodT
 rw [if_neg (by simp),joinS_end]
 by_cases h : ts = []
 ·rw [if_pos h,if_pos h]
 ·rw [if_neg h,if_neg h,if_neg h]; simp
theorem bodT_le (ts : List (List UInt8)) : (bodT ts).length≤1 + (2 * ts.length + sumL ts):=by
 have h:=joinS_le ts
 unfold bodT
 split
 ·exact Nat.zero_le _
 ·rw [List.length_append]; show 1 + _≤_; omega
theorem sum_take (l : List (List UInt8)) (i : Nat) : sumL (l.take i)≤sumL l:=by
 have h:=sumL_app (l.take i) (l.drop i)
 rw [List.take_append_drop] at h
 omega
/-- The end of a row in braces. -/
theorem s38 (n : Nat) (H : Heap) : Tells 38 40 [.i .i64 (n : Int)] H (str (endT n)):=by
 refine ⟨H,Grow.refl H,fun M hM R k=>?_⟩
 obtain ⟨m,rfl⟩ : ∃ m,M = m + 40:=⟨M - 40,by omega⟩
 rw [call_eq L38]
 unfold B38
 by_cases h : n = 0
 ·subst h
  simp only [EX,reduceIte,Nat.reduceEqDiff,Nat.reduceAdd,Int.reduceEq,Int.reduceLT,Int.reduceLE,reduceCtorEq,Nat.reduceLeDiff,Nat.reduceSub,Nat.reduceLT]
  exact rfl
 ·have h0 : ¬ (n : Int) = 0:=by omega
  simp only [EX,reduceIte,Nat.reduceEqDiff,Nat.reduceAdd,Int.reduceEq,Int.reduceLT,Int.reduceLE,reduceCtorEq,Nat.reduceLeDiff,Nat.reduceSub,Nat.reduceLT,h0]
  unfold endT
  rw [if_neg h]
def F16a (p : Pa) (i : Nat) (s : List UInt8) (fr : Tr AV) : Prop:=V fr 1 = .p p 0∧V fr 3 = str s∧V fr 4 = .i .i64 (i : Int)
theorem loop16a {H0 : Heap} {p : Pa} {t : List UInt8} (ht : t.length≤300) {bs : List AV} {x : AV} {l : List (List UInt8 × List UInt8)} (hx : Lst 2 UidP Any H0 x l) (h3 : l.length≤3) (hp : p.toN < H0.next.toN) (hr : Row H0 p 49 bs) (hb : bs[2]? = some x) :
  ∃ H',Grow H0 H'∧∀ fr,F16a p 0 t fr→∀ M,2100 + l.length≤M→∀ (R : Type) (k : XK R) (res : Option R),(∀ fr',F16a p l.length (t ++ parT (l.map utx)) fr'→k (.exit 0) fr' H' = res)→runK tbl M R Lp16a fr H0 k = res:=by
 have hsa:=sum_map (f:=utx) (l:=l) (c:=224) fun r hr=>by obtain ⟨bs,hb⟩:=hx.all r hr; exact utx_le hb
 have hsm : (5000 : Nat)≤sMax:=by decide
 have G:=loop_cps (Lp:=Lp16a) (ex:=0) (n:=l.length) (c:=2100) (St:=Unit) (fun i H _=>Grow H0 H) (fun i _ fr=>F16a p i (t ++ parT ((l.take i).map utx)) fr) ?hend ?hstep l.length 0 H0 () (by omega) (Grow.refl H0)
 case hend =>
  rintro H _ g fr ⟨f1,f3,f4⟩ M hM R k res hr'
  obtain ⟨m,rfl⟩ : ∃ m,M = m + 100:=⟨M - 100,by omega⟩
  have l2:=(hr.grow g hp).l 2 hb
  unfold Lp16a
  rw [run_loop]
  simp only [EX,reduceIte,Nat.reduceEqDiff,Nat.reduceAdd,Int.reduceEq,Int.reduceLT,Int.reduceLE,reduceCtorEq,Nat.reduceLeDiff,Nat.reduceSub,Nat.reduceLT,f1,f4,l2,hx.len,Int.lt_irrefl]
  exact hr' _ ⟨by simp only [V_S,Nat.reduceEqDiff,reduceIte]; exact f1,by simp only [V_S,Nat.reduceEqDiff,reduceIte]; exact f3,by simp only [V_S,Nat.reduceEqDiff,reduceIte]; exact f4⟩
 case hstep =>
  rintro i H _ hi g
  have hil : l[i]? = some l[i]:=List.getElem?_eq_getElem hi
  obtain ⟨a,o,bs',hu,ha,eix,_,eld⟩:=hx.at uidP hil
  have hul:=utx_le hu
  obtain ⟨rfl,hu1,hu2⟩:=hu
  have ld1 : ∀ (R : Type) (c : HK R),ldC true 2 (.p a o) c H = c (.ag [str l[i].1,str l[i].2]) H:=eld H g 0 2 (by omega)
  obtain ⟨H1,g1,e26⟩:=s26r (H:=H) hu1 hu2
  have l2:=(hr.grow g hp).l 2 hb
  have hlt : (i : Int) < (l.length : Int):=by omega
  have hw:=inc_i (show i < 1000 by omega)
  have hpl:=parT_le ((l.take i).map utx)
  have hst:=sum_take (l.map utx) i
  rw [← List.map_take] at hst
  have htl : (l.take i).length≤3:=by rw [List.length_take]; omega
  rw [List.length_map] at hpl
  have es : parT ((l.take (i + 1)).map utx) = if i = 0 then [32,105,110,32] ++ utx l[i] else parT ((l.take i).map utx) ++ [44,32] ++ utx l[i]:=by
   rw [take_snoc hi,List.map_append]
   show parT (_ ++ [utx l[i]]) = _
   rw [parT_snoc]
   simp only [List.map_eq_nil_iff,take_nil_iff hi]
  refine ⟨H1,(),g.trans g1,?_⟩
  rintro fr ⟨f1,f3,f4⟩ M hM R k res hr'
  obtain ⟨m,rfl⟩ : ∃ m,M = m + 2100:=⟨M - 2100,by omega⟩
  unfold Lp16a
  rw [run_loop]
  by_cases h0 : i = 0
  ·rw [if_pos h0] at es
   rw [es] at hr'
   subst h0
   have hpe : parT ((l.take 0).map utx) = []:=rfl
   rw [hpe,List.append_nil] at f3
   have hA:=s_ad (s:=t) (t:=[32,105,110,32]) (by show _ + 4≤_; omega)
   have hB:=s_ad (s:=t ++ ([32,105,110,32] : List UInt8)) (t:=utx l[0]) (by rw [List.length_append]; show _ + 4 + _≤_; omega)
   have hlt : (0 : Int) < (l.length : Int):=hlt
   have eix : ∀ (R : Type) (k : HK R) (G : Heap),ixaC 2 x (.i .i64 0) k G = k (.p a o) G:=eix
   have f4 : V fr 4 = .i .i64 0:=f4
   have hw : IntKind.i64.wrap (0 + 1) = ((0 + 1 : Nat) : Int):=hw
   simp only [EX,reduceIte,Nat.reduceEqDiff,Nat.reduceAdd,Int.reduceEq,Int.reduceLT,Int.reduceLE,reduceCtorEq,Nat.reduceLeDiff,Nat.reduceSub,Nat.reduceLT,f1,f3,f4,l2,hx.len,hlt,eix,ld1,hA]
   rw [e26 _ (by omega),show str (l[0].1 ++ ([58,58] : List UInt8) ++ quoB l[0].2) = str (utx l[0]) from rfl]
   simp only [EX,reduceIte,Nat.reduceEqDiff,Nat.reduceAdd,Int.reduceEq,Int.reduceLT,Int.reduceLE,reduceCtorEq,Nat.reduceLeDiff,Nat.reduceSub,Nat.reduceLT,hB,f4,i_add,hw]
   exact hr' _ ⟨by simp only [V_S,Nat.reduceEqDiff,reduceIte]; exact f1,by simp only [V_S,Nat.reduceEqDiff,reduceIte]; rw [List.append_assoc],by simp only [V_S,Nat.reduceEqDiff,reduceIte]⟩
  ·have h0' : ¬ (i : Int) = 0:=by omega
   rw [if_neg h0] at es
   rw [es] at hr'
   have hA:=s_ad (s:=t ++ parT ((l.take i).map utx)) (t:=[44,32]) (by rw [List.length_append]; show _ + 2≤_; omega)
   have hB:=s_ad (s:=t ++ parT ((l.take i).map utx) ++ ([44,32] : List UInt8)) (t:=utx l[i]) (by rw [List.length_append,List.length_append]; show _ + 2 + _≤_; omega)
   simp only [EX,reduceIte,Nat.reduceEqDiff,Nat.reduceAdd,Int.reduceEq,Int.reduceLT,Int.reduceLE,reduceCtorEq,Nat.reduceLeDiff,Nat.reduceSub,Nat.reduceLT,f1,f3,f4,l2,hx.len,hlt,h0',eix,ld1,hA]
   rw [e26 _ (by omega),show str (l[i].1 ++ [58,58] ++ quoB l[i].2) = str (utx l[i]) from rfl]
   simp only [EX,reduceIte,Nat.reduceEqDiff,Nat.reduceAdd,Int.reduceEq,Int.reduceLT,Int.reduceLE,reduceCtorEq,Nat.reduceLeDiff,Nat.reduceSub,Nat.reduceLT,hB,f4,i_add,hw]
   exact hr' _ ⟨by simp only [V_S,Nat.reduceEqDiff,reduceIte]; exact f1,by simp only [V_S,Nat.reduceEqDiff,reduceIte]; simp only [List.append_assoc],by simp only [V_S,Nat.reduceEqDiff,reduceIte]⟩
 obtain ⟨H',_,g,e⟩:=G
 rw [List.take_length] at e
 exact ⟨H',g,fun fr f=>e fr (by obtain ⟨f1,f3,f4⟩:=f; exact ⟨f1,by rw [f3]; simp [parT],f4⟩)⟩
def F16b (p : Pa) (i : Nat) (s : List UInt8) (fr : Tr AV) : Prop:=V fr 1 = .p p 0∧V fr 3 = str s∧V fr 5 = .i .i64 (i : Int)
theorem loop16b {H0 : Heap} {p : Pa} {t : List UInt8} (ht : t.length≤2000) {bs : List AV} {x : AV} {l : List (List UInt8 × Va)} (hx : Lst 8 AtP Any H0 x l) (h3 : l.length≤3) (hp : p.toN < H0.next.toN) (hr : Row H0 p 49 bs) (hb : bs[3]? = some x) :
  ∃ H',Grow H0 H'∧∀ fr,F16b p 0 t fr→∀ M,3500 + l.length≤M→∀ (R : Type) (k : XK R) (res : Option R),(∀ fr',F16b p l.length (t ++ bodT (l.map atx)) fr'→k (.exit 2) fr' H' = res)→runK tbl M R Lp16b fr H0 k = res:=by
 have hsa:=sum_map (f:=atx) (l:=l) (c:=2042) fun r hr=>by obtain ⟨bs,hb⟩:=hx.all r hr; exact atx_le hb
 have hsm : (50000 : Nat)≤sMax:=by decide
 have hcell:=hx.cell
 have axx : avEq x x = true:=hx.self
 have G:=loop_cps (Lp:=Lp16b) (ex:=2) (n:=l.length) (c:=3500) (St:=Unit) (fun i H _=>Grow H0 H) (fun i _ fr=>F16b p i (t ++ bodT ((l.take i).map atx)) fr) ?hend ?hstep l.length 0 H0 () (by omega) (Grow.refl H0)
 case hend =>
  rintro H _ g fr ⟨f1,f3,f5⟩ M hM R k res hr'
  obtain ⟨m,rfl⟩ : ∃ m,M = m + 100:=⟨M - 100,by omega⟩
  have l2:=(hr.grow g hp).l 3 hb
  unfold Lp16b
  rw [run_loop]
  simp only [EX,reduceIte,Nat.reduceEqDiff,Nat.reduceAdd,Int.reduceEq,Int.reduceLT,Int.reduceLE,reduceCtorEq,Nat.reduceLeDiff,Nat.reduceSub,Nat.reduceLT,f1,f5,l2,hx.len,Int.lt_irrefl]
  exact hr' _ ⟨by simp only [V_S,Nat.reduceEqDiff,reduceIte]; exact f1,by simp only [V_S,Nat.reduceEqDiff,reduceIte]; exact f3,by simp only [V_S,Nat.reduceEqDiff,reduceIte]; exact f5⟩
 case hstep =>
  rintro i H _ hi g
  have hil : l[i]? = some l[i]:=List.getElem?_eq_getElem hi
  obtain ⟨a,o,bs',hat,ha,eix,eld1,eld⟩:=(hx.grow atP g).at atP hil
  have hatl:=atx_le hat
  obtain ⟨cs,rfl,hnm,hva⟩:=hat
  have hc7:=vaP.len hva
  have axc : avEq (.ag cs) (.ag cs) = true:=vaP.av hva
  have hvl:=va_le hva
  obtain ⟨H1,g1,e41⟩:=s41v hva
  have vb : ∀ (R : Type) (k : HK R),ldC true 7 (.p a (o + 1)) k H = k (.ag cs) H:=by
   intro R k
   have:=eld H (Grow.refl _) 1 7 (by omega) R k
   rw [show ((str l[i].1 :: cs).drop 1).take 7 = cs from List.take_of_length_le (by rw [List.drop_one,List.tail_cons]; omega)] at this
   exact this
  have k0 : ∀ (R : Type) (k : HK R),ldC false 1 (.p a (o + 0)) k H = k (str l[i].1) H:=fun R k=>eld1 H (Grow.refl _) 0 (str l[i].1) rfl R k
  have k1 : ∀ (R : Type) (k : HK R),ldC false 1 (.p a (o + 0)) k H1 = k (str l[i].1) H1:=fun R k=>eld1 H1 g1 0 (str l[i].1) rfl R k
  have l2:=(hr.grow g hp).l 3 hb
  have l21:=(hr.grow (g.trans g1) hp).l 3 hb
  have hlt : (i : Int) < (l.length : Int):=by omega
  have hw:=inc_i (show i < 1000 by omega)
  have hpl:=bodT_le ((l.take i).map atx)
  have hst:=sum_take (l.map atx) i
  rw [← List.map_take] at hst
  have htl : (l.take i).length≤3:=by rw [List.length_take]; omega
  rw [List.length_map] at hpl
  have es : bodT ((l.take (i + 1)).map atx) = if i = 0 then [32] ++ atx l[i] else bodT ((l.take i).map atx) ++ [44] ++ ([32] ++ atx l[i]):=by
   rw [take_snoc hi,List.map_append]
   show bodT (_ ++ [atx l[i]]) = _
   rw [bodT_snoc]
   simp only [List.map_eq_nil_iff,take_nil_iff hi]
  refine ⟨H1,(),g.trans g1,?_⟩
  rintro fr ⟨f1,f3,f5⟩ M hM R k res hr'
  obtain ⟨m,rfl⟩ : ∃ m,M = m + 3500:=⟨M - 3500,by omega⟩
  unfold Lp16b
  rw [run_loop]
  by_cases h0 : i = 0
  ·rw [if_pos h0] at es
   rw [es] at hr'
   subst h0
   have hpe : bodT ((l.take 0).map atx) = []:=rfl
   rw [hpe,List.append_nil] at f3
   have hA:=s_ad (s:=t) (t:=[32]) (by show _ + 1≤_; omega)
   have hB:=s_ad (s:=t ++ ([32] : List UInt8)) (t:=l[0].1) (by rw [List.length_append]; show _ + 1 + _≤_; omega)
   have hC:=s_ad (s:=t ++ ([32] : List UInt8) ++ l[0].1) (t:=[58,32]) (by rw [List.length_append,List.length_append]; show _ + 1 + _ + 2≤_; omega)
   have hD:=s_ad (s:=t ++ ([32] : List UInt8) ++ l[0].1 ++ [58,32]) (t:=l[0].2.tx) (by rw [List.length_append,List.length_append,List.length_append]; show _ + 1 + _ + 2 + _≤_; omega)
   have hlt : (0 : Int) < (l.length : Int):=hlt
   have eix : ∀ (R : Type) (k : HK R) (G : Heap),ixaC 8 x (.i .i64 0) k G = k (.p a o) G:=eix
   have f5 : V fr 5 = .i .i64 0:=f5
   have hw : IntKind.i64.wrap (0 + 1) = ((0 + 1 : Nat) : Int):=hw
   simp only [EX,reduceIte,Nat.reduceEqDiff,Nat.reduceAdd,Int.reduceEq,Int.reduceLT,Int.reduceLE,reduceCtorEq,Nat.reduceLeDiff,Nat.reduceSub,Nat.reduceLT,bump_0,f1,f3,f5,l2,hx.len,hlt,Int.lt_irrefl,eix,vb,axx,axc]
   rw [e41 _ (by omega)]
   simp only [EX,reduceIte,Nat.reduceEqDiff,Nat.reduceAdd,Int.reduceEq,Int.reduceLT,Int.reduceLE,reduceCtorEq,Nat.reduceLeDiff,Nat.reduceSub,Nat.reduceLT,bump_0,f1,f3,f5,l2,l21,axx,avEq_str,eix,k0,k1,hA,hB,hC,hD,i_add,hw]
   exact hr' _ ⟨by simp only [V_S,Nat.reduceEqDiff,reduceIte]; exact f1,by simp only [V_S,Nat.reduceEqDiff,reduceIte]; unfold atx; simp only [List.append_assoc],by simp only [V_S,Nat.reduceEqDiff,reduceIte]⟩
  ·have h0' : (0 : Int) < (i : Int):=by omega
   rw [if_neg h0] at es
   rw [es] at hr'
   have hZ:=s_ad (s:=t ++ bodT ((l.take i).map atx)) (t:=[44]) (by rw [List.length_append]; show _ + 1≤_; omega)
   have hA:=s_ad (s:=t ++ bodT ((l.take i).map atx) ++ [44]) (t:=[32]) (by rw [List.length_append,List.length_append]; show _ + 1 + 1≤_; omega)
   have hB:=s_ad (s:=t ++ bodT ((l.take i).map atx) ++ [44] ++ [32]) (t:=l[i].1) (by rw [List.length_append,List.length_append,List.length_append]; show _ + 1 + 1 + _≤_; omega)
   have hC:=s_ad (s:=t ++ bodT ((l.take i).map atx) ++ [44] ++ [32] ++ l[i].1) (t:=[58,32]) (by rw [List.length_append,List.length_append,List.length_append,List.length_append]; show _ + 1 + 1 + _ + 2≤_; omega)
   have hD:=s_ad (s:=t ++ bodT ((l.take i).map atx) ++ [44] ++ [32] ++ l[i].1 ++ [58,32]) (t:=l[i].2.tx) (by rw [List.length_append,List.length_append,List.length_append,List.length_append,List.length_append]; show _ + 1 + 1 + _ + 2 + _≤_; omega)
   simp only [EX,reduceIte,Nat.reduceEqDiff,Nat.reduceAdd,Int.reduceEq,Int.reduceLT,Int.reduceLE,reduceCtorEq,Nat.reduceLeDiff,Nat.reduceSub,Nat.reduceLT,bump_0,f1,f3,f5,l2,hx.len,hlt,h0',hZ,eix,vb,axx,axc]
   rw [e41 _ (by omega)]
   simp only [EX,reduceIte,Nat.reduceEqDiff,Nat.reduceAdd,Int.reduceEq,Int.reduceLT,Int.reduceLE,reduceCtorEq,Nat.reduceLeDiff,Nat.reduceSub,Nat.reduceLT,bump_0,f1,f3,f5,l2,l21,axx,avEq_str,eix,k0,k1,hA,hB,hC,hD,i_add,hw]
   exact hr' _ ⟨by simp only [V_S,Nat.reduceEqDiff,reduceIte]; exact f1,by simp only [V_S,Nat.reduceEqDiff,reduceIte]; unfold atx; simp only [List.append_assoc],by simp only [V_S,Nat.reduceEqDiff,reduceIte]⟩
 obtain ⟨H',_,g,e⟩:=G
 rw [List.take_length] at e
 exact ⟨H',g,fun fr f=>e fr (by obtain ⟨f1,f3,f4⟩:=f; exact ⟨f1,by rw [f3]; simp [bodT],f4⟩)⟩
/-- chancelref6.Entity -/
theorem s16 {S : Pa→Prop} {H : Heap} {bs : List AV} {e : En} (h : EnP S H bs e) : Tells 16 5000 [.ag bs] H (str e.tx):=by
 obtain ⟨xp,xa,rfl,hu1,hu2,hp,hp3,ha,ha3⟩:=h
 have hp:=hp.weak uidP (S':=Any) fun _ _ _=>trivial
 have ha:=ha.weak atP (S':=Any) fun _ _ _=>trivial
 obtain ⟨H1,e1,g1,r1,n1⟩:=box1 49 H [str e.u.1,str e.u.2,xp,xa]
 have e1' : H.alloc (.cells false 0 49 4 (setCells [str e.u.1,str e.u.2,xp,xa] 0 .leaf)) = H1:=e1.symm
 have la : ∀ (R : Type) (k : HK R),ldC true 2 (.p H.next 0) k H1 = k (.ag [str e.u.1,str e.u.2]) H1:=fun R k=>r1.lds (n:=2) (off:=0) (by show 2≤4; omega)
 obtain ⟨H2,g2,e26⟩:=s26r (H:=H1) hu1 hu2
 have hul : (utx e.u).length≤224:=utx_le (S:=Any) (H:=H) ⟨rfl,hu1,hu2⟩
 have n2:=g2.next
 obtain ⟨H3,g3,el3⟩:=loop16a (p:=H.next) (t:=utx e.u) (by omega) (hp.grow uidP (g1.trans g2)) hp3 (by omega) (r1.grow g2 (by omega)) rfl
 have hsu:=sum_map (f:=utx) (l:=e.ps) (c:=224) fun r hr=>by obtain ⟨bs,hb⟩:=hp.all r hr; exact utx_le hb
 have hsa:=sum_map (f:=atx) (l:=e.at_) (c:=2042) fun r hr=>by obtain ⟨bs,hb⟩:=ha.all r hr; exact atx_le hb
 have hpl:=parT_le (e.ps.map utx)
 have hbl:=bodT_le (e.at_.map atx)
 rw [List.length_map] at hpl hbl
 have hsm : (20000 : Nat)≤sMax:=by decide
 have n3:=g3.next
 have hA:=s_ad (s:=utx e.u ++ parT (e.ps.map utx)) (t:=[32,123]) (by rw [List.length_append]; show _ + 2≤_; omega)
 obtain ⟨H4,g4,el4⟩:=loop16b (p:=H.next) (t:=utx e.u ++ parT (e.ps.map utx) ++ [32,123]) (by rw [List.length_append,List.length_append]; show _ + 2≤_; omega) (ha.grow atP (g1.trans (g2.trans g3))) ha3 (by omega) (r1.grow (g2.trans g3) (by omega)) rfl
 have l3:=(r1.grow (g2.trans (g3.trans g4)) (by omega)).l 3 (v:=xa) rfl
 obtain ⟨H5,g5,e38⟩:=s38 e.at_.length H4
 have hle : (endT e.at_.length).length≤3:=by unfold endT; split <;> decide
 have hB:=s_ad (s:=utx e.u ++ parT (e.ps.map utx) ++ [32,123] ++ bodT (e.at_.map atx)) (t:=endT e.at_.length) (by rw [List.length_append,List.length_append,List.length_append]; show _ + 2 + _ + _≤_; omega)
 refine ⟨H5,(g1.trans (g2.trans g3)).trans (g4.trans g5),fun M hM R k=>?_⟩
 obtain ⟨m,rfl⟩ : ∃ m,M = m + 5000:=⟨M - 5000,by omega⟩
 rw [call_eq L16]
 unfold B16
 simp only [EX,reduceIte,Nat.reduceEqDiff,Nat.reduceAdd,Int.reduceEq,Int.reduceLT,Int.reduceLE,reduceCtorEq,Nat.reduceLeDiff,Nat.reduceSub,Nat.reduceLT]
 rw [e1']
 simp only [EX,reduceIte,Nat.reduceEqDiff,Nat.reduceAdd,Int.reduceEq,Int.reduceLT,Int.reduceLE,reduceCtorEq,Nat.reduceLeDiff,Nat.reduceSub,Nat.reduceLT,la]
 rw [e26 _ (by omega)]
 simp only [EX,reduceIte,Nat.reduceEqDiff,Nat.reduceAdd,Int.reduceEq,Int.reduceLT,Int.reduceLE,reduceCtorEq,Nat.reduceLeDiff,Nat.reduceSub,Nat.reduceLT]
 refine el3 _ ?ff _ ?hm R _ _ ?ee
 case ff=>exact ⟨by simp only [V_S,Nat.reduceEqDiff,reduceIte],by (simp only [V_S,Nat.reduceEqDiff,reduceIte]) <;> rfl,by (simp only [V_S,Nat.reduceEqDiff,reduceIte]) <;> rfl⟩
 case hm=>omega
 case ee =>
  rintro fr' ⟨c1,c3,c4⟩
  simp only [EX,reduceIte,Nat.reduceEqDiff,Nat.reduceAdd,Int.reduceEq,Int.reduceLT,Int.reduceLE,reduceCtorEq,Nat.reduceLeDiff,Nat.reduceSub,Nat.reduceLT,c3,hA]
  refine el4 _ ?ff2 _ ?hm2 R _ _ ?ee2
  case ff2=>exact ⟨by simp only [V_S,Nat.reduceEqDiff,reduceIte]; exact c1,by simp only [V_S,Nat.reduceEqDiff,reduceIte],by (simp only [V_S,Nat.reduceEqDiff,reduceIte]) <;> rfl⟩
  case hm2=>omega
  case ee2 =>
   rintro fr2 ⟨d1,d3,d5⟩
   simp only [EX,reduceIte,Nat.reduceEqDiff,Nat.reduceAdd,Int.reduceEq,Int.reduceLT,Int.reduceLE,reduceCtorEq,Nat.reduceLeDiff,Nat.reduceSub,Nat.reduceLT,d1,d3,l3,ha.len]
   rw [e38 _ (by omega)]
   simp only [EX,reduceIte,Nat.reduceEqDiff,Nat.reduceAdd,Int.reduceEq,Int.reduceLT,Int.reduceLE,reduceCtorEq,Nat.reduceLeDiff,Nat.reduceSub,Nat.reduceLT,hB]
   unfold En.tx
   rw [braT_eq,List.length_map]
   simp only [List.append_assoc]
end Go.Proofs.YtmmmjhkgjmbfaaaDoor

/- An entity (chancellaw5.Entity),the whole. -/
namespace Go.Proofs.YtmmmjhkgjmbfaaaDoor
open Go Go.Vai
set_option maxRecDepth 100000
set_option maxHeartbeats 1600000
set_option linter.unusedSimpArgs false
theorem KeepBut.lst {α : Type} {w : Nat} {P : DP α} (hP : Mov w P) {e : Pa} {n : Nat} {H H' : Heap} (K : KeepBut e n H H') {S : Pa→Prop} (hS : ∀ a,S a→a.toN < H.next.toN→a.toN < n∧a ≠ e) {x : AV} {l : List α} (h : Lst w P S H x l) : Lst w P S H' x l :=
 h.mv hP (fun a ha hb=>⟨ha,K.get a (hS a ha hb).1 hb (hS a ha hb).2⟩) K.next
theorem toN_ne {a b : Pa} (h : a.toN ≠ b.toN) : a ≠ b:=fun q=>h (by rw [q])
theorem one_4 {a b : List UInt8} {x y : AV} (hx : oneC x = true) (hy : oneC y = true) : ∀ v ∈ [str a,str b,x,y],oneC v = true:=by
 intro v hv
 simp only [List.mem_cons,List.not_mem_nil,or_false] at hv
 rcases hv with rfl | rfl | rfl | rfl
 ·exact one_str
 ·exact one_str
 ·exact hx
 ·exact hy
/-- chancellaw5.Entity -/
theorem s12 {H : Heap} (hf : Fresh H) {t n : Int} {xp xn xv : AV} {lp ln : List Int} {lv : List Unit} (hxp : IntsP Any H xp lp) (hxn : IntsP Any H xn ln) (hxv : Lst 4 R3Q Any H xv lv) :
  ∃ bs e H',Grow H H'∧EnP (fun a=>H.next.toN≤a.toN) H' bs e∧∀ M,12000≤M→∀ (R : Type) (k : HK R),callK tbl (runK tbl M) R (toPa 12) [.ag [.i .i64 t,.i .i64 n,xp,xn,xv]] H k = k (.ag bs) H':=by
 obtain ⟨H1,e1,g1,r1,n1⟩:=box1 40 H [.i .i64 t,.i .i64 n,xp,xn,xv]
 have e1' : H.alloc (.cells false 0 40 5 (setCells [.i .i64 t,.i .i64 n,xp,xn,xv] 0 .leaf)) = H1:=e1.symm
 obtain ⟨H2,e2,g2,r2,n2⟩:=box1 49 H1 [str [],str [],.ns,.ns]
 have e2' : H1.alloc (.cells false 0 49 4 (setCells [str [],str [],.ns,.ns] 0 .leaf)) = H2:=e2.symm
 have gb:=Grow.bump 2 H2
 have nb : (H2.bump 2).next.toN = H2.next.toN + 2:=next_bump
 obtain ⟨H3,g3,e30⟩:=s30 t (H2.bump 2)
 have n3:=g3.next
 have hsn : H2.next.succ.toN = H2.next.toN + 1:=Pa.toN_succ _
 obtain ⟨H4,e4⟩ : ∃ H4,H4 = H3.put H2.next (.cells false 0 5 1 (setCells [.i .u8 (97 + n % 5)] 0 .leaf)):=⟨_,rfl⟩
 have n4 : H4.next = H3.next:=by rw [e4]
 have g4 : Grow H2 H4:=by rw [e4]; exact (gb.trans g3).put (Nat.le_refl _) (by omega) _
 have r4 : Row H4 H2.next 5 [.i .u8 (97 + n % 5)]:=by rw [e4]; exact ⟨_,get_put,fun j _=>cell_at [.i .u8 (97 + n % 5)] j⟩
 obtain ⟨H5,e5⟩ : ∃ H5,H5 = H4.put H2.next.succ (.cells false 0 49 4 (setCells [str [],str [],.ns,.ns] 0 .leaf)):=⟨_,rfl⟩
 have n5 : H5.next = H4.next:=by rw [e5]
 have g5 : Grow H2 H5:=by rw [e5]; exact g4.put (by omega) (by rw [n4]; omega) _
 have r5 : Row H5 H2.next.succ 49 [str [],str [],.ns,.ns]:=by rw [e5]; exact ⟨_,get_put,fun j _=>cell_at [str [],str [],.ns,.ns] j⟩
 obtain ⟨H6,r6,b6,n6,est6⟩:=r5.st_all (n:=4) (ys:=[str (kdn t),str (let1 n),.ns,.ns]) (by rw [n5,n4]; omega) rfl rfl (by intro v hv; simp at hv; rcases hv with rfl | rfl | rfl <;> first | exact one_str | exact rfl)
 have g6 : Grow H2 H6:=b6.of g5 (by omega)
 have n6' : H6.next.toN = H3.next.toN:=by rw [n6,n5,n4]
 have hd : H3.get H2.next = .dead:=by
  rw [g3.get _ (by omega),get_bump]
  exact ((g1.trans g2).dead hf) _ (Nat.le_refl _)
 have hrd : ∀ (fr : Tr AV) (w : AV) (nn : Nat) (Gs : List Heap),ev fr (T 15) = .sl H2.next 0 1 (some 1) 1→readOk (.b2s (T 15)) fr w 1000002 (H3 :: Gs) nn = true:=fun fr w nn Gs hev=>read_hm (by decide) (home_b2s hev hd)
 have hb2 : ∀ (R : Type) (k : HK R),b2sC (.sl H2.next 0 1 (some 1) 1) k H4 = k (str (let1 n)) H4:=fun R k=>b2s_part r4 (s:=let1 n) rfl (Nat.le_refl _) (let_cs n).symm
 have r1b:=r1.grow g2 (by omega)
 have l0:=(r1b.grow gb (by omega)).l 0 (v:=.i .i64 t) rfl
 have l1:=(r1b.grow (gb.trans g3) (by omega)).l 1 (v:=.i .i64 n) rfl
 have l1b:=(r1b.grow gb (by omega)).l 1 (v:=.i .i64 n) rfl
 have G6 : Grow H H6:=(g1.trans g2).trans g6
 have hG6:=G6.next
 have hpe : H.next ≠ H2.next.succ:=toN_ne (by omega)
 have hqe : H1.next ≠ H2.next.succ:=toN_ne (by omega)
 have F6 : ∀ a : Pa,Any a→a.toN < H.next.toN→(a.toN < H6.next.toN∧a ≠ H2.next.succ)∧H6.get a = H.get a:=fun a _ ha=>⟨⟨by omega,toN_ne (by omega)⟩,G6.get a ha⟩
 obtain ⟨Ha,xa,la,La,Ia,ea⟩:=loop12a (H0:=H6) (q:=H1.next) (p:=H.next) (e:=H2.next.succ) (u:=kdn t) (d:=let1 n) (G6.dead hf) (by omega) (by omega) hpe (r1b.grow g6 (by omega)) r6 (hxp.mv F6 hG6)
 have Ka:=Ia.k
 have na:=Ka.next
 have hAa : Acc H6 29 2 UidP xa la La Ha:=Ia.a
 have hla : la.length = min lp.length 3:=Ia.l
 have Fa : ∀ a : Pa,(a.toN < H6.next.toN∧a ≠ H2.next.succ)→a.toN < H6.next.toN→(a.toN < Ha.next.toN∧a ≠ H2.next.succ)∧Ha.get a = H6.get a:=fun a h ha=>⟨⟨by omega,h.2⟩,Ka.get a ha ha h.2⟩
 obtain ⟨Hb,xb,lb,Lb,Ib,eb⟩:=loop12b (H0:=Ha) (q:=H1.next) (p:=H.next) (e:=H2.next.succ) (u:=kdn t) (d:=let1 n) (y:=xa) (Ka.dead (G6.dead hf)) (by omega) (by omega) hpe (Ka.row (r1b.grow g6 (by omega)) (by omega) (by omega) hpe) Ia.r ((hxn.mv F6 hG6).mv Fa na) ((hxv.mv r3Q F6 hG6).mv r3Q Fa na)
 have Kb:=Ib.k
 have nb':=Kb.next
 have hAb : Acc Ha 90 8 AtP xb lb Lb Hb:=Ib.a
 have hlb : lb.length = min (min ln.length lv.length) 3:=Ib.l
 have hrb : Row Hb H2.next.succ 49 [str (kdn t),str (let1 n),xa,xb]:=Ib.r
 have lab:=hrb.la 4 rfl
 have rqb : Row Hb H1.next 49 [str [],str [],.ns,.ns]:=Kb.row (Ka.row (r2.grow g6 (by omega)) (by omega) (by omega) hqe) (by omega) (by omega) hqe
 have ha : Lst 2 UidP (fun a=>H6.next.toN≤a.toN) Ha xa la:=hAa.lst uidP fun a h _=>h
 have hb : Lst 8 AtP (fun a=>H6.next.toN≤a.toN) Hb xb lb:=hAb.lst atP fun a h _=>by omega
 have ha2 : Lst 2 UidP (fun a=>H6.next.toN≤a.toN) Hb xa la:=Kb.lst uidP (fun a h hb=>⟨hb,toN_ne (by omega)⟩) ha
 have hca:=ha.cell
 have hcb:=hb.cell
 obtain ⟨Hc,rc,bc,nc,estc⟩:=rqb.st_all (n:=4) (ys:=[str (kdn t),str (let1 n),xa,xb]) (by omega) rfl rfl (one_4 hca.1 hcb.1)
 have nc' : Hc.next.toN = Hb.next.toN:=by rw [nc]
 have lac:=rc.la 4 rfl
 have gHb : Grow H Hb:=Kb.of (Ka.of G6 (by omega) (by omega)) (by omega) (by omega)
 have Fc : ∀ a : Pa,H6.next.toN≤a.toN→a.toN < Hb.next.toN→H.next.toN≤a.toN∧Hc.get a = Hb.get a:=fun a h hb=>⟨by omega,bc.get a hb (toN_ne (by omega))⟩
 refine ⟨[str (kdn t),str (let1 n),xa,xb],⟨(kdn t,let1 n),la,lb⟩,Hc,bc.of gHb (by omega),⟨xa,xb,rfl,Nat.le_trans (kdn_le _) (by decide),let_rt n,ha2.mv uidP Fc (by omega),by show la.length≤3; omega,hb.mv atP Fc (by omega),by show lb.length≤3; omega⟩,fun M hM R k=>?_⟩
 obtain ⟨m,rfl⟩ : ∃ m,M = m + 12000:=⟨M - 12000,by omega⟩
 rw [call_eq L12]
 unfold B12
 simp only [EX,reduceIte,Nat.reduceEqDiff,Nat.reduceAdd,Int.reduceEq,Int.reduceLT,Int.reduceLE,reduceCtorEq,Nat.reduceLeDiff,Nat.reduceSub,Nat.reduceLT]
 have en1 : H.next.succ = H1.next:=by rw [e1]
 have en2 : H1.next.succ = H2.next:=by rw [e2]
 rw [e1',e2']
 simp only [EX,reduceIte,Nat.reduceEqDiff,Nat.reduceAdd,Int.reduceEq,Int.reduceLT,Int.reduceLE,reduceCtorEq,Nat.reduceLeDiff,Nat.reduceSub,Nat.reduceLT,en1,en2,l0,avEq_i]
 rw [e30 _ (by omega)]
 simp only [EX,reduceIte,Nat.reduceEqDiff,Nat.reduceAdd,Int.reduceEq,Int.reduceLT,Int.reduceLE,reduceCtorEq,Nat.reduceLeDiff,Nat.reduceSub,Nat.reduceLT,en1,en2,l1,l1b,avEq_i]
 rw [s18 (by decide) (by decide) (by omega)]
 simp only [EX,reduceIte,Nat.reduceEqDiff,Nat.reduceAdd,Int.reduceEq,Int.reduceLT,Int.reduceLE,reduceCtorEq,Nat.reduceLeDiff,Nat.reduceSub,Nat.reduceLT,i_add,letw,cvi_i]
 rw [← e4]
 simp only [EX,reduceIte,Nat.reduceEqDiff,Nat.reduceAdd,Int.reduceEq,Int.reduceLT,Int.reduceLE,reduceCtorEq,Nat.reduceLeDiff,Nat.reduceSub,Nat.reduceLT,hb2]
 rw [hrd _ _ _ _ (by simp only [ev_T,V_S,Nat.reduceEqDiff,reduceIte])]
 simp only [EX,reduceIte,Nat.reduceEqDiff,Nat.reduceAdd,Int.reduceEq,Int.reduceLT,Int.reduceLE,reduceCtorEq,Nat.reduceLeDiff,Nat.reduceSub,Nat.reduceLT]
 rw [fill_agn ?fa ?fb]
 case fa=>rfl
 case fb=>show 0 + 2≤4; omega
 have hlay : lay [str [],str [],.ns,.ns] 0 [str (kdn t),str (let1 n)] = [str (kdn t),str (let1 n),.ns,.ns]:=rfl
 simp only [EX,reduceIte,Nat.reduceEqDiff,Nat.reduceAdd,Int.reduceEq,Int.reduceLT,Int.reduceLE,reduceCtorEq,Nat.reduceLeDiff,Nat.reduceSub,Nat.reduceLT,hlay]
 rw [← e5,est6]
 simp only [EX,reduceIte,Nat.reduceEqDiff,Nat.reduceAdd,Int.reduceEq,Int.reduceLT,Int.reduceLE,reduceCtorEq,Nat.reduceLeDiff,Nat.reduceSub,Nat.reduceLT]
 refine ea _ ?ff _ ?hm R _ _ ?ee
 case ff=>exact ⟨by simp only [V_S,Nat.reduceEqDiff,reduceIte],by simp only [V_S,Nat.reduceEqDiff,reduceIte],by simp only [V_S,Nat.reduceEqDiff,reduceIte],by (simp only [V_S,Nat.reduceEqDiff,reduceIte]) <;> rfl⟩
 case hm=>omega
 case ee =>
  rintro fr' ⟨c1,c2,c3,c4⟩
  simp only [EX,reduceIte,Nat.reduceEqDiff,Nat.reduceAdd,Int.reduceEq,Int.reduceLT,Int.reduceLE,reduceCtorEq,Nat.reduceLeDiff,Nat.reduceSub,Nat.reduceLT]
  refine eb _ ?ff2 _ ?hm2 R _ _ ?ee2
  case ff2=>exact ⟨by simp only [V_S,Nat.reduceEqDiff,reduceIte]; exact c1,by simp only [V_S,Nat.reduceEqDiff,reduceIte]; exact c2,by simp only [V_S,Nat.reduceEqDiff,reduceIte]; exact c3,by (simp only [V_S,Nat.reduceEqDiff,reduceIte]) <;> rfl⟩
  case hm2=>omega
  case ee2 =>
   rintro fr2 ⟨d1,d2,d3,d5⟩
   simp only [EX,reduceIte,Nat.reduceEqDiff,Nat.reduceAdd,Int.reduceEq,Int.reduceLT,Int.reduceLE,reduceCtorEq,Nat.reduceLeDiff,Nat.reduceSub,Nat.reduceLT,d3,lab,d2]
   refine (estc _ _).trans ?_
   simp only [EX,reduceIte,Nat.reduceEqDiff,Nat.reduceAdd,Int.reduceEq,Int.reduceLT,Int.reduceLE,reduceCtorEq,Nat.reduceLeDiff,Nat.reduceSub,Nat.reduceLT,d2,lac]
end Go.Proofs.YtmmmjhkgjmbfaaaDoor
