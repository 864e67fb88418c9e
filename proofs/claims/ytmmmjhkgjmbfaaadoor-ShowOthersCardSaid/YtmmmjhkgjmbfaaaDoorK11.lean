/- A verified interpreter of the model's code, and what the functions that show schemas and entities tell by it: part 11 (S52, S53, S54, S55, S56). No condition but those that each statement bears. -/
import Derived.Test.YtmmmjhkgjmbfaaaDoorK10
set_option linter.unusedVariables false
set_option linter.unusedSimpArgs false
set_option linter.unusedSectionVars false
set_option linter.constructorNameAsVariable false
set_option linter.unnecessarySimpa false
/- Types,fields,kinds,actions,schemas: their cells,their texts. -/
namespace Go.Proofs.YtmmmjhkgjmbfaaaDoor
open Go Go.Vai
set_option maxRecDepth 100000
set_option maxHeartbeats 1600000
set_option linter.unusedSimpArgs false
/-- A type that is no set's. -/
def baT (k : Int) (nm : List UInt8) : List UInt8:=if k = 1 then [66,111,111,108] else if k = 2 then [76,111,110,103] else if k = 3 then [83,116,114,105,110,103] else nm
theorem baT_le {k : Int} {nm : List UInt8} (h : nm.length≤40) : (baT k nm).length≤40:=by
 unfold baT
 split
 ·decide
 ·split
  ·decide
  ·split
   ·decide
   ·exact h
theorem s56 (k : Int) (nm : List UInt8) (H : Heap) : Tells 56 60 [.i .i64 k,str nm] H (str (baT k nm)):=by
 refine ⟨H,Grow.refl H,fun M hM R kk=>?_⟩
 obtain ⟨m,rfl⟩ : ∃ m,M = m + 60:=⟨M - 60,by omega⟩
 rw [call_eq L56]
 unfold B56 baT
 by_cases h1 : k = 1
 ·subst h1
  simp only [EX,reduceIte,Nat.reduceEqDiff,Nat.reduceAdd,Int.reduceEq,Int.reduceLT,Int.reduceLE,reduceCtorEq,Nat.reduceLeDiff,Nat.reduceSub,Nat.reduceLT]
 ·rw [if_neg h1]
  by_cases h2 : k = 2
  ·subst h2
   simp only [EX,reduceIte,Nat.reduceEqDiff,Nat.reduceAdd,Int.reduceEq,Int.reduceLT,Int.reduceLE,reduceCtorEq,Nat.reduceLeDiff,Nat.reduceSub,Nat.reduceLT,h1]
  ·rw [if_neg h2]
   by_cases h3 : k = 3
   ·subst h3
    simp only [EX,reduceIte,Nat.reduceEqDiff,Nat.reduceAdd,Int.reduceEq,Int.reduceLT,Int.reduceLE,reduceCtorEq,Nat.reduceLeDiff,Nat.reduceSub,Nat.reduceLT,h1,h2]
   ·rw [if_neg h3]
    simp only [EX,reduceIte,Nat.reduceEqDiff,Nat.reduceAdd,Int.reduceEq,Int.reduceLT,Int.reduceLE,reduceCtorEq,Nat.reduceLeDiff,Nat.reduceSub,Nat.reduceLT,h1,h2,h3]
theorem s60 (k : Int) (nm : List UInt8) (H : Heap) : Tells 60 60 [.i .i64 k,str nm] H (str (baT k nm)):=by
 refine ⟨H,Grow.refl H,fun M hM R kk=>?_⟩
 obtain ⟨m,rfl⟩ : ∃ m,M = m + 60:=⟨M - 60,by omega⟩
 rw [call_eq L60]
 unfold B60 baT
 by_cases h1 : k = 1
 ·subst h1
  simp only [EX,reduceIte,Nat.reduceEqDiff,Nat.reduceAdd,Int.reduceEq,Int.reduceLT,Int.reduceLE,reduceCtorEq,Nat.reduceLeDiff,Nat.reduceSub,Nat.reduceLT]
 ·rw [if_neg h1]
  by_cases h2 : k = 2
  ·subst h2
   simp only [EX,reduceIte,Nat.reduceEqDiff,Nat.reduceAdd,Int.reduceEq,Int.reduceLT,Int.reduceLE,reduceCtorEq,Nat.reduceLeDiff,Nat.reduceSub,Nat.reduceLT,h1]
  ·rw [if_neg h2]
   by_cases h3 : k = 3
   ·subst h3
    simp only [EX,reduceIte,Nat.reduceEqDiff,Nat.reduceAdd,Int.reduceEq,Int.reduceLT,Int.reduceLE,reduceCtorEq,Nat.reduceLeDiff,Nat.reduceSub,Nat.reduceLT,h1,h2]
   ·rw [if_neg h3]
    simp only [EX,reduceIte,Nat.reduceEqDiff,Nat.reduceAdd,Int.reduceEq,Int.reduceLT,Int.reduceLE,reduceCtorEq,Nat.reduceLeDiff,Nat.reduceSub,Nat.reduceLT,h1,h2,h3]
/-- A type. -/
structure Ty where
 k : Int
 o : Int
 nm : List UInt8
def Ty.cs (y : Ty) : List AV:=[.i .i64 y.k,.i .i64 y.o,str y.nm]
def Ty.tx (y : Ty) : List UInt8:=if y.k = 5 then [83,101,116,60] ++ baT y.o y.nm ++ [62] else baT y.k y.nm
theorem Ty.tx_le {y : Ty} (h : y.nm.length≤40) : y.tx.length≤45:=by
 have h1:=baT_le (k:=y.o) h
 have h2:=baT_le (k:=y.k) h
 unfold Ty.tx
 split
 ·rw [List.length_append,List.length_append]; show 4 + _ + 1≤45; omega
 ·omega
theorem Ty.one (y : Ty) : ∀ v ∈ y.cs,oneC v = true∧avEq1 v v = true:=by
 intro v hv
 simp only [Ty.cs,List.mem_cons,List.not_mem_nil,or_false] at hv
 rcases hv with rfl | rfl | rfl
 ·exact ⟨one_i,av1_i⟩
 ·exact ⟨one_i,av1_i⟩
 ·exact ⟨one_str,av1_str⟩
theorem s32 {y : Ty} (hy : y.nm.length≤40) (H : Heap) : Tells 32 200 [.ag y.cs] H (str y.tx):=by
 obtain ⟨H1,e1,g1,r1,n1⟩:=box1 75 H y.cs
 have e1' : H.alloc (.cells false 0 75 3 (setCells y.cs 0 .leaf)) = H1:=e1.symm
 have l0:=r1.l 0 (v:=.i .i64 y.k) rfl
 have l1:=r1.l 1 (v:=.i .i64 y.o) rfl
 have l2:=r1.l 2 (v:=str y.nm) rfl
 have hb:=baT_le (k:=y.o) hy
 have hsm : (100 : Nat)≤sMax:=by decide
 have hA:=s_ad (s:=[83,101,116,60]) (t:=baT y.o y.nm) (by show 4 + _≤_; omega)
 have hB:=s_ad (s:=[83,101,116,60] ++ baT y.o y.nm) (t:=[62]) (by rw [List.length_append]; show 4 + _ + 1≤_; omega)
 by_cases h : y.k = 5
 ·obtain ⟨H2,g2,e2⟩:=s56 y.o y.nm H1
  have l0 : ∀ (R : Type) (k : HK R),ldC false 1 (.p H.next 0) k H1 = k (.i .i64 5) H1:=by rw [h] at l0; exact l0
  refine ⟨H2,g1.trans g2,fun M hM R k=>?_⟩
  obtain ⟨m,rfl⟩ : ∃ m,M = m + 200:=⟨M - 200,by omega⟩
  rw [call_eq L32]
  unfold B32
  simp only [EX,reduceIte,Nat.reduceEqDiff,Nat.reduceAdd,Int.reduceEq,Int.reduceLT,Int.reduceLE,reduceCtorEq,Nat.reduceLeDiff,Nat.reduceSub,Nat.reduceLT]
  rw [← e1]
  simp only [EX,reduceIte,Nat.reduceEqDiff,Nat.reduceAdd,Int.reduceEq,Int.reduceLT,Int.reduceLE,reduceCtorEq,Nat.reduceLeDiff,Nat.reduceSub,Nat.reduceLT,l0,l1,l2]
  rw [e2 _ (by omega)]
  simp only [EX,reduceIte,Nat.reduceEqDiff,Nat.reduceAdd,Int.reduceEq,Int.reduceLT,Int.reduceLE,reduceCtorEq,Nat.reduceLeDiff,Nat.reduceSub,Nat.reduceLT,hA,hB]
  unfold Ty.tx
  rw [if_pos h]
 ·obtain ⟨H2,g2,e2⟩:=s56 y.k y.nm H1
  refine ⟨H2,g1.trans g2,fun M hM R k=>?_⟩
  obtain ⟨m,rfl⟩ : ∃ m,M = m + 200:=⟨M - 200,by omega⟩
  rw [call_eq L32]
  unfold B32
  simp only [EX,reduceIte,Nat.reduceEqDiff,Nat.reduceAdd,Int.reduceEq,Int.reduceLT,Int.reduceLE,reduceCtorEq,Nat.reduceLeDiff,Nat.reduceSub,Nat.reduceLT]
  rw [← e1]
  simp only [EX,reduceIte,Nat.reduceEqDiff,Nat.reduceAdd,Int.reduceEq,Int.reduceLT,Int.reduceLE,reduceCtorEq,Nat.reduceLeDiff,Nat.reduceSub,Nat.reduceLT,l0,l2,h]
  rw [e2 _ (by omega)]
  simp only [EX,reduceIte,Nat.reduceEqDiff,Nat.reduceAdd,Int.reduceEq,Int.reduceLT,Int.reduceLE,reduceCtorEq,Nat.reduceLeDiff,Nat.reduceSub,Nat.reduceLT]
  unfold Ty.tx
  rw [if_neg h]
theorem s37 {y : Ty} (hy : y.nm.length≤40) (H : Heap) : Tells 37 200 [.ag y.cs] H (str y.tx):=by
 obtain ⟨H1,e1,g1,r1,n1⟩:=box1 75 H y.cs
 have e1' : H.alloc (.cells false 0 75 3 (setCells y.cs 0 .leaf)) = H1:=e1.symm
 have l0:=r1.l 0 (v:=.i .i64 y.k) rfl
 have l1:=r1.l 1 (v:=.i .i64 y.o) rfl
 have l2:=r1.l 2 (v:=str y.nm) rfl
 have hb:=baT_le (k:=y.o) hy
 have hsm : (100 : Nat)≤sMax:=by decide
 have hA:=s_ad (s:=[83,101,116,60]) (t:=baT y.o y.nm) (by show 4 + _≤_; omega)
 have hB:=s_ad (s:=[83,101,116,60] ++ baT y.o y.nm) (t:=[62]) (by rw [List.length_append]; show 4 + _ + 1≤_; omega)
 by_cases h : y.k = 5
 ·obtain ⟨H2,g2,e2⟩:=s60 y.o y.nm H1
  have l0 : ∀ (R : Type) (k : HK R),ldC false 1 (.p H.next 0) k H1 = k (.i .i64 5) H1:=by rw [h] at l0; exact l0
  refine ⟨H2,g1.trans g2,fun M hM R k=>?_⟩
  obtain ⟨m,rfl⟩ : ∃ m,M = m + 200:=⟨M - 200,by omega⟩
  rw [call_eq L37]
  unfold B37
  simp only [EX,reduceIte,Nat.reduceEqDiff,Nat.reduceAdd,Int.reduceEq,Int.reduceLT,Int.reduceLE,reduceCtorEq,Nat.reduceLeDiff,Nat.reduceSub,Nat.reduceLT]
  rw [← e1]
  simp only [EX,reduceIte,Nat.reduceEqDiff,Nat.reduceAdd,Int.reduceEq,Int.reduceLT,Int.reduceLE,reduceCtorEq,Nat.reduceLeDiff,Nat.reduceSub,Nat.reduceLT,l0,l1,l2]
  rw [e2 _ (by omega)]
  simp only [EX,reduceIte,Nat.reduceEqDiff,Nat.reduceAdd,Int.reduceEq,Int.reduceLT,Int.reduceLE,reduceCtorEq,Nat.reduceLeDiff,Nat.reduceSub,Nat.reduceLT,hA,hB]
  unfold Ty.tx
  rw [if_pos h]
 ·obtain ⟨H2,g2,e2⟩:=s60 y.k y.nm H1
  refine ⟨H2,g1.trans g2,fun M hM R k=>?_⟩
  obtain ⟨m,rfl⟩ : ∃ m,M = m + 200:=⟨M - 200,by omega⟩
  rw [call_eq L37]
  unfold B37
  simp only [EX,reduceIte,Nat.reduceEqDiff,Nat.reduceAdd,Int.reduceEq,Int.reduceLT,Int.reduceLE,reduceCtorEq,Nat.reduceLeDiff,Nat.reduceSub,Nat.reduceLT]
  rw [← e1]
  simp only [EX,reduceIte,Nat.reduceEqDiff,Nat.reduceAdd,Int.reduceEq,Int.reduceLT,Int.reduceLE,reduceCtorEq,Nat.reduceLeDiff,Nat.reduceSub,Nat.reduceLT,l0,l2,h]
  rw [e2 _ (by omega)]
  simp only [EX,reduceIte,Nat.reduceEqDiff,Nat.reduceAdd,Int.reduceEq,Int.reduceLT,Int.reduceLE,reduceCtorEq,Nat.reduceLeDiff,Nat.reduceSub,Nat.reduceLT]
  unfold Ty.tx
  rw [if_neg h]
/-- A field's cells. -/
def FlP : DP (List UInt8 × Ty):=fun _ _ bs a=>bs = str a.1 :: a.2.cs∧a.1.length≤40∧a.2.nm.length≤40
theorem flP : Mov 4 FlP:=by
 refine ⟨fun _ _ h=>h,fun h=>by rw [h.1]; rfl,?_⟩
 rintro S H bs v ⟨rfl,h2,h3⟩ w hw
 rw [List.mem_cons] at hw
 rcases hw with rfl | hw
 ·exact ⟨one_str,av1_str⟩
 ·exact Ty.one _ w hw
def flx (a : List UInt8 × Ty) : List UInt8:=a.1 ++ [58,32] ++ a.2.tx
theorem flx_le {S : Pa→Prop} {H : Heap} {bs : List AV} {a : List UInt8 × Ty} (h : FlP S H bs a) : (flx a).length≤87:=by
 obtain ⟨_,h1,h2⟩:=h
 have:=Ty.tx_le h2
 unfold flx
 rw [List.length_append,List.length_append]
 show _ + 2 + _≤_
 omega
/-- Names,few and short. -/
def NmsP (S : Pa→Prop) (H : Heap) (x : AV) (l : List (List UInt8)) : Prop:=StrsP S H x l∧l.length≤10∧sumL l≤400
/-- A kind. -/
structure Ki where
 nm : List UInt8
 ps : List (List UInt8)
 fs : List (List UInt8 × Ty)
def Ki.tx (k : Ki) : List UInt8:=[101,110,116,105,116,121,32] ++ k.nm ++ parT k.ps ++ braT (k.fs.map flx)
def KiP : DP Ki:=fun S H bs k=>∃ xp xf,bs = [str k.nm,xp,xf]∧k.nm.length≤40∧NmsP S H xp k.ps∧Lst 4 FlP S H xf k.fs∧k.fs.length≤4
theorem kiP : Mov 3 KiP:=by
 refine ⟨?_,?_,?_⟩
 ·rintro S S' H H' bs v hs hn ⟨xp,xf,h1,h2,⟨h3,h4⟩,h5,h6⟩
  exact ⟨xp,xf,h1,h2,⟨h3.mv hs hn,h4⟩,h5.mv flP hs hn,h6⟩
 ·rintro S H bs v ⟨xp,xf,rfl,_⟩; rfl
 ·rintro S H bs v ⟨xp,xf,rfl,h2,⟨h3,h4⟩,h5,h6⟩ w hw
  simp only [List.mem_cons,List.not_mem_nil,or_false] at hw
  rcases hw with rfl | rfl | rfl
  ·exact ⟨one_str,av1_str⟩
  ·exact h3.cell
  ·exact h5.cell
/-- An action. -/
structure Ac where
 nm : List UInt8
 ps : List (List UInt8)
 rs : List (List UInt8)
def Ac.tx (a : Ac) : List UInt8:=[97,99,116,105,111,110,32] ++ a.nm ++ [58,32] ++ joinS a.ps ++ [32,45,62,32] ++ joinS a.rs ++ [59]
def AcP : DP Ac:=fun S H bs a=>∃ xp xr,bs = [str a.nm,xp,xr]∧a.nm.length≤40∧NmsP S H xp a.ps∧NmsP S H xr a.rs
theorem acP : Mov 3 AcP:=by
 refine ⟨?_,?_,?_⟩
 ·rintro S S' H H' bs v hs hn ⟨xp,xf,h1,h2,⟨h3,h4⟩,h5,h6⟩
  exact ⟨xp,xf,h1,h2,⟨h3.mv hs hn,h4⟩,h5.mv hs hn,h6⟩
 ·rintro S H bs v ⟨xp,xf,rfl,_⟩; rfl
 ·rintro S H bs v ⟨xp,xf,rfl,h2,⟨h3,h4⟩,h5,h6⟩ w hw
  simp only [List.mem_cons,List.not_mem_nil,or_false] at hw
  rcases hw with rfl | rfl | rfl
  ·exact ⟨one_str,av1_str⟩
  ·exact h3.cell
  ·exact h5.cell
/-- A schema. -/
structure Sc where
 ks : List Ki
 as_ : List Ac
def Sc.tx (s : Sc) : List UInt8:=joinL (s.ks.map Ki.tx ++ s.as_.map Ac.tx)
def ScP : DP Sc:=fun S H bs s=>∃ xk xa,bs = [xk,xa]∧Lst 3 KiP S H xk s.ks∧s.ks.length≤5∧Lst 3 AcP S H xa s.as_∧s.as_.length≤5
theorem fs_le {S : Pa→Prop} {H : Heap} {x : AV} {l : List (List UInt8 × Ty)} (h : Lst 4 FlP S H x l) (h4 : l.length≤4) : sumL (l.map flx)≤348:=by
 have:=sum_map (f:=flx) (l:=l) (c:=87) fun r hr=>by obtain ⟨bs,hb⟩:=h.all r hr; exact flx_le hb
 omega
theorem ki_le {S : Pa→Prop} {H : Heap} {bs : List AV} {k : Ki} (h : KiP S H bs k) : k.tx.length≤900:=by
 obtain ⟨xp,xf,rfl,h2,⟨h3,h4,h4'⟩,h5,h6⟩:=h
 have h7:=fs_le h5 h6
 have h8:=parT_le k.ps
 have h9:=braT_le (k.fs.map flx)
 rw [List.length_map] at h9
 unfold Ki.tx
 rw [List.length_append,List.length_append,List.length_append]
 show 7 + _ + _ + _≤_
 omega
theorem ac_le {S : Pa→Prop} {H : Heap} {bs : List AV} {a : Ac} (h : AcP S H bs a) : a.tx.length≤900:=by
 obtain ⟨xp,xf,rfl,h2,⟨h3,h4,h4'⟩,h5,h6,h6'⟩:=h
 have h8:=joinS_le a.ps
 have h9:=joinS_le a.rs
 unfold Ac.tx
 rw [List.length_append,List.length_append,List.length_append,List.length_append,List.length_append,List.length_append]
 show 7 + _ + 2 + _ + 4 + _ + 1≤_
 omega
def F36 (x : AV) (i : Nat) (s : List UInt8) (fr : Tr AV) : Prop:=V fr 0 = x∧V fr 3 = str s∧V fr 4 = .i .i64 (i : Int)
/-- A text of a row,read. -/
theorem Strs.at {H : Heap} {x : AV} {l : List (List UInt8)} (h : Strs H x l) {j : Nat} (hj : j < l.length) : ∃ a o,(∀ (R : Type) (k : HK R) (G : Heap),ixaC 1 x (.i .i64 (j : Int)) k G = k (.p a o) G)∧∀ G,Grow H G→∀ (R : Type) (k : HK R),ldC false 1 (.p a o) k G = k (str l[j]) G:=by
 obtain ⟨rfl,rfl⟩ | ⟨a,cp,rfl,_,hr,hb⟩:=h
 ·cases hj
 ·refine ⟨a,0 + j * 1,fun R k G=>by rw [ixa_sl (by omega) (by omega),Int.toNat_natCast],fun G g R k=>(hr.grow g hb).l (0 + j * 1) (v:=str l[j]) ?_ R k⟩
  rw [Nat.zero_add,Nat.mul_one,List.getElem?_map,List.getElem?_eq_getElem hj]; rfl
/-- chancelref6.names -/
theorem s36 {H : Heap} {x : AV} {l : List (List UInt8)} (hx : NmsP Any H x l) : Tells 36 400 [x] H (str (joinS l)):=by
 obtain ⟨hx,h10,h400⟩:=hx
 have hx:=hx.strs
 have hsm : (5000 : Nat)≤sMax:=by decide
 have G:=loop_cps (Lp:=Lp36) (ex:=0) (n:=l.length) (c:=200) (St:=Unit) (fun i G _=>G = H) (fun i _ fr=>F36 x i (joinS (l.take i)) fr) ?hend ?hstep l.length 0 H () (by omega) rfl
 case hend =>
  rintro G _ rfl fr ⟨f0,f3,f4⟩ M hM R k res hr'
  obtain ⟨m,rfl⟩ : ∃ m,M = m + 100:=⟨M - 100,by omega⟩
  unfold Lp36
  rw [run_loop]
  simp only [EX,reduceIte,Nat.reduceEqDiff,Nat.reduceAdd,Int.reduceEq,Int.reduceLT,Int.reduceLE,reduceCtorEq,Nat.reduceLeDiff,Nat.reduceSub,Nat.reduceLT,f0,f4,hx.len,Int.lt_irrefl]
  exact hr' _ ⟨by simp only [V_S,Nat.reduceEqDiff,reduceIte]; exact f0,by simp only [V_S,Nat.reduceEqDiff,reduceIte]; exact f3,by simp only [V_S,Nat.reduceEqDiff,reduceIte]; exact f4⟩
 case hstep =>
  rintro i G _ hi rfl
  obtain ⟨a,o,eix,eld⟩:=hx.at hi
  have ld1:=eld G (Grow.refl _)
  have hlt : (i : Int) < (l.length : Int):=by omega
  have hw:=inc_i (show i < 1000 by omega)
  have hpl:=joinS_le (l.take i)
  have hst:=sum_take l i
  have htl : (l.take i).length≤10:=by rw [List.length_take]; omega
  have hli : l[i].length≤400:=by
   have:=sum_take (l.drop i) 1
   have h2:=sumL_app (l.take i) (l.drop i)
   rw [List.take_append_drop] at h2
   rw [List.drop_eq_getElem_cons hi,List.take_succ_cons,List.take_zero] at this
   rw [List.drop_eq_getElem_cons hi] at h2
   rw [sumL_cons] at h2
   omega
  have es : joinS (l.take (i + 1)) = if i = 0 then l[i] else joinS (l.take i) ++ [44,32] ++ l[i]:=by
   rw [take_snoc hi,joinS_end]
   simp only [take_nil_iff hi]
  refine ⟨G,(),rfl,?_⟩
  rintro fr ⟨f0,f3,f4⟩ M hM R k res hr'
  obtain ⟨m,rfl⟩ : ∃ m,M = m + 200:=⟨M - 200,by omega⟩
  unfold Lp36
  rw [run_loop]
  by_cases h0 : i = 0
  ·rw [if_pos h0] at es
   rw [es] at hr'
   subst h0
   have f3 : V fr 3 = str []:=f3
   have hA:=s_ad (s:=[]) (t:=l[0]) (by show 0 + _≤_; omega)
   have hlt : (0 : Int) < (l.length : Int):=hlt
   have eix : ∀ (R : Type) (k : HK R) (G : Heap),ixaC 1 x (.i .i64 0) k G = k (.p a o) G:=eix
   have f4 : V fr 4 = .i .i64 0:=f4
   have hw : IntKind.i64.wrap (0 + 1) = ((0 + 1 : Nat) : Int):=hw
   simp only [EX,reduceIte,Nat.reduceEqDiff,Nat.reduceAdd,Int.reduceEq,Int.reduceLT,Int.reduceLE,reduceCtorEq,Nat.reduceLeDiff,Nat.reduceSub,Nat.reduceLT,f0,f3,f4,hx.len,hlt,Int.lt_irrefl,eix,ld1,hA,i_add,hw]
   exact hr' _ ⟨by simp only [V_S,Nat.reduceEqDiff,reduceIte]; exact f0,by (simp only [V_S,Nat.reduceEqDiff,reduceIte]) <;> rfl,by simp only [V_S,Nat.reduceEqDiff,reduceIte]⟩
  ·have h0' : (0 : Int) < (i : Int):=by omega
   rw [if_neg h0] at es
   rw [es] at hr'
   have hA:=s_ad (s:=joinS (l.take i)) (t:=[44,32]) (by show _ + 2≤_; omega)
   have hB:=s_ad (s:=joinS (l.take i) ++ ([44,32] : List UInt8)) (t:=l[i]) (by rw [List.length_append]; show _ + 2 + _≤_; omega)
   simp only [EX,reduceIte,Nat.reduceEqDiff,Nat.reduceAdd,Int.reduceEq,Int.reduceLT,Int.reduceLE,reduceCtorEq,Nat.reduceLeDiff,Nat.reduceSub,Nat.reduceLT,f0,f3,f4,hx.len,hlt,h0',eix,ld1,hA,hB,i_add,hw]
   exact hr' _ ⟨by simp only [V_S,Nat.reduceEqDiff,reduceIte]; exact f0,by simp only [V_S,Nat.reduceEqDiff,reduceIte],by simp only [V_S,Nat.reduceEqDiff,reduceIte]⟩
 obtain ⟨H',_,rfl,e⟩:=G
 rw [List.take_length] at e
 refine ⟨H',Grow.refl _,fun M hM R k=>?_⟩
 obtain ⟨m,rfl⟩ : ∃ m,M = m + 400:=⟨M - 400,by omega⟩
 rw [call_eq L36]
 unfold B36
 simp only [EX,reduceIte,Nat.reduceEqDiff,Nat.reduceAdd,Int.reduceEq,Int.reduceLT,Int.reduceLE,reduceCtorEq,Nat.reduceLeDiff,Nat.reduceSub,Nat.reduceLT]
 refine e _ ?ff _ ?hm R _ _ ?ee
 case ff=>exact ⟨by simp only [V_S,Nat.reduceEqDiff,reduceIte],by (simp only [V_S,Nat.reduceEqDiff,reduceIte]) <;> rfl,by (simp only [V_S,Nat.reduceEqDiff,reduceIte]) <;> rfl⟩
 case hm=>omega
 case ee =>
  rintro fr' ⟨c0,c3,c4⟩
  simp only [EX,reduceIte,Nat.reduceEqDiff,Nat.reduceAdd,Int.reduceEq,Int.reduceLT,Int.reduceLE,reduceCtorEq,Nat.reduceLeDiff,Nat.reduceSub,Nat.reduceLT,c3]
end Go.Proofs.YtmmmjhkgjmbfaaaDoor

/- A schema's text,the program's (show.Schema). -/
namespace Go.Proofs.YtmmmjhkgjmbfaaaDoor
open Go Go.Vai
set_option maxRecDepth 100000
set_option maxHeartbeats 1600000
set_option linter.unusedSimpArgs false
def F13b (p b : Pa) (y3 xk : AV) (nk ik : Nat) (x : AV) (n i : Nat) (y : AV) (fr : Tr AV) : Prop:=V fr 1 = .p p 0∧V fr 3 = y3∧V fr 5 = .p b 0∧V fr 6 = y∧V fr 12 = xk∧V fr 13 = .i .i64 (nk : Int)∧V fr 14 = .i .i64 (ik : Int)∧V fr 19 = x∧V fr 20 = .i .i64 (n : Int)∧V fr 21 = .i .i64 (i : Int)
theorem loop13b {H0 : Heap} {p b : Pa} {y3 xk : AV} {nk ik : Nat} {x : AV} {l : List (List UInt8 × Ty)} (hx : Lst 4 FlP Any H0 x l) (h8 : l.length≤4) :
  ∃ H' xo,Txs H0 H' xo (l.map flx)∧∀ fr,F13b p b y3 xk nk ik x l.length 0 .ns fr→∀ M,500 + l.length≤M→∀ (R : Type) (k : XK R) (res : Option R),(∀ fr',F13b p b y3 xk nk ik x l.length l.length xo fr'→k (.exit 2) fr' H' = res)→runK tbl M R Lp13b fr H0 k = res:=by
 have G:=loop_cps (Lp:=Lp13b) (ex:=2) (n:=l.length) (c:=500) (St:=AV) (fun i H y=>Txs H0 H y ((l.take i).map flx)) (fun i y fr=>F13b p b y3 xk nk ik x l.length i y fr) ?hend ?hstep l.length 0 H0 .ns (by omega) (Txs.init H0)
 case hend =>
  rintro H y P fr ⟨f1,f3,f5,f6,f12,f13,f14,f19,f20,f21⟩ M hM R k res hr
  obtain ⟨m,rfl⟩ : ∃ m,M = m + 100:=⟨M - 100,by omega⟩
  unfold Lp13b
  rw [run_loop]
  simp only [EX,reduceIte,Nat.reduceEqDiff,Nat.reduceAdd,Int.reduceEq,Int.reduceLT,Int.reduceLE,reduceCtorEq,Nat.reduceLeDiff,Nat.reduceSub,Nat.reduceLT,f20,f21,Int.lt_irrefl]
  exact hr _ ⟨by simp only [V_S,Nat.reduceEqDiff,reduceIte]; exact f1,by simp only [V_S,Nat.reduceEqDiff,reduceIte]; exact f3,by simp only [V_S,Nat.reduceEqDiff,reduceIte]; exact f5,by simp only [V_S,Nat.reduceEqDiff,reduceIte]; exact f6,by simp only [V_S,Nat.reduceEqDiff,reduceIte]; exact f12,by simp only [V_S,Nat.reduceEqDiff,reduceIte]; exact f13,by simp only [V_S,Nat.reduceEqDiff,reduceIte]; exact f14,by simp only [V_S,Nat.reduceEqDiff,reduceIte]; exact f19,by simp only [V_S,Nat.reduceEqDiff,reduceIte]; exact f20,by simp only [V_S,Nat.reduceEqDiff,reduceIte]; exact f21⟩
 case hstep =>
  rintro i H y hi P
  have hil : l[i]? = some l[i]:=List.getElem?_eq_getElem hi
  obtain ⟨a,o,bs,hat,ha,eix,_,eld⟩:=(hx.grow flP P.g).at flP hil
  have hatl:=flx_le hat
  have hb4:=flP.len hat
  have hb1:=flP.ones hat
  have ld1 : ∀ (R : Type) (c : HK R),ldC true 4 (.p a o) c H = c (.ag bs) H:=by
   intro R c
   have:=eld H (Grow.refl _) 0 4 (by omega) R c
   rw [List.drop_zero,List.take_of_length_le (by omega)] at this
   exact this
  obtain ⟨H1,e1,g1,r1,n1⟩:=box1 77 H [str [],.i .i64 0,.i .i64 0,str []]
  have e1' : H.alloc (.cells false 0 77 4 (setCells [str [],.i .i64 0,.i .i64 0,str []] 0 .leaf)) = H1:=e1.symm
  obtain ⟨H2,r2,b2,n2,est⟩:=r1.st_all (n:=4) (ys:=bs) (by omega) hb4 rfl hb1
  have g2 : Grow H H2:=b2.of g1 (Nat.le_refl _)
  have n2' : H2.next.toN = H1.next.toN:=by rw [n2]
  obtain ⟨rfl,hnm,hty⟩:=hat
  have htl:=Ty.tx_le hty
  have gb:=Grow.bump 1 H2
  have nb : (H2.bump 1).next.toN = H2.next.toN + 1:=next_bump
  obtain ⟨H3,g3,e32⟩:=s32 hty (H2.bump 1)
  have n3:=g3.next
  have vb : ∀ (R : Type) (k : HK R),ldC true 3 (.p H.next 1) k (H2.bump 1) = k (.ag l[i].2.cs) (H2.bump 1):=fun R k=>(r2.grow gb (by omega)).lds (n:=3) (off:=1) (by show 4≤4; omega)
  have k0b:=(r2.grow gb (by omega)).l 0 (v:=str l[i].1) rfl
  have k03:=(r2.grow (gb.trans g3) (by omega)).l 0 (v:=str l[i].1) rfl
  have axc : avEq (.ag l[i].2.cs) (.ag l[i].2.cs) = true:=avEq_ag fun v hv=>(Ty.one _ v hv).2
  have hsm : (3000 : Nat)≤sMax:=by decide
  have hA:=s_ad (s:=l[i].1) (t:=[58,32]) (by show _ + 2≤_; omega)
  have hB:=s_ad (s:=l[i].1 ++ ([58,32] : List UInt8)) (t:=l[i].2.tx) (by rw [List.length_append]; show _ + 2 + _≤_; omega)
  obtain ⟨H4,e4⟩ : ∃ H4,H4 = H3.put H2.next (.cells false 0 9 1 (setCells [str (flx l[i])] 0 .leaf)):=⟨_,rfl⟩
  have e4' : H3.put H2.next (.cells false 0 9 1 (setCells [str (l[i].1 ++ [58,32] ++ l[i].2.tx)] 0 .leaf)) = H4:=e4.symm
  have g4 : Grow H2 H4:=by rw [e4]; exact (gb.trans g3).put (Nat.le_refl _) (by omega) _
  have r4 : Row H4 H2.next 9 [str (flx l[i])]:=by rw [e4]; exact ⟨_,get_put,fun j _=>cell_at [str (flx l[i])] j⟩
  obtain ⟨H5,x5,P5,eapp⟩:=P.add (g2.trans g4) r4 (by rw [List.length_map,List.length_take]; omega)
  have hlt : (i : Int) < (l.length : Int):=by omega
  have hw:=inc_i (show i < 1000 by omega)
  refine ⟨H5,x5,by rw [List.take_add_one,hil,List.map_append]; exact P5,?_⟩
  rintro fr ⟨f1,f3,f5,f6,f12,f13,f14,f19,f20,f21⟩ M hM R k res hr
  obtain ⟨m,rfl⟩ : ∃ m,M = m + 500:=⟨M - 500,by omega⟩
  unfold Lp13b
  rw [run_loop]
  simp only [EX,reduceIte,Nat.reduceEqDiff,Nat.reduceAdd,Int.reduceEq,Int.reduceLT,Int.reduceLE,reduceCtorEq,Nat.reduceLeDiff,Nat.reduceSub,Nat.reduceLT,f6,f19,f20,f21,hlt,eix,ld1]
  rw [e1']
  refine (est _ _).trans ?_
  simp only [EX,reduceIte,Nat.reduceEqDiff,Nat.reduceAdd,Int.reduceEq,Int.reduceLT,Int.reduceLE,reduceCtorEq,Nat.reduceLeDiff,Nat.reduceSub,Nat.reduceLT,f6,vb,axc]
  rw [e32 _ (by omega)]
  simp only [EX,reduceIte,Nat.reduceEqDiff,Nat.reduceAdd,Int.reduceEq,Int.reduceLT,Int.reduceLE,reduceCtorEq,Nat.reduceLeDiff,Nat.reduceSub,Nat.reduceLT,f6,k0b,k03,avEq_str,hA,hB]
  rw [e4',eapp]
  simp only [EX,reduceIte,Nat.reduceEqDiff,Nat.reduceAdd,Int.reduceEq,Int.reduceLT,Int.reduceLE,reduceCtorEq,Nat.reduceLeDiff,Nat.reduceSub,Nat.reduceLT,f21,i_add,hw]
  exact hr _ ⟨by simp only [V_S,Nat.reduceEqDiff,reduceIte]; exact f1,by simp only [V_S,Nat.reduceEqDiff,reduceIte]; exact f3,by simp only [V_S,Nat.reduceEqDiff,reduceIte]; exact f5,by simp only [V_S,Nat.reduceEqDiff,reduceIte],by simp only [V_S,Nat.reduceEqDiff,reduceIte]; exact f12,by simp only [V_S,Nat.reduceEqDiff,reduceIte]; exact f13,by simp only [V_S,Nat.reduceEqDiff,reduceIte]; exact f14,by simp only [V_S,Nat.reduceEqDiff,reduceIte]; exact f19,by simp only [V_S,Nat.reduceEqDiff,reduceIte]; exact f20,by simp only [V_S,Nat.reduceEqDiff,reduceIte]⟩
 obtain ⟨H',xo,P,e⟩:=G
 rw [List.take_length] at P
 exact ⟨H',xo,P,e⟩
def F13a (p : Pa) (x : AV) (n i : Nat) (y : AV) (fr : Tr AV) : Prop:=V fr 1 = .p p 0∧V fr 3 = y∧V fr 12 = x∧V fr 13 = .i .i64 (n : Int)∧V fr 14 = .i .i64 (i : Int)
theorem loop13a {H0 : Heap} {p : Pa} {x : AV} {l : List Ki} (hx : Lst 3 KiP Any H0 x l) (h8 : l.length≤5) :
  ∃ H' xo,Txs H0 H' xo (l.map Ki.tx)∧∀ fr,F13a p x l.length 0 .ns fr→∀ M,3000 + l.length≤M→∀ (R : Type) (k : XK R) (res : Option R),(∀ fr',F13a p x l.length l.length xo fr'→k (.exit 0) fr' H' = res)→runK tbl M R Lp13a fr H0 k = res:=by
 have G:=loop_cps (Lp:=Lp13a) (ex:=0) (n:=l.length) (c:=3000) (St:=AV) (fun i H y=>Txs H0 H y ((l.take i).map Ki.tx)) (fun i y fr=>F13a p x l.length i y fr) ?hend ?hstep l.length 0 H0 .ns (by omega) (Txs.init H0)
 case hend =>
  rintro H y P fr ⟨f1,f3,f12,f13,f14⟩ M hM R k res hr
  obtain ⟨m,rfl⟩ : ∃ m,M = m + 100:=⟨M - 100,by omega⟩
  unfold Lp13a
  rw [run_loop]
  simp only [EX,reduceIte,Nat.reduceEqDiff,Nat.reduceAdd,Int.reduceEq,Int.reduceLT,Int.reduceLE,reduceCtorEq,Nat.reduceLeDiff,Nat.reduceSub,Nat.reduceLT,f13,f14,Int.lt_irrefl]
  exact hr _ ⟨by simp only [V_S,Nat.reduceEqDiff,reduceIte]; exact f1,by simp only [V_S,Nat.reduceEqDiff,reduceIte]; exact f3,by simp only [V_S,Nat.reduceEqDiff,reduceIte]; exact f12,by simp only [V_S,Nat.reduceEqDiff,reduceIte]; exact f13,by simp only [V_S,Nat.reduceEqDiff,reduceIte]; exact f14⟩
 case hstep =>
  rintro i H y hi P
  have hil : l[i]? = some l[i]:=List.getElem?_eq_getElem hi
  obtain ⟨a,o,bs,hat,ha,eix,_,eld⟩:=(hx.grow kiP P.g).at kiP hil
  have hatl:=ki_le hat
  have hb3:=kiP.len hat
  have hb1:=kiP.ones hat
  have ld1 : ∀ (R : Type) (c : HK R),ldC true 3 (.p a o) c H = c (.ag bs) H:=by
   intro R c
   have:=eld H (Grow.refl _) 0 3 (by omega) R c
   rw [List.drop_zero,List.take_of_length_le (by omega)] at this
   exact this
  obtain ⟨H1,e1,g1,r1,n1⟩:=box1 71 H [str [],.ns,.ns]
  have e1' : H.alloc (.cells false 0 71 3 (setCells [str [],.ns,.ns] 0 .leaf)) = H1:=e1.symm
  obtain ⟨H2,r2,b2,n2,est⟩:=r1.st_all (n:=3) (ys:=bs) (by omega) hb3 rfl hb1
  have g2 : Grow H H2:=b2.of g1 (Nat.le_refl _)
  have n2' : H2.next.toN = H1.next.toN:=by rw [n2]
  obtain ⟨xp,xf,rfl,hnm,⟨hps,hp10,hp400⟩,hfs,hf4⟩:=hat
  have hsf:=fs_le hfs hf4
  have q2:=r2.l 2 (v:=xf) rfl
  obtain ⟨H3,x6,P6,el⟩:=loop13b (p:=p) (b:=H.next) (y3:=y) (xk:=x) (nk:=l.length) (ik:=i) ((hfs.grow flP g2)) hf4
  have n3:=P6.g.next
  have gb:=Grow.bump 1 H3
  have nb : (H3.bump 1).next.toN = H3.next.toN + 1:=next_bump
  have hroom : (2000000 : Nat)≤roomN:=by decide
  have hsm : (3000 : Nat)≤sMax:=by decide
  obtain ⟨H4,g4,e33⟩:=s33 (hps.strs.grow (g2.trans (P6.g.trans gb))) (by omega) (by omega)
  have n4:=g4.next
  obtain ⟨H5,g5,e34⟩:=s34 (P6.strs.grow (gb.trans g4)) (by rw [List.length_map]; omega) (by omega)
  have n5:=g5.next
  have q1b:=(r2.grow (P6.g.trans gb) (by omega)).l 1 (v:=xp) rfl
  have q0b:=(r2.grow (P6.g.trans gb) (by omega)).l 0 (v:=str l[i].nm) rfl
  have q04:=(r2.grow (P6.g.trans (gb.trans g4)) (by omega)).l 0 (v:=str l[i].nm) rfl
  have q05:=(r2.grow (P6.g.trans (gb.trans (g4.trans g5))) (by omega)).l 0 (v:=str l[i].nm) rfl
  have axp : avEq xp xp = true:=av1_av hps.cell.1 hps.cell.2
  have hpl:=parT_le l[i].ps
  have hbl:=braT_le (l[i].fs.map flx)
  rw [List.length_map] at hbl
  have hA:=s_ad (s:=[101,110,116,105,116,121,32]) (t:=l[i].nm) (by show 7 + _≤_; omega)
  have hB:=s_ad (s:=([101,110,116,105,116,121,32] : List UInt8) ++ l[i].nm) (t:=parT l[i].ps) (by rw [List.length_append]; show 7 + _ + _≤_; omega)
  have hC:=s_ad (s:=([101,110,116,105,116,121,32] : List UInt8) ++ l[i].nm ++ parT l[i].ps) (t:=braT (l[i].fs.map flx)) (by rw [List.length_append,List.length_append]; show 7 + _ + _ + _≤_; omega)
  obtain ⟨H6,e6⟩ : ∃ H6,H6 = H5.put H3.next (.cells false 0 9 1 (setCells [str l[i].tx] 0 .leaf)):=⟨_,rfl⟩
  have e6' : H5.put H3.next (.cells false 0 9 1 (setCells [str (([101,110,116,105,116,121,32] : List UInt8) ++ l[i].nm ++ parT l[i].ps ++ braT (l[i].fs.map flx))] 0 .leaf)) = H6:=e6.symm
  have g6 : Grow H3 H6:=by rw [e6]; exact (gb.trans (g4.trans g5)).put (Nat.le_refl _) (by omega) _
  have r6 : Row H6 H3.next 9 [str l[i].tx]:=by rw [e6]; exact ⟨_,get_put,fun j _=>cell_at [str l[i].tx] j⟩
  obtain ⟨H7,x7,P7,eapp⟩:=P.add (g2.trans (P6.g.trans g6)) r6 (by rw [List.length_map,List.length_take]; omega)
  have hlt : (i : Int) < (l.length : Int):=by omega
  have hw:=inc_i (show i < 1000 by omega)
  refine ⟨H7,x7,by rw [List.take_add_one,hil,List.map_append]; exact P7,?_⟩
  rintro fr ⟨f1,f3,f12,f13,f14⟩ M hM R k res hr
  obtain ⟨m,rfl⟩ : ∃ m,M = m + 3000:=⟨M - 3000,by omega⟩
  unfold Lp13a
  rw [run_loop]
  simp only [EX,reduceIte,Nat.reduceEqDiff,Nat.reduceAdd,Int.reduceEq,Int.reduceLT,Int.reduceLE,reduceCtorEq,Nat.reduceLeDiff,Nat.reduceSub,Nat.reduceLT,f3,f12,f13,f14,hlt,eix,ld1]
  rw [e1']
  refine (est _ _).trans ?_
  simp only [EX,reduceIte,Nat.reduceEqDiff,Nat.reduceAdd,Int.reduceEq,Int.reduceLT,Int.reduceLE,reduceCtorEq,Nat.reduceLeDiff,Nat.reduceSub,Nat.reduceLT,q2,hfs.len]
  refine el _ ?ff _ ?hm R _ _ ?ee
  case ff=>exact ⟨by simp only [V_S,Nat.reduceEqDiff,reduceIte]; exact f1,by simp only [V_S,Nat.reduceEqDiff,reduceIte]; exact f3,by simp only [V_S,Nat.reduceEqDiff,reduceIte],by simp only [V_S,Nat.reduceEqDiff,reduceIte],by simp only [V_S,Nat.reduceEqDiff,reduceIte]; exact f12,by simp only [V_S,Nat.reduceEqDiff,reduceIte]; exact f13,by simp only [V_S,Nat.reduceEqDiff,reduceIte]; exact f14,by simp only [V_S,Nat.reduceEqDiff,reduceIte],by simp only [V_S,Nat.reduceEqDiff,reduceIte],by (simp only [V_S,Nat.reduceEqDiff,reduceIte]) <;> rfl⟩
  case hm=>omega
  case ee =>
   rintro fr' ⟨c1,c3,c5,c6,c12,c13,c14,c19,c20,c21⟩
   simp only [EX,reduceIte,Nat.reduceEqDiff,Nat.reduceAdd,Int.reduceEq,Int.reduceLT,Int.reduceLE,reduceCtorEq,Nat.reduceLeDiff,Nat.reduceSub,Nat.reduceLT,c3,c5,c6,q1b,axp]
   rw [e33 _ (by omega)]
   simp only [EX,reduceIte,Nat.reduceEqDiff,Nat.reduceAdd,Int.reduceEq,Int.reduceLT,Int.reduceLE,reduceCtorEq,Nat.reduceLeDiff,Nat.reduceSub,Nat.reduceLT,c3,c5,c6]
   rw [e34 _ (by omega)]
   simp only [EX,reduceIte,Nat.reduceEqDiff,Nat.reduceAdd,Int.reduceEq,Int.reduceLT,Int.reduceLE,reduceCtorEq,Nat.reduceLeDiff,Nat.reduceSub,Nat.reduceLT,c3,c5,c6,q0b,q04,q05,avEq_str,hA,hB,hC]
   rw [e6',eapp]
   simp only [EX,reduceIte,Nat.reduceEqDiff,Nat.reduceAdd,Int.reduceEq,Int.reduceLT,Int.reduceLE,reduceCtorEq,Nat.reduceLeDiff,Nat.reduceSub,Nat.reduceLT,c14,i_add,hw]
   exact hr _ ⟨by simp only [V_S,Nat.reduceEqDiff,reduceIte]; exact c1,by simp only [V_S,Nat.reduceEqDiff,reduceIte],by simp only [V_S,Nat.reduceEqDiff,reduceIte]; exact c12,by simp only [V_S,Nat.reduceEqDiff,reduceIte]; exact c13,by simp only [V_S,Nat.reduceEqDiff,reduceIte]⟩
 obtain ⟨H',xo,P,e⟩:=G
 rw [List.take_length] at P
 exact ⟨H',xo,P,e⟩
def F13c (x : AV) (n i : Nat) (y : AV) (fr : Tr AV) : Prop:=V fr 3 = y∧V fr 51 = x∧V fr 52 = .i .i64 (n : Int)∧V fr 53 = .i .i64 (i : Int)
theorem loop13c {Hb H0 : Heap} {y0 x : AV} {ts : List (List UInt8)} (P0 : Txs Hb H0 y0 ts) (hts : ts.length≤20) {l : List Ac} (hx : Lst 3 AcP Any Hb x l) (h8 : l.length≤5) :
  ∃ H' xo,Txs Hb H' xo (ts ++ l.map Ac.tx)∧∀ fr,F13c x l.length 0 y0 fr→∀ M,3000 + l.length≤M→∀ (R : Type) (k : XK R) (res : Option R),(∀ fr',F13c x l.length l.length xo fr'→k (.exit 4) fr' H' = res)→runK tbl M R Lp13c fr H0 k = res:=by
 have G:=loop_cps (Lp:=Lp13c) (ex:=4) (n:=l.length) (c:=3000) (St:=AV) (fun i H y=>Txs Hb H y (ts ++ (l.take i).map Ac.tx)) (fun i y fr=>F13c x l.length i y fr) ?hend ?hstep l.length 0 H0 y0 (by omega) (by rw [List.take_zero,List.map_nil,List.append_nil]; exact P0)
 case hend =>
  rintro H y P fr ⟨f3,f51,f52,f53⟩ M hM R k res hr
  obtain ⟨m,rfl⟩ : ∃ m,M = m + 100:=⟨M - 100,by omega⟩
  unfold Lp13c
  rw [run_loop]
  simp only [EX,reduceIte,Nat.reduceEqDiff,Nat.reduceAdd,Int.reduceEq,Int.reduceLT,Int.reduceLE,reduceCtorEq,Nat.reduceLeDiff,Nat.reduceSub,Nat.reduceLT,f52,f53,Int.lt_irrefl]
  exact hr _ ⟨by simp only [V_S,Nat.reduceEqDiff,reduceIte]; exact f3,by simp only [V_S,Nat.reduceEqDiff,reduceIte]; exact f51,by simp only [V_S,Nat.reduceEqDiff,reduceIte]; exact f52,by simp only [V_S,Nat.reduceEqDiff,reduceIte]; exact f53⟩
 case hstep =>
  rintro i H y hi P
  have hil : l[i]? = some l[i]:=List.getElem?_eq_getElem hi
  obtain ⟨a,o,bs,hat,ha,eix,_,eld⟩:=(hx.grow acP P.g).at acP hil
  have hatl:=ac_le hat
  have hb3:=acP.len hat
  have hb1:=acP.ones hat
  have ld1 : ∀ (R : Type) (c : HK R),ldC true 3 (.p a o) c H = c (.ag bs) H:=by
   intro R c
   have:=eld H (Grow.refl _) 0 3 (by omega) R c
   rw [List.drop_zero,List.take_of_length_le (by omega)] at this
   exact this
  obtain ⟨H1,e1,g1,r1,n1⟩:=box1 81 H [str [],.ns,.ns]
  have e1' : H.alloc (.cells false 0 81 3 (setCells [str [],.ns,.ns] 0 .leaf)) = H1:=e1.symm
  obtain ⟨H2,r2,b2,n2,est⟩:=r1.st_all (n:=3) (ys:=bs) (by omega) hb3 rfl hb1
  have g2 : Grow H H2:=b2.of g1 (Nat.le_refl _)
  have n2' : H2.next.toN = H1.next.toN:=by rw [n2]
  obtain ⟨xp,xr,rfl,hnm,⟨hps,hp10,hp400⟩,⟨hrs,hr10,hr400⟩⟩:=hat
  have gb:=Grow.bump 1 H2
  have nb : (H2.bump 1).next.toN = H2.next.toN + 1:=next_bump
  have hroom : (2000000 : Nat)≤roomN:=by decide
  have hsm : (3000 : Nat)≤sMax:=by decide
  obtain ⟨H4,g4,e35⟩:=s35 (hps.strs.grow (g2.trans gb)) (by omega) (by omega)
  have n4:=g4.next
  obtain ⟨H5,g5,e35r⟩:=s35 (hrs.strs.grow (g2.trans (gb.trans g4))) (by omega) (by omega)
  have n5:=g5.next
  have q1b:=(r2.grow gb (by omega)).l 1 (v:=xp) rfl
  have q2b:=(r2.grow gb (by omega)).l 2 (v:=xr) rfl
  have q24:=(r2.grow (gb.trans g4) (by omega)).l 2 (v:=xr) rfl
  have q0b:=(r2.grow gb (by omega)).l 0 (v:=str l[i].nm) rfl
  have q04:=(r2.grow (gb.trans g4) (by omega)).l 0 (v:=str l[i].nm) rfl
  have q05:=(r2.grow (gb.trans (g4.trans g5)) (by omega)).l 0 (v:=str l[i].nm) rfl
  have axp : avEq xp xp = true:=av1_av hps.cell.1 hps.cell.2
  have axr : avEq xr xr = true:=av1_av hrs.cell.1 hrs.cell.2
  have hpl:=joinS_le l[i].ps
  have hrl:=joinS_le l[i].rs
  have hA:=s_ad (s:=[97,99,116,105,111,110,32]) (t:=l[i].nm) (by show 7 + _≤_; omega)
  have hB:=s_ad (s:=([97,99,116,105,111,110,32] : List UInt8) ++ l[i].nm) (t:=[58,32]) (by rw [List.length_append]; show 7 + _ + 2≤_; omega)
  have hC:=s_ad (s:=([97,99,116,105,111,110,32] : List UInt8) ++ l[i].nm ++ [58,32]) (t:=joinS l[i].ps) (by rw [List.length_append,List.length_append]; show 7 + _ + 2 + _≤_; omega)
  have hD:=s_ad (s:=([97,99,116,105,111,110,32] : List UInt8) ++ l[i].nm ++ [58,32] ++ joinS l[i].ps) (t:=[32,45,62,32]) (by rw [List.length_append,List.length_append,List.length_append]; show 7 + _ + 2 + _ + 4≤_; omega)
  have hE:=s_ad (s:=([97,99,116,105,111,110,32] : List UInt8) ++ l[i].nm ++ [58,32] ++ joinS l[i].ps ++ [32,45,62,32]) (t:=joinS l[i].rs) (by rw [List.length_append,List.length_append,List.length_append,List.length_append]; show 7 + _ + 2 + _ + 4 + _≤_; omega)
  have hF:=s_ad (s:=([97,99,116,105,111,110,32] : List UInt8) ++ l[i].nm ++ [58,32] ++ joinS l[i].ps ++ [32,45,62,32] ++ joinS l[i].rs) (t:=[59]) (by rw [List.length_append,List.length_append,List.length_append,List.length_append,List.length_append]; show 7 + _ + 2 + _ + 4 + _ + 1≤_; omega)
  obtain ⟨H6,e6⟩ : ∃ H6,H6 = H5.put H2.next (.cells false 0 9 1 (setCells [str l[i].tx] 0 .leaf)):=⟨_,rfl⟩
  have e6' : H5.put H2.next (.cells false 0 9 1 (setCells [str (([97,99,116,105,111,110,32] : List UInt8) ++ l[i].nm ++ [58,32] ++ joinS l[i].ps ++ [32,45,62,32] ++ joinS l[i].rs ++ [59])] 0 .leaf)) = H6:=e6.symm
  have g6 : Grow H2 H6:=by rw [e6]; exact (gb.trans (g4.trans g5)).put (Nat.le_refl _) (by omega) _
  have r6 : Row H6 H2.next 9 [str l[i].tx]:=by rw [e6]; exact ⟨_,get_put,fun j _=>cell_at [str l[i].tx] j⟩
  obtain ⟨H7,x7,P7,eapp⟩:=P.add (g2.trans g6) r6 (by rw [List.length_append,List.length_map,List.length_take]; omega)
  have hlt : (i : Int) < (l.length : Int):=by omega
  have hw:=inc_i (show i < 1000 by omega)
  refine ⟨H7,x7,by rw [List.take_add_one,hil,List.map_append,← List.append_assoc]; exact P7,?_⟩
  rintro fr ⟨f3,f51,f52,f53⟩ M hM R k res hr
  obtain ⟨m,rfl⟩ : ∃ m,M = m + 3000:=⟨M - 3000,by omega⟩
  unfold Lp13c
  rw [run_loop]
  simp only [EX,reduceIte,Nat.reduceEqDiff,Nat.reduceAdd,Int.reduceEq,Int.reduceLT,Int.reduceLE,reduceCtorEq,Nat.reduceLeDiff,Nat.reduceSub,Nat.reduceLT,f3,f51,f52,f53,hlt,eix,ld1]
  rw [e1']
  refine (est _ _).trans ?_
  simp only [EX,reduceIte,Nat.reduceEqDiff,Nat.reduceAdd,Int.reduceEq,Int.reduceLT,Int.reduceLE,reduceCtorEq,Nat.reduceLeDiff,Nat.reduceSub,Nat.reduceLT,f3,q1b,axp]
  rw [e35 _ (by omega)]
  simp only [EX,reduceIte,Nat.reduceEqDiff,Nat.reduceAdd,Int.reduceEq,Int.reduceLT,Int.reduceLE,reduceCtorEq,Nat.reduceLeDiff,Nat.reduceSub,Nat.reduceLT,f3,q2b,q24,axr]
  rw [e35r _ (by omega)]
  simp only [EX,reduceIte,Nat.reduceEqDiff,Nat.reduceAdd,Int.reduceEq,Int.reduceLT,Int.reduceLE,reduceCtorEq,Nat.reduceLeDiff,Nat.reduceSub,Nat.reduceLT,f3,q0b,q04,q05,avEq_str,hA,hB,hC,hD,hE,hF]
  rw [e6',eapp]
  simp only [EX,reduceIte,Nat.reduceEqDiff,Nat.reduceAdd,Int.reduceEq,Int.reduceLT,Int.reduceLE,reduceCtorEq,Nat.reduceLeDiff,Nat.reduceSub,Nat.reduceLT,f53,i_add,hw]
  exact hr _ ⟨by simp only [V_S,Nat.reduceEqDiff,reduceIte],by simp only [V_S,Nat.reduceEqDiff,reduceIte]; exact f51,by simp only [V_S,Nat.reduceEqDiff,reduceIte]; exact f52,by simp only [V_S,Nat.reduceEqDiff,reduceIte]⟩
 obtain ⟨H',xo,P,e⟩:=G
 rw [List.take_length] at P
 exact ⟨H',xo,P,e⟩
/-- show.Schema -/
theorem s13 {S : Pa→Prop} {H : Heap} {bs : List AV} {s : Sc} (h : ScP S H bs s) : Tells 13 6000 [.ag bs] H (str s.tx):=by
 obtain ⟨xk,xa,rfl,hk,hk5,ha,ha5⟩:=h
 have hk:=hk.weak kiP (S':=Any) fun _ _ _=>trivial
 have ha:=ha.weak acP (S':=Any) fun _ _ _=>trivial
 obtain ⟨H1,e1,g1,r1,n1⟩:=box1 44 H [xk,xa]
 have e1' : H.alloc (.cells false 0 44 2 (setCells [xk,xa] 0 .leaf)) = H1:=e1.symm
 have l0:=r1.l 0 (v:=xk) rfl
 obtain ⟨H2,x2,P2,el2⟩:=loop13a (p:=H.next) (hk.grow kiP g1) hk5
 have l1:=(r1.grow P2.g (by omega)).l 1 (v:=xa) rfl
 obtain ⟨H3,x3,P3,el3⟩:=loop13c P2 (by rw [List.length_map]; omega) (ha.grow acP g1) ha5
 have hsk:=sum_map (f:=Ki.tx) (l:=s.ks) (c:=900) fun r hr=>by obtain ⟨bs,hb⟩:=hk.all r hr; exact ki_le hb
 have hsa:=sum_map (f:=Ac.tx) (l:=s.as_) (c:=900) fun r hr=>by obtain ⟨bs,hb⟩:=ha.all r hr; exact ac_le hb
 have hroom : (2000000 : Nat)≤roomN:=by decide
 obtain ⟨H4,g4,e35⟩:=s35n P3.strs (by rw [List.length_append,List.length_map,List.length_map]; omega) (by rw [List.length_append,List.length_map,List.length_map,sumL_app]; omega)
 refine ⟨H4,g1.trans (P3.g.trans g4),fun M hM R k=>?_⟩
 obtain ⟨m,rfl⟩ : ∃ m,M = m + 6000:=⟨M - 6000,by omega⟩
 rw [call_eq L13]
 unfold B13
 simp only [EX,reduceIte,Nat.reduceEqDiff,Nat.reduceAdd,Int.reduceEq,Int.reduceLT,Int.reduceLE,reduceCtorEq,Nat.reduceLeDiff,Nat.reduceSub,Nat.reduceLT]
 rw [e1']
 simp only [EX,reduceIte,Nat.reduceEqDiff,Nat.reduceAdd,Int.reduceEq,Int.reduceLT,Int.reduceLE,reduceCtorEq,Nat.reduceLeDiff,Nat.reduceSub,Nat.reduceLT,l0,hk.len]
 refine el2 _ ?ff _ ?hm R _ _ ?ee
 case ff=>exact ⟨by simp only [V_S,Nat.reduceEqDiff,reduceIte],by simp only [V_S,Nat.reduceEqDiff,reduceIte],by simp only [V_S,Nat.reduceEqDiff,reduceIte],by simp only [V_S,Nat.reduceEqDiff,reduceIte],by (simp only [V_S,Nat.reduceEqDiff,reduceIte]) <;> rfl⟩
 case hm=>omega
 case ee =>
  rintro fr' ⟨c1,c3,c12,c13,c14⟩
  simp only [EX,reduceIte,Nat.reduceEqDiff,Nat.reduceAdd,Int.reduceEq,Int.reduceLT,Int.reduceLE,reduceCtorEq,Nat.reduceLeDiff,Nat.reduceSub,Nat.reduceLT,c1,c3,l1,ha.len]
  refine el3 _ ?ff2 _ ?hm2 R _ _ ?ee2
  case ff2=>exact ⟨by simp only [V_S,Nat.reduceEqDiff,reduceIte]; exact c3,by simp only [V_S,Nat.reduceEqDiff,reduceIte],by simp only [V_S,Nat.reduceEqDiff,reduceIte],by (simp only [V_S,Nat.reduceEqDiff,reduceIte]) <;> rfl⟩
  case hm2=>omega
  case ee2 =>
   rintro fr2 ⟨d3,d51,d52,d53⟩
   simp only [EX,reduceIte,Nat.reduceEqDiff,Nat.reduceAdd,Int.reduceEq,Int.reduceLT,Int.reduceLE,reduceCtorEq,Nat.reduceLeDiff,Nat.reduceSub,Nat.reduceLT,d3]
   rw [e35 _ (by omega)]
   simp only [EX,reduceIte,Nat.reduceEqDiff,Nat.reduceAdd,Int.reduceEq,Int.reduceLT,Int.reduceLE,reduceCtorEq,Nat.reduceLeDiff,Nat.reduceSub,Nat.reduceLT]
   exact rfl
end Go.Proofs.YtmmmjhkgjmbfaaaDoor

/- A schema's text,the document's (chancelref6.Schema). -/
namespace Go.Proofs.YtmmmjhkgjmbfaaaDoor
open Go Go.Vai
set_option maxRecDepth 100000
set_option maxHeartbeats 1600000
set_option linter.unusedSimpArgs false
theorem joinL_end (ts : List (List UInt8)) (s : List UInt8) : joinL (ts ++ [s]) = if ts = [] then s else joinL ts ++ [10] ++ s:=by
 cases ts with
 | nil=>show s ++ [] = _; simp
 | cons t ts =>
  rw [if_neg (by simp)]
  show t ++ joinN (ts ++ [s]) = t ++ joinN ts ++ [10] ++ s
  rw [joinN_app]
  show t ++ (joinN ts ++ ([10] ++ s ++ [])) = _
  simp
theorem joinL_le (l : List (List UInt8)) : (joinL l).length≤l.length + sumL l:=by
 cases l with
 | nil=>exact Nat.zero_le _
 | cons s l =>
  show (s ++ joinN l).length≤_
  rw [List.length_append,joinN_len,sumL_cons,List.length_cons]; omega
theorem mem_len {l : List (List UInt8)} {i : Nat} (hi : i < l.length) : l[i].length≤sumL l:=by
 have this:=sum_take (l.drop i) 1
 have h2:=sumL_app (l.take i) (l.drop i)
 rw [List.take_append_drop] at h2
 rw [List.drop_eq_getElem_cons hi,List.take_succ_cons,List.take_zero] at this
 rw [List.drop_eq_getElem_cons hi] at h2
 rw [sumL_cons] at h2
 omega
def F14b (p : Pa) (y : AV) (ik : Nat) (b : Pa) (i : Nat) (s : List UInt8) (fr : Tr AV) : Prop:=V fr 1 = .p p 0∧V fr 3 = y∧V fr 4 = .i .i64 (ik : Int)∧V fr 5 = .p b 0∧V fr 6 = str s∧V fr 7 = .i .i64 (i : Int)
theorem loop14b {H0 : Heap} {p : Pa} {y : AV} {ik : Nat} {b : Pa} {t : List UInt8} (ht : t.length≤2000) {bs : List AV} {x : AV} {l : List (List UInt8 × Ty)} (hx : Lst 4 FlP Any H0 x l) (h4 : l.length≤4) (hp : b.toN < H0.next.toN) (hr : Row H0 b 71 bs) (hb : bs[2]? = some x) :
  ∃ H',Grow H0 H'∧∀ fr,F14b p y ik b 0 t fr→∀ M,500 + l.length≤M→∀ (R : Type) (k : XK R) (res : Option R),(∀ fr',F14b p y ik b l.length (t ++ bodT (l.map flx)) fr'→k (.exit 2) fr' H' = res)→runK tbl M R Lp14b fr H0 k = res:=by
 have hsa:=fs_le hx h4
 have hsm : (50000 : Nat)≤sMax:=by decide
 have hcell:=hx.cell
 have axx : avEq x x = true:=hx.self
 have G:=loop_cps (Lp:=Lp14b) (ex:=2) (n:=l.length) (c:=500) (St:=Unit) (fun i H _=>Grow H0 H) (fun i _ fr=>F14b p y ik b i (t ++ bodT ((l.take i).map flx)) fr) ?hend ?hstep l.length 0 H0 () (by omega) (Grow.refl H0)
 case hend =>
  rintro H _ g fr ⟨f1,f3,f4,f5,f6,f7⟩ M hM R k res hr'
  obtain ⟨m,rfl⟩ : ∃ m,M = m + 100:=⟨M - 100,by omega⟩
  have l2:=(hr.grow g hp).l 2 hb
  unfold Lp14b
  rw [run_loop]
  simp only [EX,reduceIte,Nat.reduceEqDiff,Nat.reduceAdd,Int.reduceEq,Int.reduceLT,Int.reduceLE,reduceCtorEq,Nat.reduceLeDiff,Nat.reduceSub,Nat.reduceLT,f5,f7,l2,hx.len,Int.lt_irrefl]
  exact hr' _ ⟨by simp only [V_S,Nat.reduceEqDiff,reduceIte]; exact f1,by simp only [V_S,Nat.reduceEqDiff,reduceIte]; exact f3,by simp only [V_S,Nat.reduceEqDiff,reduceIte]; exact f4,by simp only [V_S,Nat.reduceEqDiff,reduceIte]; exact f5,by simp only [V_S,Nat.reduceEqDiff,reduceIte]; exact f6,by simp only [V_S,Nat.reduceEqDiff,reduceIte]; exact f7⟩
 case hstep =>
  rintro i H _ hi g
  have hil : l[i]? = some l[i]:=List.getElem?_eq_getElem hi
  obtain ⟨a,o,bs',hat,ha,eix,eld1,eld⟩:=(hx.grow flP g).at flP hil
  have hatl:=flx_le hat
  obtain ⟨rfl,hnm,hty⟩:=hat
  have axc : avEq (.ag l[i].2.cs) (.ag l[i].2.cs) = true:=avEq_ag fun v hv=>(Ty.one _ v hv).2
  have htl':=Ty.tx_le hty
  obtain ⟨H1,g1,e37⟩:=s37 hty H
  have vb : ∀ (R : Type) (k : HK R),ldC true 3 (.p a (o + 1)) k H = k (.ag l[i].2.cs) H:=fun R k=>eld H (Grow.refl _) 1 3 (by omega) R k
  have k0 : ∀ (R : Type) (k : HK R),ldC false 1 (.p a (o + 0)) k H = k (str l[i].1) H:=fun R k=>eld1 H (Grow.refl _) 0 (str l[i].1) rfl R k
  have k1 : ∀ (R : Type) (k : HK R),ldC false 1 (.p a (o + 0)) k H1 = k (str l[i].1) H1:=fun R k=>eld1 H1 g1 0 (str l[i].1) rfl R k
  have l2:=(hr.grow g hp).l 2 hb
  have l21:=(hr.grow (g.trans g1) hp).l 2 hb
  have hlt : (i : Int) < (l.length : Int):=by omega
  have hw:=inc_i (show i < 1000 by omega)
  have hpl:=bodT_le ((l.take i).map flx)
  have hst:=sum_take (l.map flx) i
  rw [← List.map_take] at hst
  have htl : (l.take i).length≤4:=by rw [List.length_take]; omega
  rw [List.length_map] at hpl
  have es : bodT ((l.take (i + 1)).map flx) = if i = 0 then [32] ++ flx l[i] else bodT ((l.take i).map flx) ++ [44] ++ ([32] ++ flx l[i]):=by
   rw [take_snoc hi,List.map_append]
   show bodT (_ ++ [flx l[i]]) = _
   rw [bodT_snoc]
   simp only [List.map_eq_nil_iff,take_nil_iff hi]
  refine ⟨H1,(),g.trans g1,?_⟩
  rintro fr ⟨f1,f3,f4,f5,f6,f7⟩ M hM R k res hr'
  obtain ⟨m,rfl⟩ : ∃ m,M = m + 500:=⟨M - 500,by omega⟩
  unfold Lp14b
  rw [run_loop]
  by_cases h0 : i = 0
  ·rw [if_pos h0] at es
   rw [es] at hr'
   subst h0
   have hpe : bodT ((l.take 0).map flx) = []:=rfl
   rw [hpe,List.append_nil] at f6
   have hA:=s_ad (s:=t) (t:=[32]) (by show _ + 1≤_; omega)
   have hB:=s_ad (s:=t ++ ([32] : List UInt8)) (t:=l[0].1) (by rw [List.length_append]; show _ + 1 + _≤_; omega)
   have hC:=s_ad (s:=t ++ ([32] : List UInt8) ++ l[0].1) (t:=[58,32]) (by rw [List.length_append,List.length_append]; show _ + 1 + _ + 2≤_; omega)
   have hD:=s_ad (s:=t ++ ([32] : List UInt8) ++ l[0].1 ++ [58,32]) (t:=l[0].2.tx) (by rw [List.length_append,List.length_append,List.length_append]; show _ + 1 + _ + 2 + _≤_; omega)
   have hlt : (0 : Int) < (l.length : Int):=hlt
   have eix : ∀ (R : Type) (k : HK R) (G : Heap),ixaC 4 x (.i .i64 0) k G = k (.p a o) G:=eix
   have f7 : V fr 7 = .i .i64 0:=f7
   have hw : IntKind.i64.wrap (0 + 1) = ((0 + 1 : Nat) : Int):=hw
   simp only [EX,reduceIte,Nat.reduceEqDiff,Nat.reduceAdd,Int.reduceEq,Int.reduceLT,Int.reduceLE,reduceCtorEq,Nat.reduceLeDiff,Nat.reduceSub,Nat.reduceLT,bump_0,f5,f6,f7,l2,hx.len,hlt,Int.lt_irrefl,eix,vb,axx,axc]
   rw [e37 _ (by omega)]
   simp only [EX,reduceIte,Nat.reduceEqDiff,Nat.reduceAdd,Int.reduceEq,Int.reduceLT,Int.reduceLE,reduceCtorEq,Nat.reduceLeDiff,Nat.reduceSub,Nat.reduceLT,bump_0,f5,f6,f7,l2,l21,axx,avEq_str,eix,k0,k1,hA,hB,hC,hD,i_add,hw]
   exact hr' _ ⟨by simp only [V_S,Nat.reduceEqDiff,reduceIte]; exact f1,by simp only [V_S,Nat.reduceEqDiff,reduceIte]; exact f3,by simp only [V_S,Nat.reduceEqDiff,reduceIte]; exact f4,by simp only [V_S,Nat.reduceEqDiff,reduceIte]; exact f5,by simp only [V_S,Nat.reduceEqDiff,reduceIte]; unfold flx; simp only [List.append_assoc],by simp only [V_S,Nat.reduceEqDiff,reduceIte]⟩
  ·have h0' : (0 : Int) < (i : Int):=by omega
   rw [if_neg h0] at es
   rw [es] at hr'
   have hZ:=s_ad (s:=t ++ bodT ((l.take i).map flx)) (t:=[44]) (by rw [List.length_append]; show _ + 1≤_; omega)
   have hA:=s_ad (s:=t ++ bodT ((l.take i).map flx) ++ [44]) (t:=[32]) (by rw [List.length_append,List.length_append]; show _ + 1 + 1≤_; omega)
   have hB:=s_ad (s:=t ++ bodT ((l.take i).map flx) ++ [44] ++ [32]) (t:=l[i].1) (by rw [List.length_append,List.length_append,List.length_append]; show _ + 1 + 1 + _≤_; omega)
   have hC:=s_ad (s:=t ++ bodT ((l.take i).map flx) ++ [44] ++ [32] ++ l[i].1) (t:=[58,32]) (by rw [List.length_append,List.length_append,List.length_append,List.length_append]; show _ + 1 + 1 + _ + 2≤_; omega)
   have hD:=s_ad (s:=t ++ bodT ((l.take i).map flx) ++ [44] ++ [32] ++ l[i].1 ++ [58,32]) (t:=l[i].2.tx) (by rw [List.length_append,List.length_append,List.length_append,List.length_append,List.length_append]; show _ + 1 + 1 + _ + 2 + _≤_; omega)
   simp only [EX,reduceIte,Nat.reduceEqDiff,Nat.reduceAdd,Int.reduceEq,Int.reduceLT,Int.reduceLE,reduceCtorEq,Nat.reduceLeDiff,Nat.reduceSub,Nat.reduceLT,bump_0,f5,f6,f7,l2,hx.len,hlt,h0',hZ,eix,vb,axx,axc]
   rw [e37 _ (by omega)]
   simp only [EX,reduceIte,Nat.reduceEqDiff,Nat.reduceAdd,Int.reduceEq,Int.reduceLT,Int.reduceLE,reduceCtorEq,Nat.reduceLeDiff,Nat.reduceSub,Nat.reduceLT,bump_0,f5,f6,f7,l2,l21,axx,avEq_str,eix,k0,k1,hA,hB,hC,hD,i_add,hw]
   exact hr' _ ⟨by simp only [V_S,Nat.reduceEqDiff,reduceIte]; exact f1,by simp only [V_S,Nat.reduceEqDiff,reduceIte]; exact f3,by simp only [V_S,Nat.reduceEqDiff,reduceIte]; exact f4,by simp only [V_S,Nat.reduceEqDiff,reduceIte]; exact f5,by simp only [V_S,Nat.reduceEqDiff,reduceIte]; unfold flx; simp only [List.append_assoc],by simp only [V_S,Nat.reduceEqDiff,reduceIte]⟩
 obtain ⟨H',_,g,e⟩:=G
 rw [List.take_length] at e
 exact ⟨H',g,fun fr f=>e fr (by obtain ⟨f1,f3,f4,f5,f6,f7⟩:=f; exact ⟨f1,f3,f4,f5,by rw [f6]; simp [bodT],f7⟩)⟩
def F14a (p : Pa) (i : Nat) (y : AV) (fr : Tr AV) : Prop:=V fr 1 = .p p 0∧V fr 3 = y∧V fr 4 = .i .i64 (i : Int)
theorem loop14a {H0 : Heap} {p : Pa} {bs0 : List AV} {x : AV} {l : List Ki} (hx : Lst 3 KiP Any H0 x l) (h8 : l.length≤5) (hp : p.toN < H0.next.toN) (hr : Row H0 p 44 bs0) (hb0 : bs0[0]? = some x) :
  ∃ H' xo,Txs H0 H' xo (l.map Ki.tx)∧∀ fr,F14a p 0 .ns fr→∀ M,2000 + l.length≤M→∀ (R : Type) (k : XK R) (res : Option R),(∀ fr',F14a p l.length xo fr'→k (.exit 0) fr' H' = res)→runK tbl M R Lp14a fr H0 k = res:=by
 have G:=loop_cps (Lp:=Lp14a) (ex:=0) (n:=l.length) (c:=2000) (St:=AV) (fun i H y=>Txs H0 H y ((l.take i).map Ki.tx)) (fun i y fr=>F14a p i y fr) ?hend ?hstep l.length 0 H0 .ns (by omega) (Txs.init H0)
 case hend =>
  rintro H y P fr ⟨f1,f3,f4⟩ M hM R k res hr'
  obtain ⟨m,rfl⟩ : ∃ m,M = m + 100:=⟨M - 100,by omega⟩
  have l0:=(hr.grow P.g hp).l 0 hb0
  unfold Lp14a
  rw [run_loop]
  simp only [EX,reduceIte,Nat.reduceEqDiff,Nat.reduceAdd,Int.reduceEq,Int.reduceLT,Int.reduceLE,reduceCtorEq,Nat.reduceLeDiff,Nat.reduceSub,Nat.reduceLT,f1,f4,l0,hx.len,Int.lt_irrefl]
  exact hr' _ ⟨by simp only [V_S,Nat.reduceEqDiff,reduceIte]; exact f1,by simp only [V_S,Nat.reduceEqDiff,reduceIte]; exact f3,by simp only [V_S,Nat.reduceEqDiff,reduceIte]; exact f4⟩
 case hstep =>
  rintro i H y hi P
  have hil : l[i]? = some l[i]:=List.getElem?_eq_getElem hi
  obtain ⟨a,o,bs,hat,ha,eix,_,eld⟩:=(hx.grow kiP P.g).at kiP hil
  have hatl:=ki_le hat
  have hb3:=kiP.len hat
  have hb1:=kiP.ones hat
  have ld1 : ∀ (R : Type) (c : HK R),ldC true 3 (.p a o) c H = c (.ag bs) H:=by
   intro R c
   have:=eld H (Grow.refl _) 0 3 (by omega) R c
   rw [List.drop_zero,List.take_of_length_le (by omega)] at this
   exact this
  obtain ⟨H1,e1,g1,r1,n1⟩:=box1 71 H [str [],.ns,.ns]
  have e1' : H.alloc (.cells false 0 71 3 (setCells [str [],.ns,.ns] 0 .leaf)) = H1:=e1.symm
  obtain ⟨H2,r2,b2,n2,est⟩:=r1.st_all (n:=3) (ys:=bs) (by omega) hb3 rfl hb1
  have g2 : Grow H H2:=b2.of g1 (Nat.le_refl _)
  have n2' : H2.next.toN = H1.next.toN:=by rw [n2]
  obtain ⟨xp,xf,rfl,hnm,⟨hps,hp10,hp400⟩,hfs,hf4⟩:=hat
  have hsf:=fs_le hfs hf4
  have hsm : (30000 : Nat)≤sMax:=by decide
  obtain ⟨H3,g3,e36,e36n⟩ : ∃ H3,Grow H2 H3∧(l[i].ps ≠ []→∀ M,400≤M→∀ (R : Type) (k : HK R),callK tbl (runK tbl M) R (toPa 36) [xp] H2 k = k (str (joinS l[i].ps)) H3)∧(l[i].ps = []→H3 = H2):=by
   by_cases h : l[i].ps = []
   ·exact ⟨H2,Grow.refl _,fun q=>absurd h q,fun _=>rfl⟩
   ·obtain ⟨H3,g3,e⟩:=s36 (H:=H2) ⟨hps.mv (fun a h hb=>⟨trivial,g2.get a hb⟩) g2.next,hp10,hp400⟩
    exact ⟨H3,g3,fun _=>e,fun q=>absurd q h⟩
  have n3:=g3.next
  have hpl:=parT_le l[i].ps
  have hjl:=joinS_le l[i].ps
  obtain ⟨H4,g4,el⟩:=loop14b (p:=p) (y:=y) (ik:=i) (b:=H.next) (t:=([101,110,116,105,116,121,32] : List UInt8) ++ l[i].nm ++ parT l[i].ps ++ [32,123]) (by rw [List.length_append,List.length_append,List.length_append]; show 7 + _ + _ + 2≤_; omega) (hfs.grow flP (g2.trans g3)) hf4 (by omega) (r2.grow g3 (by omega)) rfl
  have n4:=g4.next
  obtain ⟨H5,g5,e38⟩:=s38 l[i].fs.length H4
  have q0:=r2.l 0 (v:=str l[i].nm) rfl
  have q1:=r2.l 1 (v:=xp) rfl
  have q23:=(r2.grow (g3.trans g4) (by omega)).l 2 (v:=xf) rfl
  have hbl:=bodT_le (l[i].fs.map flx)
  rw [List.length_map] at hbl
  have hel : (endT l[i].fs.length).length≤3:=by unfold endT; split <;> decide
  have hA:=s_ad (s:=[101,110,116,105,116,121,32]) (t:=l[i].nm) (by show 7 + _≤_; omega)
  have hB:=s_ad (s:=([101,110,116,105,116,121,32] : List UInt8) ++ l[i].nm) (t:=[32,105,110,32]) (by rw [List.length_append]; show 7 + _ + 4≤_; omega)
  have hB2:=s_ad (s:=([101,110,116,105,116,121,32] : List UInt8) ++ l[i].nm ++ [32,105,110,32]) (t:=joinS l[i].ps) (by rw [List.length_append,List.length_append]; show 7 + _ + 4 + _≤_; omega)
  have hC:=s_ad (s:=([101,110,116,105,116,121,32] : List UInt8) ++ l[i].nm ++ [32,105,110,32] ++ joinS l[i].ps) (t:=[32,123]) (by rw [List.length_append,List.length_append,List.length_append]; show 7 + _ + 4 + _ + 2≤_; omega)
  have hC2:=s_ad (s:=([101,110,116,105,116,121,32] : List UInt8) ++ l[i].nm) (t:=[32,123]) (by rw [List.length_append]; show 7 + _ + 2≤_; omega)
  have hD:=s_ad (s:=([101,110,116,105,116,121,32] : List UInt8) ++ l[i].nm ++ parT l[i].ps ++ [32,123] ++ bodT (l[i].fs.map flx)) (t:=endT l[i].fs.length) (by rw [List.length_append,List.length_append,List.length_append,List.length_append]; show 7 + _ + _ + 2 + _ + _≤_; omega)
  have etx : ([101,110,116,105,116,121,32] : List UInt8) ++ l[i].nm ++ parT l[i].ps ++ [32,123] ++ bodT (l[i].fs.map flx) ++ endT l[i].fs.length = l[i].tx:=by
   unfold Ki.tx
   rw [braT_eq,List.length_map]
   simp only [List.append_assoc]
  obtain ⟨H6,e6⟩ : ∃ H6,H6 = H5.alloc (.cells false 0 9 1 (setCells [str l[i].tx] 0 .leaf)):=⟨_,rfl⟩
  have e6' : H5.alloc (.cells false 0 9 1 (setCells [str (([101,110,116,105,116,121,32] : List UInt8) ++ l[i].nm ++ parT l[i].ps ++ [32,123] ++ bodT (l[i].fs.map flx) ++ endT l[i].fs.length)] 0 .leaf)) = H6:=by rw [etx]; exact e6.symm
  have g6 : Grow H5 H6:=by rw [e6]; exact Grow.alloc H5 _
  have r6 : Row H6 H5.next 9 [str l[i].tx]:=by rw [e6]; exact Row.new H5 9 [str l[i].tx]
  obtain ⟨H7,x7,P7,eapp⟩:=P.add (g2.trans (g3.trans (g4.trans (g5.trans g6)))) r6 (by rw [List.length_map,List.length_take]; omega)
  have l0:=(hr.grow P.g hp).l 0 hb0
  have hlt : (i : Int) < (l.length : Int):=by omega
  have hw:=inc_i (show i < 1000 by omega)
  refine ⟨H7,x7,by rw [List.take_add_one,hil,List.map_append]; exact P7,?_⟩
  rintro fr ⟨f1,f3,f4⟩ M hM R k res hr'
  obtain ⟨m,rfl⟩ : ∃ m,M = m + 2000:=⟨M - 2000,by omega⟩
  unfold Lp14a
  rw [run_loop]
  by_cases h : l[i].ps = []
  ·have hpz : (l[i].ps.length : Int) = 0:=by rw [h]; rfl
   have hlz : ∀ (R : Type) (k : HK R) (G : Heap),lenC false xp k G = k (.i .i64 0) G:=fun R k G=>by rw [hps.strs.len,hpz]
   have e3 : H2 = H3:=(e36n h).symm
   have hpe : parT l[i].ps = []:=by rw [h]; rfl
   simp only [EX,reduceIte,Nat.reduceEqDiff,Nat.reduceAdd,Int.reduceEq,Int.reduceLT,Int.reduceLE,reduceCtorEq,Nat.reduceLeDiff,Nat.reduceSub,Nat.reduceLT,f1,f4,l0,hx.len,hlt,eix,ld1]
   rw [e1']
   refine (est _ _).trans ?_
   simp only [EX,reduceIte,Nat.reduceEqDiff,Nat.reduceAdd,Int.reduceEq,Int.reduceLT,Int.reduceLE,reduceCtorEq,Nat.reduceLeDiff,Nat.reduceSub,Nat.reduceLT,q0,q1,hA,hlz,Int.lt_irrefl,hC2]
   rw [e3]
   refine el _ ?ff _ ?hm R _ _ ?ee
   case ff=>exact ⟨by simp only [V_S,Nat.reduceEqDiff,reduceIte]; exact f1,by simp only [V_S,Nat.reduceEqDiff,reduceIte]; exact f3,by simp only [V_S,Nat.reduceEqDiff,reduceIte]; exact f4,by simp only [V_S,Nat.reduceEqDiff,reduceIte],by simp only [V_S,Nat.reduceEqDiff,reduceIte]; rw [hpe,List.append_nil],by (simp only [V_S,Nat.reduceEqDiff,reduceIte]) <;> rfl⟩
   case hm=>omega
   case ee =>
    rintro fr' ⟨c1,c3,c4,c5,c6,c7⟩
    simp only [EX,reduceIte,Nat.reduceEqDiff,Nat.reduceAdd,Int.reduceEq,Int.reduceLT,Int.reduceLE,reduceCtorEq,Nat.reduceLeDiff,Nat.reduceSub,Nat.reduceLT,c3,c5,c6,q23,hfs.len]
    rw [e38 _ (by omega)]
    simp only [EX,reduceIte,Nat.reduceEqDiff,Nat.reduceAdd,Int.reduceEq,Int.reduceLT,Int.reduceLE,reduceCtorEq,Nat.reduceLeDiff,Nat.reduceSub,Nat.reduceLT,hD,c3]
    rw [e6',eapp]
    simp only [EX,reduceIte,Nat.reduceEqDiff,Nat.reduceAdd,Int.reduceEq,Int.reduceLT,Int.reduceLE,reduceCtorEq,Nat.reduceLeDiff,Nat.reduceSub,Nat.reduceLT,c4,i_add,hw]
    exact hr' _ ⟨by simp only [V_S,Nat.reduceEqDiff,reduceIte]; exact c1,by simp only [V_S,Nat.reduceEqDiff,reduceIte],by simp only [V_S,Nat.reduceEqDiff,reduceIte]⟩
  ·have hpz : (0 : Int) < (l[i].ps.length : Int):=by
    have : 0 < l[i].ps.length:=List.length_pos_iff.mpr h
    omega
   simp only [EX,reduceIte,Nat.reduceEqDiff,Nat.reduceAdd,Int.reduceEq,Int.reduceLT,Int.reduceLE,reduceCtorEq,Nat.reduceLeDiff,Nat.reduceSub,Nat.reduceLT,f1,f4,l0,hx.len,hlt,eix,ld1]
   rw [e1']
   refine (est _ _).trans ?_
   simp only [EX,reduceIte,Nat.reduceEqDiff,Nat.reduceAdd,Int.reduceEq,Int.reduceLT,Int.reduceLE,reduceCtorEq,Nat.reduceLeDiff,Nat.reduceSub,Nat.reduceLT,q0,q1,hA,hps.strs.len,hpz,hB]
   rw [e36 h _ (by omega)]
   simp only [EX,reduceIte,Nat.reduceEqDiff,Nat.reduceAdd,Int.reduceEq,Int.reduceLT,Int.reduceLE,reduceCtorEq,Nat.reduceLeDiff,Nat.reduceSub,Nat.reduceLT,hB2,hC]
   refine el _ ?ff2 _ ?hm2 R _ _ ?ee2
   case ff2=>exact ⟨by simp only [V_S,Nat.reduceEqDiff,reduceIte]; exact f1,by simp only [V_S,Nat.reduceEqDiff,reduceIte]; exact f3,by simp only [V_S,Nat.reduceEqDiff,reduceIte]; exact f4,by simp only [V_S,Nat.reduceEqDiff,reduceIte],by simp only [V_S,Nat.reduceEqDiff,reduceIte]; unfold parT; rw [if_neg h]; simp only [List.append_assoc],by (simp only [V_S,Nat.reduceEqDiff,reduceIte]) <;> rfl⟩
   case hm2=>omega
   case ee2 =>
    rintro fr' ⟨c1,c3,c4,c5,c6,c7⟩
    simp only [EX,reduceIte,Nat.reduceEqDiff,Nat.reduceAdd,Int.reduceEq,Int.reduceLT,Int.reduceLE,reduceCtorEq,Nat.reduceLeDiff,Nat.reduceSub,Nat.reduceLT,c3,c5,c6,q23,hfs.len]
    rw [e38 _ (by omega)]
    simp only [EX,reduceIte,Nat.reduceEqDiff,Nat.reduceAdd,Int.reduceEq,Int.reduceLT,Int.reduceLE,reduceCtorEq,Nat.reduceLeDiff,Nat.reduceSub,Nat.reduceLT,hD,c3]
    rw [e6',eapp]
    simp only [EX,reduceIte,Nat.reduceEqDiff,Nat.reduceAdd,Int.reduceEq,Int.reduceLT,Int.reduceLE,reduceCtorEq,Nat.reduceLeDiff,Nat.reduceSub,Nat.reduceLT,c4,i_add,hw]
    exact hr' _ ⟨by simp only [V_S,Nat.reduceEqDiff,reduceIte]; exact c1,by simp only [V_S,Nat.reduceEqDiff,reduceIte],by simp only [V_S,Nat.reduceEqDiff,reduceIte]⟩
 obtain ⟨H',xo,P,e⟩:=G
 rw [List.take_length] at P
 exact ⟨H',xo,P,e⟩
def F14c (p : Pa) (i : Nat) (y : AV) (fr : Tr AV) : Prop:=V fr 1 = .p p 0∧V fr 3 = y∧V fr 8 = .i .i64 (i : Int)
theorem loop14c {Hb H0 : Heap} {p : Pa} {bs0 : List AV} {y0 x : AV} {ts : List (List UInt8)} (P0 : Txs Hb H0 y0 ts) (hts : ts.length≤20) {l : List Ac} (hx : Lst 3 AcP Any Hb x l) (h8 : l.length≤5) (hp : p.toN < Hb.next.toN) (hr : Row Hb p 44 bs0) (hb0 : bs0[1]? = some x) :
  ∃ H' xo,Txs Hb H' xo (ts ++ l.map Ac.tx)∧∀ fr,F14c p 0 y0 fr→∀ M,1000 + l.length≤M→∀ (R : Type) (k : XK R) (res : Option R),(∀ fr',F14c p l.length xo fr'→k (.exit 4) fr' H' = res)→runK tbl M R Lp14c fr H0 k = res:=by
 have G:=loop_cps (Lp:=Lp14c) (ex:=4) (n:=l.length) (c:=1000) (St:=AV) (fun i H y=>Txs Hb H y (ts ++ (l.take i).map Ac.tx)) (fun i y fr=>F14c p i y fr) ?hend ?hstep l.length 0 H0 y0 (by omega) (by rw [List.take_zero,List.map_nil,List.append_nil]; exact P0)
 case hend =>
  rintro H y P fr ⟨f1,f3,f8⟩ M hM R k res hr'
  obtain ⟨m,rfl⟩ : ∃ m,M = m + 100:=⟨M - 100,by omega⟩
  have l1:=(hr.grow P.g hp).l 1 hb0
  unfold Lp14c
  rw [run_loop]
  simp only [EX,reduceIte,Nat.reduceEqDiff,Nat.reduceAdd,Int.reduceEq,Int.reduceLT,Int.reduceLE,reduceCtorEq,Nat.reduceLeDiff,Nat.reduceSub,Nat.reduceLT,f1,f8,l1,hx.len,Int.lt_irrefl]
  exact hr' _ ⟨by simp only [V_S,Nat.reduceEqDiff,reduceIte]; exact f1,by simp only [V_S,Nat.reduceEqDiff,reduceIte]; exact f3,by simp only [V_S,Nat.reduceEqDiff,reduceIte]; exact f8⟩
 case hstep =>
  rintro i H y hi P
  have hil : l[i]? = some l[i]:=List.getElem?_eq_getElem hi
  obtain ⟨a,o,bs,hat,ha,eix,_,eld⟩:=(hx.grow acP P.g).at acP hil
  have hatl:=ac_le hat
  have hb3:=acP.len hat
  have hb1:=acP.ones hat
  have ld1 : ∀ (R : Type) (c : HK R),ldC true 3 (.p a o) c H = c (.ag bs) H:=by
   intro R c
   have:=eld H (Grow.refl _) 0 3 (by omega) R c
   rw [List.drop_zero,List.take_of_length_le (by omega)] at this
   exact this
  obtain ⟨H1,e1,g1,r1,n1⟩:=box1 81 H [str [],.ns,.ns]
  have e1' : H.alloc (.cells false 0 81 3 (setCells [str [],.ns,.ns] 0 .leaf)) = H1:=e1.symm
  obtain ⟨H2,r2,b2,n2,est⟩:=r1.st_all (n:=3) (ys:=bs) (by omega) hb3 rfl hb1
  have g2 : Grow H H2:=b2.of g1 (Nat.le_refl _)
  have n2' : H2.next.toN = H1.next.toN:=by rw [n2]
  obtain ⟨xp,xr,rfl,hnm,⟨hps,hp10,hp400⟩,⟨hrs,hr10,hr400⟩⟩:=hat
  have gb:=Grow.bump 1 H2
  have nb : (H2.bump 1).next.toN = H2.next.toN + 1:=next_bump
  have hsm : (3000 : Nat)≤sMax:=by decide
  obtain ⟨H4,g4,e35⟩:=s36 (H:=H2.bump 1) ⟨hps.mv (fun a h hb=>⟨trivial,(g2.trans gb).get a hb⟩) (g2.trans gb).next,hp10,hp400⟩
  have n4:=g4.next
  obtain ⟨H5,g5,e35r⟩:=s36 (H:=H4) ⟨hrs.mv (fun a h hb=>⟨trivial,(g2.trans (gb.trans g4)).get a hb⟩) (g2.trans (gb.trans g4)).next,hr10,hr400⟩
  have n5:=g5.next
  have l1:=(hr.grow P.g hp).l 1 hb0
  have q1b:=(r2.grow gb (by omega)).l 1 (v:=xp) rfl
  have q2b:=(r2.grow gb (by omega)).l 2 (v:=xr) rfl
  have q24:=(r2.grow (gb.trans g4) (by omega)).l 2 (v:=xr) rfl
  have q0b:=(r2.grow gb (by omega)).l 0 (v:=str l[i].nm) rfl
  have q04:=(r2.grow (gb.trans g4) (by omega)).l 0 (v:=str l[i].nm) rfl
  have q05:=(r2.grow (gb.trans (g4.trans g5)) (by omega)).l 0 (v:=str l[i].nm) rfl
  have axp : avEq xp xp = true:=av1_av hps.cell.1 hps.cell.2
  have axr : avEq xr xr = true:=av1_av hrs.cell.1 hrs.cell.2
  have hpl:=joinS_le l[i].ps
  have hrl:=joinS_le l[i].rs
  have hA:=s_ad (s:=[97,99,116,105,111,110,32]) (t:=l[i].nm) (by show 7 + _≤_; omega)
  have hB:=s_ad (s:=([97,99,116,105,111,110,32] : List UInt8) ++ l[i].nm) (t:=[58,32]) (by rw [List.length_append]; show 7 + _ + 2≤_; omega)
  have hC:=s_ad (s:=([97,99,116,105,111,110,32] : List UInt8) ++ l[i].nm ++ [58,32]) (t:=joinS l[i].ps) (by rw [List.length_append,List.length_append]; show 7 + _ + 2 + _≤_; omega)
  have hD:=s_ad (s:=([97,99,116,105,111,110,32] : List UInt8) ++ l[i].nm ++ [58,32] ++ joinS l[i].ps) (t:=[32,45,62,32]) (by rw [List.length_append,List.length_append,List.length_append]; show 7 + _ + 2 + _ + 4≤_; omega)
  have hE:=s_ad (s:=([97,99,116,105,111,110,32] : List UInt8) ++ l[i].nm ++ [58,32] ++ joinS l[i].ps ++ [32,45,62,32]) (t:=joinS l[i].rs) (by rw [List.length_append,List.length_append,List.length_append,List.length_append]; show 7 + _ + 2 + _ + 4 + _≤_; omega)
  have hF:=s_ad (s:=([97,99,116,105,111,110,32] : List UInt8) ++ l[i].nm ++ [58,32] ++ joinS l[i].ps ++ [32,45,62,32] ++ joinS l[i].rs) (t:=[59]) (by rw [List.length_append,List.length_append,List.length_append,List.length_append,List.length_append]; show 7 + _ + 2 + _ + 4 + _ + 1≤_; omega)
  obtain ⟨H6,e6⟩ : ∃ H6,H6 = H5.put H2.next (.cells false 0 9 1 (setCells [str l[i].tx] 0 .leaf)):=⟨_,rfl⟩
  have e6' : H5.put H2.next (.cells false 0 9 1 (setCells [str (([97,99,116,105,111,110,32] : List UInt8) ++ l[i].nm ++ [58,32] ++ joinS l[i].ps ++ [32,45,62,32] ++ joinS l[i].rs ++ [59])] 0 .leaf)) = H6:=e6.symm
  have g6 : Grow H2 H6:=by rw [e6]; exact (gb.trans (g4.trans g5)).put (Nat.le_refl _) (by omega) _
  have r6 : Row H6 H2.next 9 [str l[i].tx]:=by rw [e6]; exact ⟨_,get_put,fun j _=>cell_at [str l[i].tx] j⟩
  obtain ⟨H7,x7,P7,eapp⟩:=P.add (g2.trans g6) r6 (by rw [List.length_append,List.length_map,List.length_take]; omega)
  have hlt : (i : Int) < (l.length : Int):=by omega
  have hw:=inc_i (show i < 1000 by omega)
  refine ⟨H7,x7,by rw [List.take_add_one,hil,List.map_append,← List.append_assoc]; exact P7,?_⟩
  rintro fr ⟨f1,f3,f8⟩ M hM R k res hr'
  obtain ⟨m,rfl⟩ : ∃ m,M = m + 1000:=⟨M - 1000,by omega⟩
  unfold Lp14c
  rw [run_loop]
  simp only [EX,reduceIte,Nat.reduceEqDiff,Nat.reduceAdd,Int.reduceEq,Int.reduceLT,Int.reduceLE,reduceCtorEq,Nat.reduceLeDiff,Nat.reduceSub,Nat.reduceLT,f1,f3,f8,l1,hx.len,hlt,eix,ld1]
  rw [e1']
  refine (est _ _).trans ?_
  simp only [EX,reduceIte,Nat.reduceEqDiff,Nat.reduceAdd,Int.reduceEq,Int.reduceLT,Int.reduceLE,reduceCtorEq,Nat.reduceLeDiff,Nat.reduceSub,Nat.reduceLT,f3,q1b,axp]
  rw [e35 _ (by omega)]
  simp only [EX,reduceIte,Nat.reduceEqDiff,Nat.reduceAdd,Int.reduceEq,Int.reduceLT,Int.reduceLE,reduceCtorEq,Nat.reduceLeDiff,Nat.reduceSub,Nat.reduceLT,f3,q2b,q24,axr]
  rw [e35r _ (by omega)]
  simp only [EX,reduceIte,Nat.reduceEqDiff,Nat.reduceAdd,Int.reduceEq,Int.reduceLT,Int.reduceLE,reduceCtorEq,Nat.reduceLeDiff,Nat.reduceSub,Nat.reduceLT,f3,q0b,q04,q05,avEq_str,hA,hB,hC,hD,hE,hF]
  rw [e6',eapp]
  simp only [EX,reduceIte,Nat.reduceEqDiff,Nat.reduceAdd,Int.reduceEq,Int.reduceLT,Int.reduceLE,reduceCtorEq,Nat.reduceLeDiff,Nat.reduceSub,Nat.reduceLT,f8,i_add,hw]
  exact hr' _ ⟨by simp only [V_S,Nat.reduceEqDiff,reduceIte]; exact f1,by simp only [V_S,Nat.reduceEqDiff,reduceIte],by simp only [V_S,Nat.reduceEqDiff,reduceIte]⟩
 obtain ⟨H',xo,P,e⟩:=G
 rw [List.take_length] at P
 exact ⟨H',xo,P,e⟩
def F14d (x : AV) (i : Nat) (s : List UInt8) (fr : Tr AV) : Prop:=V fr 3 = x∧V fr 10 = str s∧V fr 11 = .i .i64 (i : Int)
theorem loop14d {H : Heap} {x : AV} {l : List (List UInt8)} (hx : Strs H x l) (h10 : l.length≤10) (h400 : sumL l≤20000) :
  ∀ fr,F14d x 0 [] fr→∀ M,200 + l.length≤M→∀ (R : Type) (k : XK R) (res : Option R),(∀ fr',F14d x l.length (joinL l) fr'→k (.exit 6) fr' H = res)→runK tbl M R Lp14d fr H k = res:=by
 have hsm : (50000 : Nat)≤sMax:=by decide
 have G:=loop_cps (Lp:=Lp14d) (ex:=6) (n:=l.length) (c:=200) (St:=Unit) (fun i G _=>G = H) (fun i _ fr=>F14d x i (joinL (l.take i)) fr) ?hend ?hstep l.length 0 H () (by omega) rfl
 case hend =>
  rintro G _ rfl fr ⟨f3,f10,f11⟩ M hM R k res hr'
  obtain ⟨m,rfl⟩ : ∃ m,M = m + 100:=⟨M - 100,by omega⟩
  unfold Lp14d
  rw [run_loop]
  simp only [EX,reduceIte,Nat.reduceEqDiff,Nat.reduceAdd,Int.reduceEq,Int.reduceLT,Int.reduceLE,reduceCtorEq,Nat.reduceLeDiff,Nat.reduceSub,Nat.reduceLT,f3,f11,hx.len,Int.lt_irrefl]
  exact hr' _ ⟨by simp only [V_S,Nat.reduceEqDiff,reduceIte]; exact f3,by simp only [V_S,Nat.reduceEqDiff,reduceIte]; exact f10,by simp only [V_S,Nat.reduceEqDiff,reduceIte]; exact f11⟩
 case hstep =>
  rintro i G _ hi rfl
  obtain ⟨a,o,eix,eld⟩:=hx.at hi
  have ld1:=eld G (Grow.refl _)
  have hlt : (i : Int) < (l.length : Int):=by omega
  have hw:=inc_i (show i < 1000 by omega)
  have hpl:=joinL_le (l.take i)
  have hst:=sum_take l i
  have htl : (l.take i).length≤10:=by rw [List.length_take]; omega
  have hli:=mem_len hi
  have es : joinL (l.take (i + 1)) = if i = 0 then l[i] else joinL (l.take i) ++ [10] ++ l[i]:=by
   rw [take_snoc hi,joinL_end]
   simp only [take_nil_iff hi]
  refine ⟨G,(),rfl,?_⟩
  rintro fr ⟨f3,f10,f11⟩ M hM R k res hr'
  obtain ⟨m,rfl⟩ : ∃ m,M = m + 200:=⟨M - 200,by omega⟩
  unfold Lp14d
  rw [run_loop]
  by_cases h0 : i = 0
  ·rw [if_pos h0] at es
   rw [es] at hr'
   subst h0
   have f10 : V fr 10 = str []:=f10
   have hA:=s_ad (s:=[]) (t:=l[0]) (by show 0 + _≤_; omega)
   have hlt : (0 : Int) < (l.length : Int):=hlt
   have eix : ∀ (R : Type) (k : HK R) (G : Heap),ixaC 1 x (.i .i64 0) k G = k (.p a o) G:=eix
   have f11 : V fr 11 = .i .i64 0:=f11
   have hw : IntKind.i64.wrap (0 + 1) = ((0 + 1 : Nat) : Int):=hw
   simp only [EX,reduceIte,Nat.reduceEqDiff,Nat.reduceAdd,Int.reduceEq,Int.reduceLT,Int.reduceLE,reduceCtorEq,Nat.reduceLeDiff,Nat.reduceSub,Nat.reduceLT,f3,f10,f11,hx.len,hlt,Int.lt_irrefl,eix,ld1,hA,i_add,hw]
   exact hr' _ ⟨by simp only [V_S,Nat.reduceEqDiff,reduceIte]; exact f3,by (simp only [V_S,Nat.reduceEqDiff,reduceIte]) <;> rfl,by simp only [V_S,Nat.reduceEqDiff,reduceIte]⟩
  ·have h0' : (0 : Int) < (i : Int):=by omega
   rw [if_neg h0] at es
   rw [es] at hr'
   have hA:=s_ad (s:=joinL (l.take i)) (t:=[10]) (by show _ + 1≤_; omega)
   have hB:=s_ad (s:=joinL (l.take i) ++ ([10] : List UInt8)) (t:=l[i]) (by rw [List.length_append]; show _ + 1 + _≤_; omega)
   simp only [EX,reduceIte,Nat.reduceEqDiff,Nat.reduceAdd,Int.reduceEq,Int.reduceLT,Int.reduceLE,reduceCtorEq,Nat.reduceLeDiff,Nat.reduceSub,Nat.reduceLT,f3,f10,f11,hx.len,hlt,h0',eix,ld1,hA,hB,i_add,hw]
   exact hr' _ ⟨by simp only [V_S,Nat.reduceEqDiff,reduceIte]; exact f3,by simp only [V_S,Nat.reduceEqDiff,reduceIte],by simp only [V_S,Nat.reduceEqDiff,reduceIte]⟩
 obtain ⟨H',_,rfl,e⟩:=G
 rw [List.take_length] at e
 exact e
/-- chancelref6.Schema -/
theorem s14 {S : Pa→Prop} {H : Heap} {bs : List AV} {s : Sc} (h : ScP S H bs s) : Tells 14 4000 [.ag bs] H (str s.tx):=by
 obtain ⟨xk,xa,rfl,hk,hk5,ha,ha5⟩:=h
 have hk:=hk.weak kiP (S':=Any) fun _ _ _=>trivial
 have ha:=ha.weak acP (S':=Any) fun _ _ _=>trivial
 obtain ⟨H1,e1,g1,r1,n1⟩:=box1 44 H [xk,xa]
 have e1' : H.alloc (.cells false 0 44 2 (setCells [xk,xa] 0 .leaf)) = H1:=e1.symm
 obtain ⟨H2,x2,P2,el2⟩:=loop14a (p:=H.next) (hk.grow kiP g1) hk5 (by omega) r1 rfl
 obtain ⟨H3,x3,P3,el3⟩:=loop14c (p:=H.next) P2 (by rw [List.length_map]; omega) (ha.grow acP g1) ha5 (by omega) r1 rfl
 have hsk:=sum_map (f:=Ki.tx) (l:=s.ks) (c:=900) fun r hr=>by obtain ⟨bs,hb⟩:=hk.all r hr; exact ki_le hb
 have hsa:=sum_map (f:=Ac.tx) (l:=s.as_) (c:=900) fun r hr=>by obtain ⟨bs,hb⟩:=ha.all r hr; exact ac_le hb
 have el4:=loop14d P3.strs (by rw [List.length_append,List.length_map,List.length_map]; omega) (by rw [sumL_app]; omega)
 have hll : (s.ks.map Ki.tx ++ s.as_.map Ac.tx).length≤10:=by rw [List.length_append,List.length_map,List.length_map]; omega
 refine ⟨H3,g1.trans P3.g,fun M hM R k=>?_⟩
 obtain ⟨m,rfl⟩ : ∃ m,M = m + 4000:=⟨M - 4000,by omega⟩
 rw [call_eq L14]
 unfold B14
 simp only [EX,reduceIte,Nat.reduceEqDiff,Nat.reduceAdd,Int.reduceEq,Int.reduceLT,Int.reduceLE,reduceCtorEq,Nat.reduceLeDiff,Nat.reduceSub,Nat.reduceLT]
 rw [e1']
 refine el2 _ ?ff _ ?hm R _ _ ?ee
 case ff=>exact ⟨by simp only [V_S,Nat.reduceEqDiff,reduceIte],by simp only [V_S,Nat.reduceEqDiff,reduceIte],by (simp only [V_S,Nat.reduceEqDiff,reduceIte]) <;> rfl⟩
 case hm=>omega
 case ee =>
  rintro fr' ⟨c1,c3,c4⟩
  simp only [EX,reduceIte,Nat.reduceEqDiff,Nat.reduceAdd,Int.reduceEq,Int.reduceLT,Int.reduceLE,reduceCtorEq,Nat.reduceLeDiff,Nat.reduceSub,Nat.reduceLT]
  refine el3 _ ?ff2 _ ?hm2 R _ _ ?ee2
  case ff2=>exact ⟨by simp only [V_S,Nat.reduceEqDiff,reduceIte]; exact c1,by simp only [V_S,Nat.reduceEqDiff,reduceIte]; exact c3,by (simp only [V_S,Nat.reduceEqDiff,reduceIte]) <;> rfl⟩
  case hm2=>omega
  case ee2 =>
   rintro fr2 ⟨d1,d3,d8⟩
   simp only [EX,reduceIte,Nat.reduceEqDiff,Nat.reduceAdd,Int.reduceEq,Int.reduceLT,Int.reduceLE,reduceCtorEq,Nat.reduceLeDiff,Nat.reduceSub,Nat.reduceLT]
   refine el4 _ ?ff3 _ ?hm3 R _ _ ?ee3
   case ff3=>exact ⟨by simp only [V_S,Nat.reduceEqDiff,reduceIte]; exact d3,by simp only [V_S,Nat.reduceEqDiff,reduceIte],by (simp only [V_S,Nat.reduceEqDiff,reduceIte]) <;> rfl⟩
   case hm3=>omega
   case ee3 =>
    rintro fr3 ⟨h3,h10,h11⟩
    simp only [EX,reduceIte,Nat.reduceEqDiff,Nat.reduceAdd,Int.reduceEq,Int.reduceLT,Int.reduceLE,reduceCtorEq,Nat.reduceLeDiff,Nat.reduceSub,Nat.reduceLT,h10]
    exact rfl
end Go.Proofs.YtmmmjhkgjmbfaaaDoor

/- A schema (chancellaw5.Schema): rows of names that grow. -/
namespace Go.Proofs.YtmmmjhkgjmbfaaaDoor
open Go Go.Vai
set_option maxRecDepth 100000
set_option maxHeartbeats 1600000
set_option linter.unusedSimpArgs false
theorem app_cap1 {R : Type} {k : HK R} {H : Heap} {b : Pa} {s0 s : List UInt8} (hr : Row H b 9 [str s0]) {y : AV} (hs : ∀ f : Nat→List AV→Option R,srcK 1 y H f = f 1 [str s]) :
  appendK 9 1 16 (.sl b 0 1 (some 1) 1) y H k = k (.sl H.next 0 2 none 1) (H.alloc (.cells false 0 9 2 (setCells [str s0,str s] 0 .leaf))):=by
 show srcK 1 y H (append2K 9 1 16 (.sl b 0 1 (some 1) 1) H k) = _
 rw [hs]
 show guardK (oneCs [str s]) (guardK (Nat.beq 1 1) (forceN (Nat.add 1 1) fun need=>appShut 9 1 16 1 1 0 need b [str s] H k 1)) = _
 rw [oneCs_all (by intro v hv; rw [List.mem_singleton.mp hv]; exact one_str),forceN_eq]
 show guardK (Nat.ble (Nat.mul 2 16) roomN) (rangeCK (Nat.mul 1 1) b 0 H fun xs=>newK 9 (xs ++ [str s]) H fun id H=>k (.sl id 0 2 none 1) H) = _
 have h3 : Nat.ble (Nat.mul 2 16) roomN = true:=Nat.ble_eq_true_of_le (by decide)
 rw [h3]
 show rangeCK (Nat.mul 1 1) b 0 H (fun xs=>newK 9 (xs ++ [str s]) H fun id H=>k (.sl id 0 2 none 1) H) = _
 rw [hr.cells (by show 0 + 1 * 1≤1; omega)]
 show newK 9 [str s0,str s] H _ = _
 unfold newK
 rw [setCellsK_eq,forceN_eq,Heap.allocK_eq,lenK_eq]
 rfl
/-- Names in a row that grows,of nothing or of one. -/
def Nms (Q : Pa→Prop) (Hm H : Heap) (x : AV) (l : List (List UInt8)) : Prop :=
 (∃ L,Acc Hm 9 1 TxP x l L H) ∨ ∃ b s,x = .sl b 0 1 (some 1) 1∧l = [s]∧Row H b 9 [str s]∧Q b∧b.toN < Hm.next.toN∧b.toN < H.next.toN
theorem Nms.cell {Q : Pa→Prop} {Hm H : Heap} {x : AV} {l : List (List UInt8)} (h : Nms Q Hm H x l) : oneC x = true∧avEq1 x x = true:=by
 obtain ⟨L,A⟩ | ⟨b,s,rfl,_⟩:=h
 ·obtain ⟨rfl,_⟩ | ⟨a,rfl,_⟩:=A.h
  ·exact ⟨rfl,av1_ns⟩
  ·exact ⟨one_sl,av1_sl⟩
 ·exact ⟨one_sl,av1_sl⟩
theorem Nms.grow {Q : Pa→Prop} {Hm H H' : Heap} {x : AV} {l : List (List UInt8)} (h : Nms Q Hm H x l) (g : Grow H H') : Nms Q Hm H' x l:=by
 obtain ⟨L,A⟩ | ⟨b,s,h1,h2,h3,h4,h5,h6⟩:=h
 ·exact Or.inl ⟨L,A.grow txP g⟩
 ·exact Or.inr ⟨b,s,h1,h2,h3.grow g h6,h4,h5,Nat.lt_of_lt_of_le h6 g.next⟩
theorem Nms.strs {Q : Pa→Prop} {Hm H : Heap} {x : AV} {l : List (List UInt8)} (h : Nms Q Hm H x l) : StrsP (fun a=>Hm.next.toN≤a.toN ∨ Q a) H x l:=by
 obtain ⟨L,A⟩ | ⟨b,s,rfl,rfl,h3,h4,h5,h6⟩:=h
 ·exact A.strs fun a h _=>Or.inl h
 ·exact Or.inr ⟨b,some 1,rfl,Or.inr rfl,Or.inr h4,h3,h6⟩
theorem Nms.boxed {Q : Pa→Prop} {Hm H : Heap} {x : AV} {l : List (List UInt8)} (N : Nms Q Hm H x l) (hn : Hm.next.toN≤H.next.toN) {e : Pa} {te f : Nat} {cs : List AV} (re : Row H e te cs) (hem : e.toN < Hm.next.toN) (hQ : ¬ Q e) (hf : f < cs.length) {s : List UInt8} (hl : l.length≤50) {q : Pa} (hq : Row H q 9 [str s]) :
  ∃ x' H4 H5,Nms Q Hm H5 x' (l ++ [s])∧Row H5 e te (cs.set f x')∧KeepBut e Hm.next.toN H H5 ∧
   (∀ (R : Type) (k : HK R),appendK 9 1 16 x (.sl q 0 1 (some 1) 1) H k = k x' H4)∧∀ (R : Type) (k : HK R),stC 1 (.p e f) x' k H4 = k un H5:=by
 obtain ⟨L,A⟩ | ⟨b,s0,rfl,rfl,h3,h4,h5,h6⟩:=N
 ·have room : (51 * 16 : Nat)≤roomN:=by decide
  obtain ⟨H4,H5,A5,re5,K5,_,eapp,est⟩:=A.boxed txP (by decide) re hem hf (ys:=[str s]) (r:=s) rfl (bytes:=16) (by omega)
  exact ⟨_,H4,H5,Or.inl ⟨_,A5⟩,re5,K5,fun R k=>eapp R k _ fun f=>src_all (n:=0 + 1) hq rfl f,est⟩
 ·obtain ⟨H4,e4⟩ : ∃ H4,H4 = H.alloc (.cells false 0 9 2 (setCells [str s0,str s] 0 .leaf)):=⟨_,rfl⟩
  have g4 : Grow H H4:=by rw [e4]; exact Grow.alloc H _
  have n4 : H4.next.toN = H.next.toN + 1:=by rw [e4]; exact next_alloc H _
  have r4 : Row H4 H.next 9 [str s0,str s]:=by rw [e4]; exact Row.new H 9 [str s0,str s]
  obtain ⟨H5,re5,b5,n5,est⟩:=(re.grow g4 (by omega)).st_one (off:=f) (v:=.sl H.next 0 2 none 1) (by omega) hf one_sl
  have n5' : H5.next.toN = H4.next.toN:=by rw [n5]
  refine ⟨.sl H.next 0 2 none 1,H4,H5,Or.inl ⟨[str s0,str s],Or.inr ⟨H.next,rfl,rfl,r4.but b5 (by omega) (toN_ne (by omega)),hn,by omega⟩,by omega,?_⟩,re5,⟨by omega,fun a ha hb hne=>?_,fun fd=>b5.dead (g4.dead fd)⟩,fun R k=>?_,est⟩
  ·intro j r hj
   match j,hj with
   | 0,hj=>cases hj; rfl
   | 1,hj=>cases hj; rfl
   | j + 2,hj=>cases hj
  ·rw [b5.get a (by omega) hne,g4.get a hb]
  ·rw [e4]
   exact app_cap1 h3 fun f=>src_all (n:=0 + 1) hq rfl f
theorem Nms.init (Q : Pa→Prop) (H : Heap) : Nms Q H H .ns []:=Or.inl ⟨[],Acc.init (Nat.le_refl _)⟩
theorem set_same {α : Type} : ∀ {l : List α} {i : Nat} {x : α},l[i]? = some x→l.set i x = l
 | [],_,_,h=>by cases h
 | a :: l,0,x,h=>by cases h; rfl
 | a :: l,i + 1,x,h=>by
  show a :: l.set i x = a :: l
  rw [set_same (l:=l) h]
def F11p (x0 x1 : AV) (e4 e5 : Pa) (ii : Nat) (e : Pa) (i : Nat) (fr : Tr AV) : Prop:=V fr 0 = x0∧V fr 1 = x1∧V fr 4 = .p e4 0∧V fr 5 = .p e5 0∧V fr 6 = .i .i64 (ii : Int)∧V fr 7 = .p e 0∧V fr 8 = .i .i64 (i : Int)
theorem loop11p {H00 Hm : Heap} (g00 : Grow H00 Hm) {Q : Pa→Prop} {x0 x1 : AV} {e4 e5 : Pa} {ii : Nat} {a : Pa} {o : Nat} {xp : AV} {lp : List Int} (eix : ∀ (R : Type) (k : HK R) (G : Heap),ixaC 3 x0 (.i .i64 (ii : Int)) k G = k (.p a o) G)
  (eld : ∀ G,Grow H00 G→∀ (R : Type) (k : HK R),ldC false 1 (.p a (o + 1)) k G = k xp G) (hI : Ints H00 xp lp) {e : Pa} (he : H00.next.toN≤e.toN) (he2 : e.toN < Hm.next.toN) (hQ : ¬ Q e) {cs : List AV} (hcs : cs.length = 3) {x : AV} {l : List (List UInt8)} (hl : l.length≤1) (N : Nms Q Hm Hm x l) (hr : Row Hm e 71 cs) (hx : cs[1]? = some x) :
  ∃ H' x',Nms Q Hm H' x' (l ++ (lp.take (min lp.length 3)).map kdn)∧Row H' e 71 (cs.set 1 x')∧KeepBut e Hm.next.toN Hm H'∧∀ fr,F11p x0 x1 e4 e5 ii e 0 fr→∀ M,300 + min lp.length 3≤M→∀ (R : Type) (k : XK R) (res : Option R),(∀ fr',F11p x0 x1 e4 e5 ii e (min lp.length 3) fr'→k (.exit 2) fr' H' = res)→runK tbl M R Lp11p fr Hm k = res:=by
 have axp : avEq xp xp = true:=av1_av hI.cell.1 hI.cell.2
 have G:=loop_cps (Lp:=Lp11p) (ex:=2) (n:=min lp.length 3) (c:=300) (St:=AV) (fun i H x'=>Nms Q Hm H x' (l ++ (lp.take i).map kdn)∧Row H e 71 (cs.set 1 x')∧KeepBut e Hm.next.toN Hm H) (fun i _ fr=>F11p x0 x1 e4 e5 ii e i fr) ?hend ?hstep (min lp.length 3) 0 Hm x (by omega) ⟨by rw [List.take_zero,List.map_nil,List.append_nil]; exact N,by rw [set_same hx]; exact hr,KeepBut.refl _ _ _⟩
 case hend =>
  rintro H x' ⟨N,hr,K⟩ fr ⟨f0,f1,f4,f5,f6,f7,f8⟩ M hM R k res hr'
  obtain ⟨m,rfl⟩ : ∃ m,M = m + 100:=⟨M - 100,by omega⟩
  have g0:=K.of g00 g00.next he
  have ld1:=eld H g0
  unfold Lp11p
  rw [run_loop]
  by_cases h : lp.length≤3
  ·have hn : ¬ ((min lp.length 3 : Nat) : Int) < (lp.length : Int):=by omega
   simp only [EX,reduceIte,Nat.reduceEqDiff,Nat.reduceAdd,Int.reduceEq,Int.reduceLT,Int.reduceLE,reduceCtorEq,Nat.reduceLeDiff,Nat.reduceSub,Nat.reduceLT,f0,f6,f8,eix,ld1,hI.len,hn]
   exact hr' _ ⟨by simp only [V_S,Nat.reduceEqDiff,reduceIte]; exact f0,by simp only [V_S,Nat.reduceEqDiff,reduceIte]; exact f1,by simp only [V_S,Nat.reduceEqDiff,reduceIte]; exact f4,by simp only [V_S,Nat.reduceEqDiff,reduceIte]; exact f5,by simp only [V_S,Nat.reduceEqDiff,reduceIte]; exact f6,by simp only [V_S,Nat.reduceEqDiff,reduceIte]; exact f7,by simp only [V_S,Nat.reduceEqDiff,reduceIte]; exact f8⟩
  ·have hn : ((min lp.length 3 : Nat) : Int) < (lp.length : Int):=by omega
   have hn2 : ¬ ((min lp.length 3 : Nat) : Int) < 3:=by omega
   simp only [EX,reduceIte,Nat.reduceEqDiff,Nat.reduceAdd,Int.reduceEq,Int.reduceLT,Int.reduceLE,reduceCtorEq,Nat.reduceLeDiff,Nat.reduceSub,Nat.reduceLT,f0,f6,f8,eix,ld1,hI.len,hn,hn2]
   exact hr' _ ⟨by simp only [V_S,Nat.reduceEqDiff,reduceIte]; exact f0,by simp only [V_S,Nat.reduceEqDiff,reduceIte]; exact f1,by simp only [V_S,Nat.reduceEqDiff,reduceIte]; exact f4,by simp only [V_S,Nat.reduceEqDiff,reduceIte]; exact f5,by simp only [V_S,Nat.reduceEqDiff,reduceIte]; exact f6,by simp only [V_S,Nat.reduceEqDiff,reduceIte]; exact f7,by simp only [V_S,Nat.reduceEqDiff,reduceIte]; exact f8⟩
 case hstep =>
  rintro i H x' hi ⟨N,hr,K⟩
  have g0:=K.of g00 g00.next he
  have hKn:=K.next
  obtain ⟨a2,o2,eix2,eld2⟩:=ints_at hI (show i < lp.length by omega)
  have gb:=Grow.bump 1 H
  have nb : (H.bump 1).next.toN = H.next.toN + 1:=next_bump
  obtain ⟨H1,g1,e30⟩:=s30 lp[i] (H.bump 1)
  have n1:=g1.next
  obtain ⟨H2,e2⟩ : ∃ H2,H2 = H1.put H.next (.cells false 0 9 1 (setCells [str (kdn lp[i])] 0 .leaf)):=⟨_,rfl⟩
  have g2 : Grow H H2:=by rw [e2]; exact (gb.trans g1).put (Nat.le_refl _) (by omega) _
  have r2 : Row H2 H.next 9 [str (kdn lp[i])]:=by rw [e2]; exact ⟨_,get_put,fun j _=>cell_at [str (kdn lp[i])] j⟩
  have n2:=g2.next
  have hcl : (cs.set 1 x').length = 3:=by rw [List.length_set,hcs]
  obtain ⟨x2,H4,H5,N5,r5,K5,eapp,est⟩:=(N.grow g2).boxed (by omega) (hr.grow g2 (by omega)) he2 hQ (f:=1) (by rw [hcl]; decide) (s:=kdn lp[i]) (by rw [List.length_append,List.length_map,List.length_take]; omega) r2
  have ld0:=eld H g0
  have ldb:=eld _ (g0.trans gb)
  have ldb2:=eld2 _ (g0.trans gb)
  have hgx : (cs.set 1 x')[1]? = some x':=by rw [List.getElem?_set_self (by rw [hcs]; decide)]
  have mb:=(hr.grow gb (by omega)).l 1 hgx
  have m1:=(hr.grow (gb.trans g1) (by omega)).l 1 hgx
  have axx : avEq x' x' = true:=av1_av N.cell.1 N.cell.2
  have hlt : (i : Int) < (lp.length : Int):=by omega
  have hlt3 : (i : Int) < 3:=by omega
  have hw:=inc_i (show i < 1000 by omega)
  refine ⟨H5,x2,⟨?_,?_,?_⟩,?_⟩
  ·rw [take_snoc (show i < lp.length by omega),List.map_append,← List.append_assoc]; exact N5
  ·rw [List.set_set] at r5; exact r5
  ·exact (K.trans (Grow.kb g2 e Hm.next.toN)).trans K5
  ·rintro fr ⟨f0,f1,f4,f5,f6,f7,f8⟩ M hM R k res hr'
   obtain ⟨m,rfl⟩ : ∃ m,M = m + 300:=⟨M - 300,by omega⟩
   unfold Lp11p
   rw [run_loop]
   simp only [EX,reduceIte,Nat.reduceEqDiff,Nat.reduceAdd,Int.reduceEq,Int.reduceLT,Int.reduceLE,reduceCtorEq,Nat.reduceLeDiff,Nat.reduceSub,Nat.reduceLT,f0,f6,f8,eix,ld0,hI.len,hlt,hlt3,ldb,axp,eix2,ldb2,avEq_i]
   rw [e30 _ (by omega)]
   simp only [EX,reduceIte,Nat.reduceEqDiff,Nat.reduceAdd,Int.reduceEq,Int.reduceLT,Int.reduceLE,reduceCtorEq,Nat.reduceLeDiff,Nat.reduceSub,Nat.reduceLT,f7,mb,m1,axx]
   rw [← e2,eapp]
   simp only [EX,reduceIte,Nat.reduceEqDiff,Nat.reduceAdd,Int.reduceEq,Int.reduceLT,Int.reduceLE,reduceCtorEq,Nat.reduceLeDiff,Nat.reduceSub,Nat.reduceLT,f7]
   rw [est]
   simp only [EX,reduceIte,Nat.reduceEqDiff,Nat.reduceAdd,Int.reduceEq,Int.reduceLT,Int.reduceLE,reduceCtorEq,Nat.reduceLeDiff,Nat.reduceSub,Nat.reduceLT,f8,i_add,hw]
   exact hr' _ ⟨by simp only [V_S,Nat.reduceEqDiff,reduceIte]; exact f0,by simp only [V_S,Nat.reduceEqDiff,reduceIte]; exact f1,by simp only [V_S,Nat.reduceEqDiff,reduceIte]; exact f4,by simp only [V_S,Nat.reduceEqDiff,reduceIte]; exact f5,by simp only [V_S,Nat.reduceEqDiff,reduceIte]; exact f6,by simp only [V_S,Nat.reduceEqDiff,reduceIte]; exact f7,by simp only [V_S,Nat.reduceEqDiff,reduceIte]⟩
 obtain ⟨H',x',⟨N,hr,K⟩,e⟩:=G
 exact ⟨H',x',N,hr,K,e⟩
def F11q (x0 x1 : AV) (e4 e5 : Pa) (ii : Nat) (e : Pa) (i : Nat) (fr : Tr AV) : Prop:=V fr 0 = x0∧V fr 1 = x1∧V fr 4 = .p e4 0∧V fr 5 = .p e5 0∧V fr 12 = .i .i64 (ii : Int)∧V fr 13 = .p e 0∧V fr 14 = .i .i64 (i : Int)
theorem loop11q {H00 Hm : Heap} (g00 : Grow H00 Hm) {Q : Pa→Prop} {x0 x1 : AV} {e4 e5 : Pa} {ii : Nat} {a : Pa} {o : Nat} {xp : AV} {lp : List Int} (eix : ∀ (R : Type) (k : HK R) (G : Heap),ixaC 3 x1 (.i .i64 (ii : Int)) k G = k (.p a o) G)
  (eld : ∀ G,Grow H00 G→∀ (R : Type) (k : HK R),ldC false 1 (.p a (o + 1)) k G = k xp G) (hI : Ints H00 xp lp) {e : Pa} (he : H00.next.toN≤e.toN) (he2 : e.toN < Hm.next.toN) (hQ : ¬ Q e) {cs : List AV} (hcs : cs.length = 3) {x : AV} {l : List (List UInt8)} (hl : l.length≤1) (N : Nms Q Hm Hm x l) (hr : Row Hm e 81 cs) (hx : cs[1]? = some x) :
  ∃ H' x',Nms Q Hm H' x' (l ++ (lp.take (min lp.length 3)).map kdn)∧Row H' e 81 (cs.set 1 x')∧KeepBut e Hm.next.toN Hm H'∧∀ fr,F11q x0 x1 e4 e5 ii e 0 fr→∀ M,300 + min lp.length 3≤M→∀ (R : Type) (k : XK R) (res : Option R),(∀ fr',F11q x0 x1 e4 e5 ii e (min lp.length 3) fr'→k (.exit 8) fr' H' = res)→runK tbl M R Lp11q fr Hm k = res:=by
 have axp : avEq xp xp = true:=av1_av hI.cell.1 hI.cell.2
 have G:=loop_cps (Lp:=Lp11q) (ex:=8) (n:=min lp.length 3) (c:=300) (St:=AV) (fun i H x'=>Nms Q Hm H x' (l ++ (lp.take i).map kdn)∧Row H e 81 (cs.set 1 x')∧KeepBut e Hm.next.toN Hm H) (fun i _ fr=>F11q x0 x1 e4 e5 ii e i fr) ?hend ?hstep (min lp.length 3) 0 Hm x (by omega) ⟨by rw [List.take_zero,List.map_nil,List.append_nil]; exact N,by rw [set_same hx]; exact hr,KeepBut.refl _ _ _⟩
 case hend =>
  rintro H x' ⟨N,hr,K⟩ fr ⟨f0,f1,f4,f5,f12,f13,f14⟩ M hM R k res hr'
  obtain ⟨m,rfl⟩ : ∃ m,M = m + 100:=⟨M - 100,by omega⟩
  have g0:=K.of g00 g00.next he
  have ld1:=eld H g0
  unfold Lp11q
  rw [run_loop]
  by_cases h : lp.length≤3
  ·have hn : ¬ ((min lp.length 3 : Nat) : Int) < (lp.length : Int):=by omega
   simp only [EX,reduceIte,Nat.reduceEqDiff,Nat.reduceAdd,Int.reduceEq,Int.reduceLT,Int.reduceLE,reduceCtorEq,Nat.reduceLeDiff,Nat.reduceSub,Nat.reduceLT,f1,f12,f14,eix,ld1,hI.len,hn]
   exact hr' _ ⟨by simp only [V_S,Nat.reduceEqDiff,reduceIte]; exact f0,by simp only [V_S,Nat.reduceEqDiff,reduceIte]; exact f1,by simp only [V_S,Nat.reduceEqDiff,reduceIte]; exact f4,by simp only [V_S,Nat.reduceEqDiff,reduceIte]; exact f5,by simp only [V_S,Nat.reduceEqDiff,reduceIte]; exact f12,by simp only [V_S,Nat.reduceEqDiff,reduceIte]; exact f13,by simp only [V_S,Nat.reduceEqDiff,reduceIte]; exact f14⟩
  ·have hn : ((min lp.length 3 : Nat) : Int) < (lp.length : Int):=by omega
   have hn2 : ¬ ((min lp.length 3 : Nat) : Int) < 3:=by omega
   simp only [EX,reduceIte,Nat.reduceEqDiff,Nat.reduceAdd,Int.reduceEq,Int.reduceLT,Int.reduceLE,reduceCtorEq,Nat.reduceLeDiff,Nat.reduceSub,Nat.reduceLT,f1,f12,f14,eix,ld1,hI.len,hn,hn2]
   exact hr' _ ⟨by simp only [V_S,Nat.reduceEqDiff,reduceIte]; exact f0,by simp only [V_S,Nat.reduceEqDiff,reduceIte]; exact f1,by simp only [V_S,Nat.reduceEqDiff,reduceIte]; exact f4,by simp only [V_S,Nat.reduceEqDiff,reduceIte]; exact f5,by simp only [V_S,Nat.reduceEqDiff,reduceIte]; exact f12,by simp only [V_S,Nat.reduceEqDiff,reduceIte]; exact f13,by simp only [V_S,Nat.reduceEqDiff,reduceIte]; exact f14⟩
 case hstep =>
  rintro i H x' hi ⟨N,hr,K⟩
  have g0:=K.of g00 g00.next he
  have hKn:=K.next
  obtain ⟨a2,o2,eix2,eld2⟩:=ints_at hI (show i < lp.length by omega)
  have gb:=Grow.bump 1 H
  have nb : (H.bump 1).next.toN = H.next.toN + 1:=next_bump
  obtain ⟨H1,g1,e30⟩:=s30 lp[i] (H.bump 1)
  have n1:=g1.next
  obtain ⟨H2,e2⟩ : ∃ H2,H2 = H1.put H.next (.cells false 0 9 1 (setCells [str (kdn lp[i])] 0 .leaf)):=⟨_,rfl⟩
  have g2 : Grow H H2:=by rw [e2]; exact (gb.trans g1).put (Nat.le_refl _) (by omega) _
  have r2 : Row H2 H.next 9 [str (kdn lp[i])]:=by rw [e2]; exact ⟨_,get_put,fun j _=>cell_at [str (kdn lp[i])] j⟩
  have n2:=g2.next
  have hcl : (cs.set 1 x').length = 3:=by rw [List.length_set,hcs]
  obtain ⟨x2,H4,H5,N5,r5,K5,eapp,est⟩:=(N.grow g2).boxed (by omega) (hr.grow g2 (by omega)) he2 hQ (f:=1) (by rw [hcl]; decide) (s:=kdn lp[i]) (by rw [List.length_append,List.length_map,List.length_take]; omega) r2
  have ld0:=eld H g0
  have ldb:=eld _ (g0.trans gb)
  have ldb2:=eld2 _ (g0.trans gb)
  have hgx : (cs.set 1 x')[1]? = some x':=by rw [List.getElem?_set_self (by rw [hcs]; decide)]
  have mb:=(hr.grow gb (by omega)).l 1 hgx
  have m1:=(hr.grow (gb.trans g1) (by omega)).l 1 hgx
  have axx : avEq x' x' = true:=av1_av N.cell.1 N.cell.2
  have hlt : (i : Int) < (lp.length : Int):=by omega
  have hlt3 : (i : Int) < 3:=by omega
  have hw:=inc_i (show i < 1000 by omega)
  refine ⟨H5,x2,⟨?_,?_,?_⟩,?_⟩
  ·rw [take_snoc (show i < lp.length by omega),List.map_append,← List.append_assoc]; exact N5
  ·rw [List.set_set] at r5; exact r5
  ·exact (K.trans (Grow.kb g2 e Hm.next.toN)).trans K5
  ·rintro fr ⟨f0,f1,f4,f5,f12,f13,f14⟩ M hM R k res hr'
   obtain ⟨m,rfl⟩ : ∃ m,M = m + 300:=⟨M - 300,by omega⟩
   unfold Lp11q
   rw [run_loop]
   simp only [EX,reduceIte,Nat.reduceEqDiff,Nat.reduceAdd,Int.reduceEq,Int.reduceLT,Int.reduceLE,reduceCtorEq,Nat.reduceLeDiff,Nat.reduceSub,Nat.reduceLT,f1,f12,f14,eix,ld0,hI.len,hlt,hlt3,ldb,axp,eix2,ldb2,avEq_i]
   rw [e30 _ (by omega)]
   simp only [EX,reduceIte,Nat.reduceEqDiff,Nat.reduceAdd,Int.reduceEq,Int.reduceLT,Int.reduceLE,reduceCtorEq,Nat.reduceLeDiff,Nat.reduceSub,Nat.reduceLT,f13,mb,m1,axx]
   rw [← e2,eapp]
   simp only [EX,reduceIte,Nat.reduceEqDiff,Nat.reduceAdd,Int.reduceEq,Int.reduceLT,Int.reduceLE,reduceCtorEq,Nat.reduceLeDiff,Nat.reduceSub,Nat.reduceLT,f13]
   rw [est]
   simp only [EX,reduceIte,Nat.reduceEqDiff,Nat.reduceAdd,Int.reduceEq,Int.reduceLT,Int.reduceLE,reduceCtorEq,Nat.reduceLeDiff,Nat.reduceSub,Nat.reduceLT,f14,i_add,hw]
   exact hr' _ ⟨by simp only [V_S,Nat.reduceEqDiff,reduceIte]; exact f0,by simp only [V_S,Nat.reduceEqDiff,reduceIte]; exact f1,by simp only [V_S,Nat.reduceEqDiff,reduceIte]; exact f4,by simp only [V_S,Nat.reduceEqDiff,reduceIte]; exact f5,by simp only [V_S,Nat.reduceEqDiff,reduceIte]; exact f12,by simp only [V_S,Nat.reduceEqDiff,reduceIte]; exact f13,by simp only [V_S,Nat.reduceEqDiff,reduceIte]⟩
 obtain ⟨H',x',⟨N,hr,K⟩,e⟩:=G
 exact ⟨H',x',N,hr,K,e⟩
def F11r (x0 x1 : AV) (e4 e5 : Pa) (ii : Nat) (e : Pa) (i : Nat) (fr : Tr AV) : Prop:=V fr 0 = x0∧V fr 1 = x1∧V fr 4 = .p e4 0∧V fr 5 = .p e5 0∧V fr 12 = .i .i64 (ii : Int)∧V fr 13 = .p e 0∧V fr 15 = .i .i64 (i : Int)
theorem loop11r {H00 Hm : Heap} (g00 : Grow H00 Hm) {Q : Pa→Prop} {x0 x1 : AV} {e4 e5 : Pa} {ii : Nat} {a : Pa} {o : Nat} {xp : AV} {lp : List Int} (eix : ∀ (R : Type) (k : HK R) (G : Heap),ixaC 3 x1 (.i .i64 (ii : Int)) k G = k (.p a o) G)
  (eld : ∀ G,Grow H00 G→∀ (R : Type) (k : HK R),ldC false 1 (.p a (o + 2)) k G = k xp G) (hI : Ints H00 xp lp) {e : Pa} (he : H00.next.toN≤e.toN) (he2 : e.toN < Hm.next.toN) (hQ : ¬ Q e) {cs : List AV} (hcs : cs.length = 3) {x : AV} {l : List (List UInt8)} (hl : l.length≤1) (N : Nms Q Hm Hm x l) (hr : Row Hm e 81 cs) (hx : cs[2]? = some x) :
  ∃ H' x',Nms Q Hm H' x' (l ++ (lp.take (min lp.length 3)).map kdn)∧Row H' e 81 (cs.set 2 x')∧KeepBut e Hm.next.toN Hm H'∧∀ fr,F11r x0 x1 e4 e5 ii e 0 fr→∀ M,300 + min lp.length 3≤M→∀ (R : Type) (k : XK R) (res : Option R),(∀ fr',F11r x0 x1 e4 e5 ii e (min lp.length 3) fr'→k (.exit 10) fr' H' = res)→runK tbl M R Lp11r fr Hm k = res:=by
 have axp : avEq xp xp = true:=av1_av hI.cell.1 hI.cell.2
 have G:=loop_cps (Lp:=Lp11r) (ex:=10) (n:=min lp.length 3) (c:=300) (St:=AV) (fun i H x'=>Nms Q Hm H x' (l ++ (lp.take i).map kdn)∧Row H e 81 (cs.set 2 x')∧KeepBut e Hm.next.toN Hm H) (fun i _ fr=>F11r x0 x1 e4 e5 ii e i fr) ?hend ?hstep (min lp.length 3) 0 Hm x (by omega) ⟨by rw [List.take_zero,List.map_nil,List.append_nil]; exact N,by rw [set_same hx]; exact hr,KeepBut.refl _ _ _⟩
 case hend =>
  rintro H x' ⟨N,hr,K⟩ fr ⟨f0,f1,f4,f5,f12,f13,f15⟩ M hM R k res hr'
  obtain ⟨m,rfl⟩ : ∃ m,M = m + 100:=⟨M - 100,by omega⟩
  have g0:=K.of g00 g00.next he
  have ld1:=eld H g0
  unfold Lp11r
  rw [run_loop]
  by_cases h : lp.length≤3
  ·have hn : ¬ ((min lp.length 3 : Nat) : Int) < (lp.length : Int):=by omega
   simp only [EX,reduceIte,Nat.reduceEqDiff,Nat.reduceAdd,Int.reduceEq,Int.reduceLT,Int.reduceLE,reduceCtorEq,Nat.reduceLeDiff,Nat.reduceSub,Nat.reduceLT,f1,f12,f15,eix,ld1,hI.len,hn]
   exact hr' _ ⟨by simp only [V_S,Nat.reduceEqDiff,reduceIte]; exact f0,by simp only [V_S,Nat.reduceEqDiff,reduceIte]; exact f1,by simp only [V_S,Nat.reduceEqDiff,reduceIte]; exact f4,by simp only [V_S,Nat.reduceEqDiff,reduceIte]; exact f5,by simp only [V_S,Nat.reduceEqDiff,reduceIte]; exact f12,by simp only [V_S,Nat.reduceEqDiff,reduceIte]; exact f13,by simp only [V_S,Nat.reduceEqDiff,reduceIte]; exact f15⟩
  ·have hn : ((min lp.length 3 : Nat) : Int) < (lp.length : Int):=by omega
   have hn2 : ¬ ((min lp.length 3 : Nat) : Int) < 3:=by omega
   simp only [EX,reduceIte,Nat.reduceEqDiff,Nat.reduceAdd,Int.reduceEq,Int.reduceLT,Int.reduceLE,reduceCtorEq,Nat.reduceLeDiff,Nat.reduceSub,Nat.reduceLT,f1,f12,f15,eix,ld1,hI.len,hn,hn2]
   exact hr' _ ⟨by simp only [V_S,Nat.reduceEqDiff,reduceIte]; exact f0,by simp only [V_S,Nat.reduceEqDiff,reduceIte]; exact f1,by simp only [V_S,Nat.reduceEqDiff,reduceIte]; exact f4,by simp only [V_S,Nat.reduceEqDiff,reduceIte]; exact f5,by simp only [V_S,Nat.reduceEqDiff,reduceIte]; exact f12,by simp only [V_S,Nat.reduceEqDiff,reduceIte]; exact f13,by simp only [V_S,Nat.reduceEqDiff,reduceIte]; exact f15⟩
 case hstep =>
  rintro i H x' hi ⟨N,hr,K⟩
  have g0:=K.of g00 g00.next he
  have hKn:=K.next
  obtain ⟨a2,o2,eix2,eld2⟩:=ints_at hI (show i < lp.length by omega)
  have gb:=Grow.bump 1 H
  have nb : (H.bump 1).next.toN = H.next.toN + 1:=next_bump
  obtain ⟨H1,g1,e30⟩:=s30 lp[i] (H.bump 1)
  have n1:=g1.next
  obtain ⟨H2,e2⟩ : ∃ H2,H2 = H1.put H.next (.cells false 0 9 1 (setCells [str (kdn lp[i])] 0 .leaf)):=⟨_,rfl⟩
  have g2 : Grow H H2:=by rw [e2]; exact (gb.trans g1).put (Nat.le_refl _) (by omega) _
  have r2 : Row H2 H.next 9 [str (kdn lp[i])]:=by rw [e2]; exact ⟨_,get_put,fun j _=>cell_at [str (kdn lp[i])] j⟩
  have n2:=g2.next
  have hcl : (cs.set 2 x').length = 3:=by rw [List.length_set,hcs]
  obtain ⟨x2,H4,H5,N5,r5,K5,eapp,est⟩:=(N.grow g2).boxed (by omega) (hr.grow g2 (by omega)) he2 hQ (f:=2) (by rw [hcl]; decide) (s:=kdn lp[i]) (by rw [List.length_append,List.length_map,List.length_take]; omega) r2
  have ld0:=eld H g0
  have ldb:=eld _ (g0.trans gb)
  have ldb2:=eld2 _ (g0.trans gb)
  have hgx : (cs.set 2 x')[2]? = some x':=by rw [List.getElem?_set_self (by rw [hcs]; decide)]
  have mb:=(hr.grow gb (by omega)).l 2 hgx
  have m1:=(hr.grow (gb.trans g1) (by omega)).l 2 hgx
  have axx : avEq x' x' = true:=av1_av N.cell.1 N.cell.2
  have hlt : (i : Int) < (lp.length : Int):=by omega
  have hlt3 : (i : Int) < 3:=by omega
  have hw:=inc_i (show i < 1000 by omega)
  refine ⟨H5,x2,⟨?_,?_,?_⟩,?_⟩
  ·rw [take_snoc (show i < lp.length by omega),List.map_append,← List.append_assoc]; exact N5
  ·rw [List.set_set] at r5; exact r5
  ·exact (K.trans (Grow.kb g2 e Hm.next.toN)).trans K5
  ·rintro fr ⟨f0,f1,f4,f5,f12,f13,f15⟩ M hM R k res hr'
   obtain ⟨m,rfl⟩ : ∃ m,M = m + 300:=⟨M - 300,by omega⟩
   unfold Lp11r
   rw [run_loop]
   simp only [EX,reduceIte,Nat.reduceEqDiff,Nat.reduceAdd,Int.reduceEq,Int.reduceLT,Int.reduceLE,reduceCtorEq,Nat.reduceLeDiff,Nat.reduceSub,Nat.reduceLT,f1,f12,f15,eix,ld0,hI.len,hlt,hlt3,ldb,axp,eix2,ldb2,avEq_i]
   rw [e30 _ (by omega)]
   simp only [EX,reduceIte,Nat.reduceEqDiff,Nat.reduceAdd,Int.reduceEq,Int.reduceLT,Int.reduceLE,reduceCtorEq,Nat.reduceLeDiff,Nat.reduceSub,Nat.reduceLT,f13,mb,m1,axx]
   rw [← e2,eapp]
   simp only [EX,reduceIte,Nat.reduceEqDiff,Nat.reduceAdd,Int.reduceEq,Int.reduceLT,Int.reduceLE,reduceCtorEq,Nat.reduceLeDiff,Nat.reduceSub,Nat.reduceLT,f13]
   rw [est]
   simp only [EX,reduceIte,Nat.reduceEqDiff,Nat.reduceAdd,Int.reduceEq,Int.reduceLT,Int.reduceLE,reduceCtorEq,Nat.reduceLeDiff,Nat.reduceSub,Nat.reduceLT,f15,i_add,hw]
   exact hr' _ ⟨by simp only [V_S,Nat.reduceEqDiff,reduceIte]; exact f0,by simp only [V_S,Nat.reduceEqDiff,reduceIte]; exact f1,by simp only [V_S,Nat.reduceEqDiff,reduceIte]; exact f4,by simp only [V_S,Nat.reduceEqDiff,reduceIte]; exact f5,by simp only [V_S,Nat.reduceEqDiff,reduceIte]; exact f12,by simp only [V_S,Nat.reduceEqDiff,reduceIte]; exact f13,by simp only [V_S,Nat.reduceEqDiff,reduceIte]⟩
 obtain ⟨H',x',⟨N,hr,K⟩,e⟩:=G
 exact ⟨H',x',N,hr,K,e⟩
end Go.Proofs.YtmmmjhkgjmbfaaaDoor

/- A schema (chancellaw5.Schema): a kind's fields. -/
namespace Go.Proofs.YtmmmjhkgjmbfaaaDoor
open Go Go.Vai
set_option maxRecDepth 100000
set_option maxHeartbeats 1600000
set_option linter.unusedSimpArgs false
/-- A raw field's cells. -/
def FiP : DP Unit:=fun _ _ bs _=>∃ a b c d : Int,bs = [.i .i64 a,.i .i64 b,.i .i64 c,.i .i64 d]
theorem fiP : Mov 4 FiP:=by
 refine ⟨fun _ _ h=>h,?_,?_⟩
 ·rintro S H bs _ ⟨a,b,c,d,rfl⟩; rfl
 ·rintro S H bs _ ⟨a,b,c,d,rfl⟩ v hv
  simp only [List.mem_cons,List.not_mem_nil,or_false] at hv
  rcases hv with rfl | rfl | rfl | rfl <;> exact ⟨one_i,av1_i⟩
theorem one_iis {a b : Int} {s : List UInt8} : ∀ v ∈ ([.i .i64 a,.i .i64 b,str s] : List AV),oneC v = true:=by
 intro v hv
 simp only [List.mem_cons,List.not_mem_nil,or_false] at hv
 rcases hv with rfl | rfl | rfl
 ·exact one_i
 ·exact one_i
 ·exact one_str
def F11f (x0 x1 : AV) (e4 e5 : Pa) (ii : Nat) (e : Pa) (i : Nat) (fr : Tr AV) : Prop:=V fr 0 = x0∧V fr 1 = x1∧V fr 4 = .p e4 0∧V fr 5 = .p e5 0∧V fr 6 = .i .i64 (ii : Int)∧V fr 7 = .p e 0∧V fr 9 = .i .i64 (i : Int)
theorem loop11f {H00 Hm : Heap} (g00 : Grow H00 Hm) {x0 x1 : AV} {e4 e5 : Pa} {ii : Nat} {a : Pa} {o : Nat} {xf : AV} {lf : List Unit} (eix : ∀ (R : Type) (k : HK R) (G : Heap),ixaC 3 x0 (.i .i64 (ii : Int)) k G = k (.p a o) G)
  (eld : ∀ G,Grow H00 G→∀ (R : Type) (k : HK R),ldC false 1 (.p a (o + 2)) k G = k xf G) (hF : Lst 4 FiP Any H00 xf lf) {e : Pa} (he : H00.next.toN≤e.toN) (he2 : e.toN < Hm.next.toN) {nm : List UInt8} {xps : AV} (hr : Row Hm e 71 [str nm,xps,.ns]) :
  ∃ H' x' lo L,Acc Hm 77 4 FlP x' lo L H'∧lo.length = min lf.length 4∧Row H' e 71 [str nm,xps,x']∧KeepBut e Hm.next.toN Hm H'∧∀ fr,F11f x0 x1 e4 e5 ii e 0 fr→∀ M,500 + min lf.length 4≤M→∀ (R : Type) (k : XK R) (res : Option R),(∀ fr',F11f x0 x1 e4 e5 ii e (min lf.length 4) fr'→k (.exit 4) fr' H' = res)→runK tbl M R Lp11f fr Hm k = res:=by
 have G:=loop_cps (Lp:=Lp11f) (ex:=4) (n:=min lf.length 4) (c:=500) (St:=AV × List (List UInt8 × Ty) × List AV) (fun i H st=>Acc Hm 77 4 FlP st.1 st.2.1 st.2.2 H∧st.2.1.length = i∧Row H e 71 [str nm,xps,st.1]∧KeepBut e Hm.next.toN Hm H) (fun i _ fr=>F11f x0 x1 e4 e5 ii e i fr) ?hend ?hstep (min lf.length 4) 0 Hm (.ns,[],[]) (by omega) ⟨Acc.init (Nat.le_refl _),rfl,hr,KeepBut.refl _ _ _⟩
 case hend =>
  rintro H ⟨x',lo,L⟩ ⟨A,hlo,hr,K⟩ fr ⟨f0,f1,f4,f5,f6,f7,f9⟩ M hM R k res hr'
  obtain ⟨m,rfl⟩ : ∃ m,M = m + 100:=⟨M - 100,by omega⟩
  have ld1:=eld H (K.of g00 g00.next he)
  unfold Lp11f
  rw [run_loop]
  by_cases h : lf.length≤4
  ·have hn : ¬ ((min lf.length 4 : Nat) : Int) < (lf.length : Int):=by omega
   simp only [EX,reduceIte,Nat.reduceEqDiff,Nat.reduceAdd,Int.reduceEq,Int.reduceLT,Int.reduceLE,reduceCtorEq,Nat.reduceLeDiff,Nat.reduceSub,Nat.reduceLT,f0,f6,f9,eix,ld1,hF.len,hn]
   exact hr' _ ⟨by simp only [V_S,Nat.reduceEqDiff,reduceIte]; exact f0,by simp only [V_S,Nat.reduceEqDiff,reduceIte]; exact f1,by simp only [V_S,Nat.reduceEqDiff,reduceIte]; exact f4,by simp only [V_S,Nat.reduceEqDiff,reduceIte]; exact f5,by simp only [V_S,Nat.reduceEqDiff,reduceIte]; exact f6,by simp only [V_S,Nat.reduceEqDiff,reduceIte]; exact f7,by simp only [V_S,Nat.reduceEqDiff,reduceIte]; exact f9⟩
  ·have hn : ((min lf.length 4 : Nat) : Int) < (lf.length : Int):=by omega
   have hn2 : ¬ ((min lf.length 4 : Nat) : Int) < 4:=by omega
   simp only [EX,reduceIte,Nat.reduceEqDiff,Nat.reduceAdd,Int.reduceEq,Int.reduceLT,Int.reduceLE,reduceCtorEq,Nat.reduceLeDiff,Nat.reduceSub,Nat.reduceLT,f0,f6,f9,eix,ld1,hF.len,hn,hn2]
   exact hr' _ ⟨by simp only [V_S,Nat.reduceEqDiff,reduceIte]; exact f0,by simp only [V_S,Nat.reduceEqDiff,reduceIte]; exact f1,by simp only [V_S,Nat.reduceEqDiff,reduceIte]; exact f4,by simp only [V_S,Nat.reduceEqDiff,reduceIte]; exact f5,by simp only [V_S,Nat.reduceEqDiff,reduceIte]; exact f6,by simp only [V_S,Nat.reduceEqDiff,reduceIte]; exact f7,by simp only [V_S,Nat.reduceEqDiff,reduceIte]; exact f9⟩
 case hstep =>
  rintro i H ⟨x,lo,L⟩ hi ⟨A,hlo,hr,K⟩
  have A : Acc Hm 77 4 FlP x lo L H:=A
  have hlo : lo.length = i:=hlo
  have hr : Row H e 71 [str nm,xps,x]:=hr
  have g0:=K.of g00 g00.next he
  have hKn:=K.next
  obtain ⟨a2,o2,bs2,⟨fn,fk,fo,ft,rfl⟩,_,eix2,_,eld2⟩:=hF.at fiP (List.getElem?_eq_getElem (show i < lf.length by omega))
  have ld0:=eld H g0
  have ld2 : ∀ (R : Type) (c : HK R),ldC true 4 (.p a2 o2) c H = c (.ag [.i .i64 fn,.i .i64 fk,.i .i64 fo,.i .i64 ft]) H:=eld2 H g0 0 4 (by omega)
  obtain ⟨H1,e1,g1,r1,n1⟩:=box1 73 H [.i .i64 0,.i .i64 0,.i .i64 0,.i .i64 0]
  have e1' : H.alloc (.cells false 0 73 4 (setCells [.i .i64 0,.i .i64 0,.i .i64 0,.i .i64 0] 0 .leaf)) = H1:=e1.symm
  obtain ⟨H2,r2,b2,n2,est2⟩:=r1.st_all (n:=4) (ys:=[.i .i64 fn,.i .i64 fk,.i .i64 fo,.i .i64 ft]) (by omega) rfl rfl (by intro v hv; simp only [List.mem_cons,List.not_mem_nil,or_false] at hv; rcases hv with rfl | rfl | rfl | rfl <;> exact one_i)
  have g2 : Grow H H2:=b2.of g1 (Nat.le_refl _)
  have n2' : H2.next.toN = H1.next.toN:=by rw [n2]
  obtain ⟨k,hk⟩ : ∃ k,k = 1 + fk % 5:=⟨_,rfl⟩
  have hm0:=Int.emod_nonneg fk (b:=5) (by decide)
  have hm5:=Int.emod_lt_of_pos fk (b:=5) (by decide)
  have hp0:=Int.emod_nonneg fo (b:=4) (by decide)
  have hp4:=Int.emod_lt_of_pos fo (b:=4) (by decide)
  have wk : IntKind.i64.wrap (1 + fk % 5) = k:=by rw [wrap_i64 (by omega) (by omega),hk]
  have wo : IntKind.i64.wrap (1 + fo % 4) = 1 + fo % 4:=wrap_i64 (by omega) (by omega)
  obtain ⟨H3,e3,g3,r3,n3⟩:=box1 75 H2 [.i .i64 0,.i .i64 0,str []]
  have e3' : H2.alloc (.cells false 0 75 3 (setCells [.i .i64 0,.i .i64 0,str []] 0 .leaf)) = H3:=e3.symm
  obtain ⟨H4,r4,b4,n4,est4⟩:=r3.st_all (n:=3) (ys:=[.i .i64 k,.i .i64 0,str []]) (by omega) rfl rfl one_iis
  have g4 : Grow H2 H4:=b4.of g3 (Nat.le_refl _)
  have n4' : H4.next.toN = H3.next.toN:=by rw [n4]
  have u1:=r2.l 1 (v:=.i .i64 fk) rfl
  have v40:=r4.l 0 (v:=.i .i64 k) rfl
  have v41:=r4.l 1 (v:=.i .i64 0) rfl
  have u42:=(r2.grow g4 (by omega)).l 2 (v:=.i .i64 fo) rfl
  have u43:=(r2.grow g4 (by omega)).l 3 (v:=.i .i64 ft) rfl
  have axx : avEq x x = true:=A.self
  have hlt : (i : Int) < (lf.length : Int):=by omega
  have hlt4 : (i : Int) < 4:=by omega
  have hw:=inc_i (show i < 1000 by omega)
  have room : (10 * 48 : Nat)≤roomN:=by decide
  by_cases h5 : k = 5
  ·have v40 : ∀ (R : Type) (c : HK R),ldC false 1 (.p H2.next 0) c H4 = c (.i .i64 5) H4:=by rw [h5] at v40; exact v40
   obtain ⟨H5,r5,b5,n5,est5⟩:=r4.st_one (off:=1) (v:=.i .i64 (1 + fo % 4)) (by omega) (by show 1 < 3; decide) one_i
   have r5 : Row H5 H2.next 75 [.i .i64 5,.i .i64 (1 + fo % 4),str []]:=by rw [← h5]; exact r5
   have g5 : Grow H2 H5:=b5.of g4 (Nat.le_refl _)
   have n5' : H5.next.toN = H4.next.toN:=by rw [n5]
   have v50:=r5.l 0 (v:=.i .i64 5) rfl
   have v51:=r5.l 1 (v:=.i .i64 (1 + fo % 4)) rfl
   by_cases h4 : 1 + fo % 4 = 4
   ·have v51 : ∀ (R : Type) (c : HK R),ldC false 1 (.p H2.next 1) c H5 = c (.i .i64 4) H5:=by rw [h4] at v51; exact v51
    have u53:=(r2.grow g5 (by omega)).l 3 (v:=.i .i64 ft) rfl
    obtain ⟨H6,g6,e30⟩:=s30 ft H5
    have n6:=g6.next
    obtain ⟨H7,r7,b7,n7,est7⟩:=(r5.grow g6 (by omega)).st_one (off:=2) (v:=str (kdn ft)) (by omega) (by show 2 < 3; decide) one_str
    have r7 : Row H7 H2.next 75 [.i .i64 5,.i .i64 4,str (kdn ft)]:=by rw [← h4]; exact r7
    have g7 : Grow H2 H7:=b7.of (g5.trans g6) (Nat.le_refl _)
    have n7' : H7.next.toN = H6.next.toN:=by rw [n7]
    have hnl : (kdn ft).length≤40:=Nat.le_trans (kdn_le _) (by decide)
    have gt : Grow H H7:=g2.trans g7
    have ntl:=gt.next
    have gb:=Grow.bump 1 H7
    have nb : (H7.bump 1).next.toN = H7.next.toN + 1:=next_bump
    have ugb:=(r2.grow (Grow.trans g7 gb) (by omega)).l 0 (v:=.i .i64 fn) rfl
    obtain ⟨Ha,ga,e19⟩:=s19 fn (H7.bump 1)
    have na:=ga.next
    have tb:=(r7.grow gb (by omega)).la 3 rfl
    have ta:=(r7.grow (gb.trans ga) (by omega)).la 3 rfl
    have axc : avEq (.ag [.i .i64 5,.i .i64 4,str (kdn ft)]) (.ag [.i .i64 5,.i .i64 4,str (kdn ft)]) = true:=avEq_ag fun v hv=>(Ty.one ⟨5,4,(kdn ft)⟩ v hv).2
    have mb:=(hr.grow (gt.trans gb) (by omega)).l 2 (v:=x) rfl
    have ma:=(hr.grow (gt.trans (gb.trans ga)) (by omega)).l 2 (v:=x) rfl
    obtain ⟨Hp,ep⟩ : ∃ Hp,Hp = Ha.put H7.next (.cells false 0 77 4 (setCells [str (Go.Proofs.YtmmmjhkgjmbfaaaDoor.nm fn),.i .i64 5,.i .i64 4,str (kdn ft)] 0 .leaf)):=⟨_,rfl⟩
    have gp : Grow H7 Hp:=by rw [ep]; exact (gb.trans ga).put (Nat.le_refl _) (by omega) _
    have rp : Row Hp H7.next 77 [str (Go.Proofs.YtmmmjhkgjmbfaaaDoor.nm fn),.i .i64 5,.i .i64 4,str (kdn ft)]:=by rw [ep]; exact ⟨_,get_put,fun j _=>cell_at [str (Go.Proofs.YtmmmjhkgjmbfaaaDoor.nm fn),.i .i64 5,.i .i64 4,str (kdn ft)] j⟩
    have Ap:=A.grow flP (gt.trans gp)
    have hrp:=hr.grow (gt.trans gp) (by omega)
    obtain ⟨H8,H9,A9,r9,K9,_,eapp,est⟩:=Ap.boxed flP (by decide) hrp he2 (f:=2) (by show 2 < 3; decide) (ys:=[str (Go.Proofs.YtmmmjhkgjmbfaaaDoor.nm fn),.i .i64 5,.i .i64 4,str (kdn ft)]) (r:=(Go.Proofs.YtmmmjhkgjmbfaaaDoor.nm fn,⟨5,4,(kdn ft)⟩)) ⟨rfl,nm_le _,hnl⟩ (bytes:=48) (by omega)
    have eapp' : ∀ (R : Type) (k : HK R),appendK 77 4 48 x (.sl H7.next 0 1 (some 1) 4) Hp k = k (.sl Hp.next 0 (lo.length + (0 + 1)) none 4) H8:=fun R k=>eapp R k _ fun f=>src_all (n:=0 + 1) rp rfl f
    have est' : ∀ (R : Type) (k : HK R),stC 1 (.p e 2) (.sl Hp.next 0 (lo.length + 1) none 4) k H8 = k un H9:=est
    have hlay : lay [str (Go.Proofs.YtmmmjhkgjmbfaaaDoor.nm fn),.i .i64 0,.i .i64 0,str []] 1 [.i .i64 5,.i .i64 4,str (kdn ft)] = [str (Go.Proofs.YtmmmjhkgjmbfaaaDoor.nm fn),.i .i64 5,.i .i64 4,str (kdn ft)]:=rfl
    have hlay2 : lay [str [],.i .i64 0,.i .i64 0,str []] 0 [str (Go.Proofs.YtmmmjhkgjmbfaaaDoor.nm fn),.i .i64 5,.i .i64 4,str (kdn ft)] = [str (Go.Proofs.YtmmmjhkgjmbfaaaDoor.nm fn),.i .i64 5,.i .i64 4,str (kdn ft)]:=rfl
    refine ⟨H9,(_,lo ++ [(Go.Proofs.YtmmmjhkgjmbfaaaDoor.nm fn,⟨5,4,(kdn ft)⟩)],L ++ [str (Go.Proofs.YtmmmjhkgjmbfaaaDoor.nm fn),.i .i64 5,.i .i64 4,str (kdn ft)]),⟨A9,by show (lo ++ [_]).length = i + 1; rw [List.length_append,hlo]; rfl,r9,(K.trans (Grow.kb (gt.trans gp) e Hm.next.toN)).trans K9⟩,?_⟩
    rintro fr ⟨f0,f1,f4,f5,f6,f7,f9⟩ M hM R kk res hr'
    obtain ⟨m,rfl⟩ : ∃ m,M = m + 500:=⟨M - 500,by omega⟩
    unfold Lp11f
    rw [run_loop]
    simp only [EX,reduceIte,Nat.reduceEqDiff,Nat.reduceAdd,Int.reduceEq,Int.reduceLT,Int.reduceLE,reduceCtorEq,Nat.reduceLeDiff,Nat.reduceSub,Nat.reduceLT,f0,f6,f9,eix,ld0,hF.len,hlt,hlt4,eix2,ld2]
    rw [e1']
    refine (est2 _ _).trans ?_
    simp only [EX,reduceIte,Nat.reduceEqDiff,Nat.reduceAdd,Int.reduceEq,Int.reduceLT,Int.reduceLE,reduceCtorEq,Nat.reduceLeDiff,Nat.reduceSub,Nat.reduceLT,u1]
    rw [s18 (by decide) (by decide) (by omega)]
    simp only [EX,reduceIte,Nat.reduceEqDiff,Nat.reduceAdd,Int.reduceEq,Int.reduceLT,Int.reduceLE,reduceCtorEq,Nat.reduceLeDiff,Nat.reduceSub,Nat.reduceLT,i_add,wk]
    rw [e3']
    refine (est4 _ _).trans ?_
    simp only [EX,reduceIte,Nat.reduceEqDiff,Nat.reduceAdd,Int.reduceEq,Int.reduceLT,Int.reduceLE,reduceCtorEq,Nat.reduceLeDiff,Nat.reduceSub,Nat.reduceLT,v40,u42]
    rw [s18 (by decide) (by decide) (by omega)]
    simp only [EX,reduceIte,Nat.reduceEqDiff,Nat.reduceAdd,Int.reduceEq,Int.reduceLT,Int.reduceLE,reduceCtorEq,Nat.reduceLeDiff,Nat.reduceSub,Nat.reduceLT,i_add,wo]
    refine (est5 _ _).trans ?_
    simp only [EX,reduceIte,Nat.reduceEqDiff,Nat.reduceAdd,Int.reduceEq,Int.reduceLT,Int.reduceLE,reduceCtorEq,Nat.reduceLeDiff,Nat.reduceSub,Nat.reduceLT,v50,v51,u53]
    rw [e30 _ (by omega)]
    simp only [EX,reduceIte,Nat.reduceEqDiff,Nat.reduceAdd,Int.reduceEq,Int.reduceLT,Int.reduceLE,reduceCtorEq,Nat.reduceLeDiff,Nat.reduceSub,Nat.reduceLT]
    refine (est7 _ _).trans ?_
    simp only [EX,reduceIte,Nat.reduceEqDiff,Nat.reduceAdd,Int.reduceEq,Int.reduceLT,Int.reduceLE,reduceCtorEq,Nat.reduceLeDiff,Nat.reduceSub,Nat.reduceLT,ugb,avEq_i]
    rw [e19 _ (by omega)]
    simp only [EX,reduceIte,Nat.reduceEqDiff,Nat.reduceAdd,Int.reduceEq,Int.reduceLT,Int.reduceLE,reduceCtorEq,Nat.reduceLeDiff,Nat.reduceSub,Nat.reduceLT,f7,mb,ma,axx,tb,ta,axc]
    rw [fill_agn ?fa1 ?fb1]
    case fa1=>rfl
    case fb1=>show 1 + 3≤4; omega
    simp only [EX,reduceIte,Nat.reduceEqDiff,Nat.reduceAdd,Int.reduceEq,Int.reduceLT,Int.reduceLE,reduceCtorEq,Nat.reduceLeDiff,Nat.reduceSub,Nat.reduceLT,hlay]
    rw [fill_agn ?fc1 ?fd1]
    case fc1=>rfl
    case fd1=>show 0 + 4≤4; omega
    simp only [EX,reduceIte,Nat.reduceEqDiff,Nat.reduceAdd,Int.reduceEq,Int.reduceLT,Int.reduceLE,reduceCtorEq,Nat.reduceLeDiff,Nat.reduceSub,Nat.reduceLT,hlay2]
    rw [← ep,eapp']
    simp only [EX,reduceIte,Nat.reduceEqDiff,Nat.reduceAdd,Int.reduceEq,Int.reduceLT,Int.reduceLE,reduceCtorEq,Nat.reduceLeDiff,Nat.reduceSub,Nat.reduceLT,f7]
    rw [est']
    simp only [EX,reduceIte,Nat.reduceEqDiff,Nat.reduceAdd,Int.reduceEq,Int.reduceLT,Int.reduceLE,reduceCtorEq,Nat.reduceLeDiff,Nat.reduceSub,Nat.reduceLT,f9,i_add,hw]
    exact hr' _ ⟨by simp only [V_S,Nat.reduceEqDiff,reduceIte]; exact f0,by simp only [V_S,Nat.reduceEqDiff,reduceIte]; exact f1,by simp only [V_S,Nat.reduceEqDiff,reduceIte]; exact f4,by simp only [V_S,Nat.reduceEqDiff,reduceIte]; exact f5,by simp only [V_S,Nat.reduceEqDiff,reduceIte]; exact f6,by simp only [V_S,Nat.reduceEqDiff,reduceIte]; exact f7,by simp only [V_S,Nat.reduceEqDiff,reduceIte]⟩
   ·have hnl : ([] : List UInt8).length≤40:=by decide
    have gt : Grow H H5:=g2.trans g5
    have ntl:=gt.next
    have gb:=Grow.bump 1 H5
    have nb : (H5.bump 1).next.toN = H5.next.toN + 1:=next_bump
    have ugb:=(r2.grow (Grow.trans g5 gb) (by omega)).l 0 (v:=.i .i64 fn) rfl
    obtain ⟨Ha,ga,e19⟩:=s19 fn (H5.bump 1)
    have na:=ga.next
    have tb:=(r5.grow gb (by omega)).la 3 rfl
    have ta:=(r5.grow (gb.trans ga) (by omega)).la 3 rfl
    have axc : avEq (.ag [.i .i64 5,.i .i64 (1 + fo % 4),str []]) (.ag [.i .i64 5,.i .i64 (1 + fo % 4),str []]) = true:=avEq_ag fun v hv=>(Ty.one ⟨5,(1 + fo % 4),[]⟩ v hv).2
    have mb:=(hr.grow (gt.trans gb) (by omega)).l 2 (v:=x) rfl
    have ma:=(hr.grow (gt.trans (gb.trans ga)) (by omega)).l 2 (v:=x) rfl
    obtain ⟨Hp,ep⟩ : ∃ Hp,Hp = Ha.put H5.next (.cells false 0 77 4 (setCells [str (Go.Proofs.YtmmmjhkgjmbfaaaDoor.nm fn),.i .i64 5,.i .i64 (1 + fo % 4),str []] 0 .leaf)):=⟨_,rfl⟩
    have gp : Grow H5 Hp:=by rw [ep]; exact (gb.trans ga).put (Nat.le_refl _) (by omega) _
    have rp : Row Hp H5.next 77 [str (Go.Proofs.YtmmmjhkgjmbfaaaDoor.nm fn),.i .i64 5,.i .i64 (1 + fo % 4),str []]:=by rw [ep]; exact ⟨_,get_put,fun j _=>cell_at [str (Go.Proofs.YtmmmjhkgjmbfaaaDoor.nm fn),.i .i64 5,.i .i64 (1 + fo % 4),str []] j⟩
    have Ap:=A.grow flP (gt.trans gp)
    have hrp:=hr.grow (gt.trans gp) (by omega)
    obtain ⟨H8,H9,A9,r9,K9,_,eapp,est⟩:=Ap.boxed flP (by decide) hrp he2 (f:=2) (by show 2 < 3; decide) (ys:=[str (Go.Proofs.YtmmmjhkgjmbfaaaDoor.nm fn),.i .i64 5,.i .i64 (1 + fo % 4),str []]) (r:=(Go.Proofs.YtmmmjhkgjmbfaaaDoor.nm fn,⟨5,(1 + fo % 4),[]⟩)) ⟨rfl,nm_le _,hnl⟩ (bytes:=48) (by omega)
    have eapp' : ∀ (R : Type) (k : HK R),appendK 77 4 48 x (.sl H5.next 0 1 (some 1) 4) Hp k = k (.sl Hp.next 0 (lo.length + (0 + 1)) none 4) H8:=fun R k=>eapp R k _ fun f=>src_all (n:=0 + 1) rp rfl f
    have est' : ∀ (R : Type) (k : HK R),stC 1 (.p e 2) (.sl Hp.next 0 (lo.length + 1) none 4) k H8 = k un H9:=est
    have hlay : lay [str (Go.Proofs.YtmmmjhkgjmbfaaaDoor.nm fn),.i .i64 0,.i .i64 0,str []] 1 [.i .i64 5,.i .i64 (1 + fo % 4),str []] = [str (Go.Proofs.YtmmmjhkgjmbfaaaDoor.nm fn),.i .i64 5,.i .i64 (1 + fo % 4),str []]:=rfl
    have hlay2 : lay [str [],.i .i64 0,.i .i64 0,str []] 0 [str (Go.Proofs.YtmmmjhkgjmbfaaaDoor.nm fn),.i .i64 5,.i .i64 (1 + fo % 4),str []] = [str (Go.Proofs.YtmmmjhkgjmbfaaaDoor.nm fn),.i .i64 5,.i .i64 (1 + fo % 4),str []]:=rfl
    refine ⟨H9,(_,lo ++ [(Go.Proofs.YtmmmjhkgjmbfaaaDoor.nm fn,⟨5,(1 + fo % 4),[]⟩)],L ++ [str (Go.Proofs.YtmmmjhkgjmbfaaaDoor.nm fn),.i .i64 5,.i .i64 (1 + fo % 4),str []]),⟨A9,by show (lo ++ [_]).length = i + 1; rw [List.length_append,hlo]; rfl,r9,(K.trans (Grow.kb (gt.trans gp) e Hm.next.toN)).trans K9⟩,?_⟩
    rintro fr ⟨f0,f1,f4,f5,f6,f7,f9⟩ M hM R kk res hr'
    obtain ⟨m,rfl⟩ : ∃ m,M = m + 500:=⟨M - 500,by omega⟩
    unfold Lp11f
    rw [run_loop]
    simp only [EX,reduceIte,Nat.reduceEqDiff,Nat.reduceAdd,Int.reduceEq,Int.reduceLT,Int.reduceLE,reduceCtorEq,Nat.reduceLeDiff,Nat.reduceSub,Nat.reduceLT,f0,f6,f9,eix,ld0,hF.len,hlt,hlt4,eix2,ld2]
    rw [e1']
    refine (est2 _ _).trans ?_
    simp only [EX,reduceIte,Nat.reduceEqDiff,Nat.reduceAdd,Int.reduceEq,Int.reduceLT,Int.reduceLE,reduceCtorEq,Nat.reduceLeDiff,Nat.reduceSub,Nat.reduceLT,u1]
    rw [s18 (by decide) (by decide) (by omega)]
    simp only [EX,reduceIte,Nat.reduceEqDiff,Nat.reduceAdd,Int.reduceEq,Int.reduceLT,Int.reduceLE,reduceCtorEq,Nat.reduceLeDiff,Nat.reduceSub,Nat.reduceLT,i_add,wk]
    rw [e3']
    refine (est4 _ _).trans ?_
    simp only [EX,reduceIte,Nat.reduceEqDiff,Nat.reduceAdd,Int.reduceEq,Int.reduceLT,Int.reduceLE,reduceCtorEq,Nat.reduceLeDiff,Nat.reduceSub,Nat.reduceLT,v40,u42]
    rw [s18 (by decide) (by decide) (by omega)]
    simp only [EX,reduceIte,Nat.reduceEqDiff,Nat.reduceAdd,Int.reduceEq,Int.reduceLT,Int.reduceLE,reduceCtorEq,Nat.reduceLeDiff,Nat.reduceSub,Nat.reduceLT,i_add,wo]
    refine (est5 _ _).trans ?_
    simp only [EX,reduceIte,Nat.reduceEqDiff,Nat.reduceAdd,Int.reduceEq,Int.reduceLT,Int.reduceLE,reduceCtorEq,Nat.reduceLeDiff,Nat.reduceSub,Nat.reduceLT,v50,v51,h4,ugb,avEq_i]
    rw [e19 _ (by omega)]
    simp only [EX,reduceIte,Nat.reduceEqDiff,Nat.reduceAdd,Int.reduceEq,Int.reduceLT,Int.reduceLE,reduceCtorEq,Nat.reduceLeDiff,Nat.reduceSub,Nat.reduceLT,f7,mb,ma,axx,tb,ta,axc]
    rw [fill_agn ?fa2 ?fb2]
    case fa2=>rfl
    case fb2=>show 1 + 3≤4; omega
    simp only [EX,reduceIte,Nat.reduceEqDiff,Nat.reduceAdd,Int.reduceEq,Int.reduceLT,Int.reduceLE,reduceCtorEq,Nat.reduceLeDiff,Nat.reduceSub,Nat.reduceLT,hlay]
    rw [fill_agn ?fc2 ?fd2]
    case fc2=>rfl
    case fd2=>show 0 + 4≤4; omega
    simp only [EX,reduceIte,Nat.reduceEqDiff,Nat.reduceAdd,Int.reduceEq,Int.reduceLT,Int.reduceLE,reduceCtorEq,Nat.reduceLeDiff,Nat.reduceSub,Nat.reduceLT,hlay2]
    rw [← ep,eapp']
    simp only [EX,reduceIte,Nat.reduceEqDiff,Nat.reduceAdd,Int.reduceEq,Int.reduceLT,Int.reduceLE,reduceCtorEq,Nat.reduceLeDiff,Nat.reduceSub,Nat.reduceLT,f7]
    rw [est']
    simp only [EX,reduceIte,Nat.reduceEqDiff,Nat.reduceAdd,Int.reduceEq,Int.reduceLT,Int.reduceLE,reduceCtorEq,Nat.reduceLeDiff,Nat.reduceSub,Nat.reduceLT,f9,i_add,hw]
    exact hr' _ ⟨by simp only [V_S,Nat.reduceEqDiff,reduceIte]; exact f0,by simp only [V_S,Nat.reduceEqDiff,reduceIte]; exact f1,by simp only [V_S,Nat.reduceEqDiff,reduceIte]; exact f4,by simp only [V_S,Nat.reduceEqDiff,reduceIte]; exact f5,by simp only [V_S,Nat.reduceEqDiff,reduceIte]; exact f6,by simp only [V_S,Nat.reduceEqDiff,reduceIte]; exact f7,by simp only [V_S,Nat.reduceEqDiff,reduceIte]⟩
  ·by_cases h4 : k = 4
   ·have v40 : ∀ (R : Type) (c : HK R),ldC false 1 (.p H2.next 0) c H4 = c (.i .i64 4) H4:=by rw [h4] at v40; exact v40
    obtain ⟨H6,g6,e30⟩:=s30 ft H4
    have n6:=g6.next
    obtain ⟨H7,r7,b7,n7,est7⟩:=(r4.grow g6 (by omega)).st_one (off:=2) (v:=str (kdn ft)) (by omega) (by show 2 < 3; decide) one_str
    have r7 : Row H7 H2.next 75 [.i .i64 4,.i .i64 0,str (kdn ft)]:=by rw [← h4]; exact r7
    have g7 : Grow H2 H7:=b7.of (g4.trans g6) (Nat.le_refl _)
    have n7' : H7.next.toN = H6.next.toN:=by rw [n7]
    have hnl : (kdn ft).length≤40:=Nat.le_trans (kdn_le _) (by decide)
    have gt : Grow H H7:=g2.trans g7
    have ntl:=gt.next
    have gb:=Grow.bump 1 H7
    have nb : (H7.bump 1).next.toN = H7.next.toN + 1:=next_bump
    have ugb:=(r2.grow (Grow.trans g7 gb) (by omega)).l 0 (v:=.i .i64 fn) rfl
    obtain ⟨Ha,ga,e19⟩:=s19 fn (H7.bump 1)
    have na:=ga.next
    have tb:=(r7.grow gb (by omega)).la 3 rfl
    have ta:=(r7.grow (gb.trans ga) (by omega)).la 3 rfl
    have axc : avEq (.ag [.i .i64 4,.i .i64 0,str (kdn ft)]) (.ag [.i .i64 4,.i .i64 0,str (kdn ft)]) = true:=avEq_ag fun v hv=>(Ty.one ⟨4,0,(kdn ft)⟩ v hv).2
    have mb:=(hr.grow (gt.trans gb) (by omega)).l 2 (v:=x) rfl
    have ma:=(hr.grow (gt.trans (gb.trans ga)) (by omega)).l 2 (v:=x) rfl
    obtain ⟨Hp,ep⟩ : ∃ Hp,Hp = Ha.put H7.next (.cells false 0 77 4 (setCells [str (Go.Proofs.YtmmmjhkgjmbfaaaDoor.nm fn),.i .i64 4,.i .i64 0,str (kdn ft)] 0 .leaf)):=⟨_,rfl⟩
    have gp : Grow H7 Hp:=by rw [ep]; exact (gb.trans ga).put (Nat.le_refl _) (by omega) _
    have rp : Row Hp H7.next 77 [str (Go.Proofs.YtmmmjhkgjmbfaaaDoor.nm fn),.i .i64 4,.i .i64 0,str (kdn ft)]:=by rw [ep]; exact ⟨_,get_put,fun j _=>cell_at [str (Go.Proofs.YtmmmjhkgjmbfaaaDoor.nm fn),.i .i64 4,.i .i64 0,str (kdn ft)] j⟩
    have Ap:=A.grow flP (gt.trans gp)
    have hrp:=hr.grow (gt.trans gp) (by omega)
    obtain ⟨H8,H9,A9,r9,K9,_,eapp,est⟩:=Ap.boxed flP (by decide) hrp he2 (f:=2) (by show 2 < 3; decide) (ys:=[str (Go.Proofs.YtmmmjhkgjmbfaaaDoor.nm fn),.i .i64 4,.i .i64 0,str (kdn ft)]) (r:=(Go.Proofs.YtmmmjhkgjmbfaaaDoor.nm fn,⟨4,0,(kdn ft)⟩)) ⟨rfl,nm_le _,hnl⟩ (bytes:=48) (by omega)
    have eapp' : ∀ (R : Type) (k : HK R),appendK 77 4 48 x (.sl H7.next 0 1 (some 1) 4) Hp k = k (.sl Hp.next 0 (lo.length + (0 + 1)) none 4) H8:=fun R k=>eapp R k _ fun f=>src_all (n:=0 + 1) rp rfl f
    have est' : ∀ (R : Type) (k : HK R),stC 1 (.p e 2) (.sl Hp.next 0 (lo.length + 1) none 4) k H8 = k un H9:=est
    have hlay : lay [str (Go.Proofs.YtmmmjhkgjmbfaaaDoor.nm fn),.i .i64 0,.i .i64 0,str []] 1 [.i .i64 4,.i .i64 0,str (kdn ft)] = [str (Go.Proofs.YtmmmjhkgjmbfaaaDoor.nm fn),.i .i64 4,.i .i64 0,str (kdn ft)]:=rfl
    have hlay2 : lay [str [],.i .i64 0,.i .i64 0,str []] 0 [str (Go.Proofs.YtmmmjhkgjmbfaaaDoor.nm fn),.i .i64 4,.i .i64 0,str (kdn ft)] = [str (Go.Proofs.YtmmmjhkgjmbfaaaDoor.nm fn),.i .i64 4,.i .i64 0,str (kdn ft)]:=rfl
    refine ⟨H9,(_,lo ++ [(Go.Proofs.YtmmmjhkgjmbfaaaDoor.nm fn,⟨4,0,(kdn ft)⟩)],L ++ [str (Go.Proofs.YtmmmjhkgjmbfaaaDoor.nm fn),.i .i64 4,.i .i64 0,str (kdn ft)]),⟨A9,by show (lo ++ [_]).length = i + 1; rw [List.length_append,hlo]; rfl,r9,(K.trans (Grow.kb (gt.trans gp) e Hm.next.toN)).trans K9⟩,?_⟩
    rintro fr ⟨f0,f1,f4,f5,f6,f7,f9⟩ M hM R kk res hr'
    obtain ⟨m,rfl⟩ : ∃ m,M = m + 500:=⟨M - 500,by omega⟩
    unfold Lp11f
    rw [run_loop]
    simp only [EX,reduceIte,Nat.reduceEqDiff,Nat.reduceAdd,Int.reduceEq,Int.reduceLT,Int.reduceLE,reduceCtorEq,Nat.reduceLeDiff,Nat.reduceSub,Nat.reduceLT,f0,f6,f9,eix,ld0,hF.len,hlt,hlt4,eix2,ld2]
    rw [e1']
    refine (est2 _ _).trans ?_
    simp only [EX,reduceIte,Nat.reduceEqDiff,Nat.reduceAdd,Int.reduceEq,Int.reduceLT,Int.reduceLE,reduceCtorEq,Nat.reduceLeDiff,Nat.reduceSub,Nat.reduceLT,u1]
    rw [s18 (by decide) (by decide) (by omega)]
    simp only [EX,reduceIte,Nat.reduceEqDiff,Nat.reduceAdd,Int.reduceEq,Int.reduceLT,Int.reduceLE,reduceCtorEq,Nat.reduceLeDiff,Nat.reduceSub,Nat.reduceLT,i_add,wk]
    rw [e3']
    refine (est4 _ _).trans ?_
    simp only [EX,reduceIte,Nat.reduceEqDiff,Nat.reduceAdd,Int.reduceEq,Int.reduceLT,Int.reduceLE,reduceCtorEq,Nat.reduceLeDiff,Nat.reduceSub,Nat.reduceLT,v40,u43]
    rw [e30 _ (by omega)]
    simp only [EX,reduceIte,Nat.reduceEqDiff,Nat.reduceAdd,Int.reduceEq,Int.reduceLT,Int.reduceLE,reduceCtorEq,Nat.reduceLeDiff,Nat.reduceSub,Nat.reduceLT]
    refine (est7 _ _).trans ?_
    simp only [EX,reduceIte,Nat.reduceEqDiff,Nat.reduceAdd,Int.reduceEq,Int.reduceLT,Int.reduceLE,reduceCtorEq,Nat.reduceLeDiff,Nat.reduceSub,Nat.reduceLT,ugb,avEq_i]
    rw [e19 _ (by omega)]
    simp only [EX,reduceIte,Nat.reduceEqDiff,Nat.reduceAdd,Int.reduceEq,Int.reduceLT,Int.reduceLE,reduceCtorEq,Nat.reduceLeDiff,Nat.reduceSub,Nat.reduceLT,f7,mb,ma,axx,tb,ta,axc]
    rw [fill_agn ?fa3 ?fb3]
    case fa3=>rfl
    case fb3=>show 1 + 3≤4; omega
    simp only [EX,reduceIte,Nat.reduceEqDiff,Nat.reduceAdd,Int.reduceEq,Int.reduceLT,Int.reduceLE,reduceCtorEq,Nat.reduceLeDiff,Nat.reduceSub,Nat.reduceLT,hlay]
    rw [fill_agn ?fc3 ?fd3]
    case fc3=>rfl
    case fd3=>show 0 + 4≤4; omega
    simp only [EX,reduceIte,Nat.reduceEqDiff,Nat.reduceAdd,Int.reduceEq,Int.reduceLT,Int.reduceLE,reduceCtorEq,Nat.reduceLeDiff,Nat.reduceSub,Nat.reduceLT,hlay2]
    rw [← ep,eapp']
    simp only [EX,reduceIte,Nat.reduceEqDiff,Nat.reduceAdd,Int.reduceEq,Int.reduceLT,Int.reduceLE,reduceCtorEq,Nat.reduceLeDiff,Nat.reduceSub,Nat.reduceLT,f7]
    rw [est']
    simp only [EX,reduceIte,Nat.reduceEqDiff,Nat.reduceAdd,Int.reduceEq,Int.reduceLT,Int.reduceLE,reduceCtorEq,Nat.reduceLeDiff,Nat.reduceSub,Nat.reduceLT,f9,i_add,hw]
    exact hr' _ ⟨by simp only [V_S,Nat.reduceEqDiff,reduceIte]; exact f0,by simp only [V_S,Nat.reduceEqDiff,reduceIte]; exact f1,by simp only [V_S,Nat.reduceEqDiff,reduceIte]; exact f4,by simp only [V_S,Nat.reduceEqDiff,reduceIte]; exact f5,by simp only [V_S,Nat.reduceEqDiff,reduceIte]; exact f6,by simp only [V_S,Nat.reduceEqDiff,reduceIte]; exact f7,by simp only [V_S,Nat.reduceEqDiff,reduceIte]⟩
   ·have hnl : ([] : List UInt8).length≤40:=by decide
    have gt : Grow H H4:=g2.trans g4
    have ntl:=gt.next
    have gb:=Grow.bump 1 H4
    have nb : (H4.bump 1).next.toN = H4.next.toN + 1:=next_bump
    have ugb:=(r2.grow (Grow.trans g4 gb) (by omega)).l 0 (v:=.i .i64 fn) rfl
    obtain ⟨Ha,ga,e19⟩:=s19 fn (H4.bump 1)
    have na:=ga.next
    have tb:=(r4.grow gb (by omega)).la 3 rfl
    have ta:=(r4.grow (gb.trans ga) (by omega)).la 3 rfl
    have axc : avEq (.ag [.i .i64 k,.i .i64 0,str []]) (.ag [.i .i64 k,.i .i64 0,str []]) = true:=avEq_ag fun v hv=>(Ty.one ⟨k,0,[]⟩ v hv).2
    have mb:=(hr.grow (gt.trans gb) (by omega)).l 2 (v:=x) rfl
    have ma:=(hr.grow (gt.trans (gb.trans ga)) (by omega)).l 2 (v:=x) rfl
    obtain ⟨Hp,ep⟩ : ∃ Hp,Hp = Ha.put H4.next (.cells false 0 77 4 (setCells [str (Go.Proofs.YtmmmjhkgjmbfaaaDoor.nm fn),.i .i64 k,.i .i64 0,str []] 0 .leaf)):=⟨_,rfl⟩
    have gp : Grow H4 Hp:=by rw [ep]; exact (gb.trans ga).put (Nat.le_refl _) (by omega) _
    have rp : Row Hp H4.next 77 [str (Go.Proofs.YtmmmjhkgjmbfaaaDoor.nm fn),.i .i64 k,.i .i64 0,str []]:=by rw [ep]; exact ⟨_,get_put,fun j _=>cell_at [str (Go.Proofs.YtmmmjhkgjmbfaaaDoor.nm fn),.i .i64 k,.i .i64 0,str []] j⟩
    have Ap:=A.grow flP (gt.trans gp)
    have hrp:=hr.grow (gt.trans gp) (by omega)
    obtain ⟨H8,H9,A9,r9,K9,_,eapp,est⟩:=Ap.boxed flP (by decide) hrp he2 (f:=2) (by show 2 < 3; decide) (ys:=[str (Go.Proofs.YtmmmjhkgjmbfaaaDoor.nm fn),.i .i64 k,.i .i64 0,str []]) (r:=(Go.Proofs.YtmmmjhkgjmbfaaaDoor.nm fn,⟨k,0,[]⟩)) ⟨rfl,nm_le _,hnl⟩ (bytes:=48) (by omega)
    have eapp' : ∀ (R : Type) (k : HK R),appendK 77 4 48 x (.sl H4.next 0 1 (some 1) 4) Hp k = k (.sl Hp.next 0 (lo.length + (0 + 1)) none 4) H8:=fun R k=>eapp R k _ fun f=>src_all (n:=0 + 1) rp rfl f
    have est' : ∀ (R : Type) (k : HK R),stC 1 (.p e 2) (.sl Hp.next 0 (lo.length + 1) none 4) k H8 = k un H9:=est
    have hlay : lay [str (Go.Proofs.YtmmmjhkgjmbfaaaDoor.nm fn),.i .i64 0,.i .i64 0,str []] 1 [.i .i64 k,.i .i64 0,str []] = [str (Go.Proofs.YtmmmjhkgjmbfaaaDoor.nm fn),.i .i64 k,.i .i64 0,str []]:=rfl
    have hlay2 : lay [str [],.i .i64 0,.i .i64 0,str []] 0 [str (Go.Proofs.YtmmmjhkgjmbfaaaDoor.nm fn),.i .i64 k,.i .i64 0,str []] = [str (Go.Proofs.YtmmmjhkgjmbfaaaDoor.nm fn),.i .i64 k,.i .i64 0,str []]:=rfl
    refine ⟨H9,(_,lo ++ [(Go.Proofs.YtmmmjhkgjmbfaaaDoor.nm fn,⟨k,0,[]⟩)],L ++ [str (Go.Proofs.YtmmmjhkgjmbfaaaDoor.nm fn),.i .i64 k,.i .i64 0,str []]),⟨A9,by show (lo ++ [_]).length = i + 1; rw [List.length_append,hlo]; rfl,r9,(K.trans (Grow.kb (gt.trans gp) e Hm.next.toN)).trans K9⟩,?_⟩
    rintro fr ⟨f0,f1,f4,f5,f6,f7,f9⟩ M hM R kk res hr'
    obtain ⟨m,rfl⟩ : ∃ m,M = m + 500:=⟨M - 500,by omega⟩
    unfold Lp11f
    rw [run_loop]
    simp only [EX,reduceIte,Nat.reduceEqDiff,Nat.reduceAdd,Int.reduceEq,Int.reduceLT,Int.reduceLE,reduceCtorEq,Nat.reduceLeDiff,Nat.reduceSub,Nat.reduceLT,f0,f6,f9,eix,ld0,hF.len,hlt,hlt4,eix2,ld2]
    rw [e1']
    refine (est2 _ _).trans ?_
    simp only [EX,reduceIte,Nat.reduceEqDiff,Nat.reduceAdd,Int.reduceEq,Int.reduceLT,Int.reduceLE,reduceCtorEq,Nat.reduceLeDiff,Nat.reduceSub,Nat.reduceLT,u1]
    rw [s18 (by decide) (by decide) (by omega)]
    simp only [EX,reduceIte,Nat.reduceEqDiff,Nat.reduceAdd,Int.reduceEq,Int.reduceLT,Int.reduceLE,reduceCtorEq,Nat.reduceLeDiff,Nat.reduceSub,Nat.reduceLT,i_add,wk]
    rw [e3']
    refine (est4 _ _).trans ?_
    simp only [EX,reduceIte,Nat.reduceEqDiff,Nat.reduceAdd,Int.reduceEq,Int.reduceLT,Int.reduceLE,reduceCtorEq,Nat.reduceLeDiff,Nat.reduceSub,Nat.reduceLT,v40,v41,h5,h4,ugb,avEq_i]
    rw [e19 _ (by omega)]
    simp only [EX,reduceIte,Nat.reduceEqDiff,Nat.reduceAdd,Int.reduceEq,Int.reduceLT,Int.reduceLE,reduceCtorEq,Nat.reduceLeDiff,Nat.reduceSub,Nat.reduceLT,f7,mb,ma,axx,tb,ta,axc]
    rw [fill_agn ?fa4 ?fb4]
    case fa4=>rfl
    case fb4=>show 1 + 3≤4; omega
    simp only [EX,reduceIte,Nat.reduceEqDiff,Nat.reduceAdd,Int.reduceEq,Int.reduceLT,Int.reduceLE,reduceCtorEq,Nat.reduceLeDiff,Nat.reduceSub,Nat.reduceLT,hlay]
    rw [fill_agn ?fc4 ?fd4]
    case fc4=>rfl
    case fd4=>show 0 + 4≤4; omega
    simp only [EX,reduceIte,Nat.reduceEqDiff,Nat.reduceAdd,Int.reduceEq,Int.reduceLT,Int.reduceLE,reduceCtorEq,Nat.reduceLeDiff,Nat.reduceSub,Nat.reduceLT,hlay2]
    rw [← ep,eapp']
    simp only [EX,reduceIte,Nat.reduceEqDiff,Nat.reduceAdd,Int.reduceEq,Int.reduceLT,Int.reduceLE,reduceCtorEq,Nat.reduceLeDiff,Nat.reduceSub,Nat.reduceLT,f7]
    rw [est']
    simp only [EX,reduceIte,Nat.reduceEqDiff,Nat.reduceAdd,Int.reduceEq,Int.reduceLT,Int.reduceLE,reduceCtorEq,Nat.reduceLeDiff,Nat.reduceSub,Nat.reduceLT,f9,i_add,hw]
    exact hr' _ ⟨by simp only [V_S,Nat.reduceEqDiff,reduceIte]; exact f0,by simp only [V_S,Nat.reduceEqDiff,reduceIte]; exact f1,by simp only [V_S,Nat.reduceEqDiff,reduceIte]; exact f4,by simp only [V_S,Nat.reduceEqDiff,reduceIte]; exact f5,by simp only [V_S,Nat.reduceEqDiff,reduceIte]; exact f6,by simp only [V_S,Nat.reduceEqDiff,reduceIte]; exact f7,by simp only [V_S,Nat.reduceEqDiff,reduceIte]⟩
 obtain ⟨H',⟨x',lo,L⟩,⟨A,hlo,hr,K⟩,e⟩:=G
 exact ⟨H',x',lo,L,A,hlo,hr,K,e⟩
end Go.Proofs.YtmmmjhkgjmbfaaaDoor
