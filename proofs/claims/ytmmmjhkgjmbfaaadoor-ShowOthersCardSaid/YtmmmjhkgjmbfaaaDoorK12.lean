/- A verified interpreter of the model's code, and what the functions that show schemas and entities tell by it: part 12 (S57, S58, S59, S60, S61). No condition but those that each statement bears. -/
import Derived.Test.YtmmmjhkgjmbfaaaDoorK11
import Derived.Test.YtmmmjhkgjmbfaaaDoorRows
set_option linter.unusedVariables false
set_option linter.unusedSimpArgs false
set_option linter.unusedSectionVars false
set_option linter.constructorNameAsVariable false
set_option linter.unnecessarySimpa false
/- A schema (chancellaw5.Schema): its kinds,its actions,the whole. -/
namespace Go.Proofs.YtmmmjhkgjmbfaaaDoor
open Go Go.Vai
set_option maxRecDepth 100000
set_option maxHeartbeats 1600000
set_option linter.unusedSimpArgs false
/-- A raw kind's,a raw action's cells. -/
def KiI : DP Unit:=fun S H bs _=>∃ (n : Int) (xp xf : AV) (lp : List Int) (lf : List Unit),bs = [.i .i64 n,xp,xf]∧IntsP S H xp lp∧Lst 4 FiP S H xf lf
theorem kiI : Mov 3 KiI:=by
 refine ⟨?_,?_,?_⟩
 ·rintro S S' H H' bs _ hs hn ⟨n,xp,xf,lp,lf,h1,h2,h3⟩
  exact ⟨n,xp,xf,lp,lf,h1,h2.mv hs hn,h3.mv fiP hs hn⟩
 ·rintro S H bs _ ⟨n,xp,xf,lp,lf,rfl,_⟩; rfl
 ·rintro S H bs _ ⟨n,xp,xf,lp,lf,rfl,h2,h3⟩ v hv
  simp only [List.mem_cons,List.not_mem_nil,or_false] at hv
  rcases hv with rfl | rfl | rfl
  ·exact ⟨one_i,av1_i⟩
  ·exact h2.1.cell
  ·exact h3.cell
def AcI : DP Unit:=fun S H bs _=>∃ (n : Int) (xp xr : AV) (lp lr : List Int),bs = [.i .i64 n,xp,xr]∧IntsP S H xp lp∧IntsP S H xr lr
theorem acI : Mov 3 AcI:=by
 refine ⟨?_,?_,?_⟩
 ·rintro S S' H H' bs _ hs hn ⟨n,xp,xf,lp,lf,h1,h2,h3⟩
  exact ⟨n,xp,xf,lp,lf,h1,h2.mv hs hn,h3.mv hs hn⟩
 ·rintro S H bs _ ⟨n,xp,xf,lp,lf,rfl,_⟩; rfl
 ·rintro S H bs _ ⟨n,xp,xf,lp,lf,rfl,h2,h3⟩ v hv
  simp only [List.mem_cons,List.not_mem_nil,or_false] at hv
  rcases hv with rfl | rfl | rfl
  ·exact ⟨one_i,av1_i⟩
  ·exact h2.1.cell
  ·exact h3.1.cell
theorem one_3 {s : List UInt8} {x y : AV} (hx : oneC x = true) (hy : oneC y = true) : ∀ v ∈ [str s,x,y],oneC v = true:=by
 intro v hv
 simp only [List.mem_cons,List.not_mem_nil,or_false] at hv
 rcases hv with rfl | rfl | rfl
 ·exact one_str
 ·exact hx
 ·exact hy
theorem one_2 {x y : AV} (hx : oneC x = true) (hy : oneC y = true) : ∀ v ∈ [x,y],oneC v = true:=by
 intro v hv
 simp only [List.mem_cons,List.not_mem_nil,or_false] at hv
 rcases hv with rfl | rfl
 ·exact hx
 ·exact hy
theorem sum_kdn (l : List Int) : sumL (l.map kdn)≤5 * l.length:=sum_map fun a _=>kdn_le a
/-- Names that were kept. -/
theorem Nms.nms {Q : Pa→Prop} {Hm H H' : Heap} {x : AV} {l : List (List UInt8)} (N : Nms Q Hm H x l) {S : Pa→Prop} (hs : ∀ a : Pa,(Hm.next.toN≤a.toN ∨ Q a)→a.toN < H.next.toN→S a∧H'.get a = H.get a) (hn : H.next.toN≤H'.next.toN) (h1 : l.length≤10) (h2 : sumL l≤400) : NmsP S H' x l :=
 ⟨N.strs.mv hs hn,h1,h2⟩
def F11k (x0 x1 : AV) (e4 e5 : Pa) (i : Nat) (fr : Tr AV) : Prop:=V fr 0 = x0∧V fr 1 = x1∧V fr 4 = .p e4 0∧V fr 5 = .p e5 0∧V fr 6 = .i .i64 (i : Int)
theorem loop11k {H00 Hb : Heap} (g00 : Grow H00 Hb) {x0 x1 : AV} {e4 e5 : Pa} {lk : List Unit} (hK : Lst 3 KiI Any H00 x0 lk) (he : H00.next.toN≤e5.toN) (he2 : e5.toN < Hb.next.toN) (hr : Row Hb e5 44 [.ns,.ns]) :
  ∃ H' x' lo L,Acc Hb 71 3 KiP x' lo L H'∧lo.length = min lk.length 5∧Row H' e5 44 [x',.ns]∧KeepBut e5 Hb.next.toN Hb H'∧∀ fr,F11k x0 x1 e4 e5 0 fr→∀ M,1000 + min lk.length 5≤M→∀ (R : Type) (k : XK R) (res : Option R),(∀ fr',F11k x0 x1 e4 e5 (min lk.length 5) fr'→k (.exit 0) fr' H' = res)→runK tbl M R Lp11k fr Hb k = res:=by
 have G:=loop_cps (Lp:=Lp11k) (ex:=0) (n:=min lk.length 5) (c:=1000) (St:=AV × List Ki × List AV) (fun i H st=>Acc Hb 71 3 KiP st.1 st.2.1 st.2.2 H∧st.2.1.length = i∧Row H e5 44 [st.1,.ns]∧KeepBut e5 Hb.next.toN Hb H) (fun i _ fr=>F11k x0 x1 e4 e5 i fr) ?hend ?hstep (min lk.length 5) 0 Hb (.ns,[],[]) (by omega) ⟨Acc.init (Nat.le_refl _),rfl,hr,KeepBut.refl _ _ _⟩
 case hend =>
  rintro H ⟨x',lo,L⟩ ⟨A,hlo,hr,K⟩ fr ⟨f0,f1,f4,f5,f6⟩ M hM R k res hr'
  obtain ⟨m,rfl⟩ : ∃ m,M = m + 100:=⟨M - 100,by omega⟩
  unfold Lp11k
  rw [run_loop]
  by_cases h : lk.length≤5
  ·have hn : ¬ ((min lk.length 5 : Nat) : Int) < (lk.length : Int):=by omega
   simp only [EX,reduceIte,Nat.reduceEqDiff,Nat.reduceAdd,Int.reduceEq,Int.reduceLT,Int.reduceLE,reduceCtorEq,Nat.reduceLeDiff,Nat.reduceSub,Nat.reduceLT,f0,f6,hK.len,hn]
   exact hr' _ ⟨by simp only [V_S,Nat.reduceEqDiff,reduceIte]; exact f0,by simp only [V_S,Nat.reduceEqDiff,reduceIte]; exact f1,by simp only [V_S,Nat.reduceEqDiff,reduceIte]; exact f4,by simp only [V_S,Nat.reduceEqDiff,reduceIte]; exact f5,by simp only [V_S,Nat.reduceEqDiff,reduceIte]; exact f6⟩
  ·have hn : ((min lk.length 5 : Nat) : Int) < (lk.length : Int):=by omega
   have hn2 : ¬ ((min lk.length 5 : Nat) : Int) < 5:=by omega
   simp only [EX,reduceIte,Nat.reduceEqDiff,Nat.reduceAdd,Int.reduceEq,Int.reduceLT,Int.reduceLE,reduceCtorEq,Nat.reduceLeDiff,Nat.reduceSub,Nat.reduceLT,f0,f6,hK.len,hn,hn2]
   exact hr' _ ⟨by simp only [V_S,Nat.reduceEqDiff,reduceIte]; exact f0,by simp only [V_S,Nat.reduceEqDiff,reduceIte]; exact f1,by simp only [V_S,Nat.reduceEqDiff,reduceIte]; exact f4,by simp only [V_S,Nat.reduceEqDiff,reduceIte]; exact f5,by simp only [V_S,Nat.reduceEqDiff,reduceIte]; exact f6⟩
 case hstep =>
  rintro i H ⟨x,lo,L⟩ hi ⟨A,hlo,hr,K⟩
  have A : Acc Hb 71 3 KiP x lo L H:=A
  have hlo : lo.length = i:=hlo
  have hr : Row H e5 44 [x,.ns]:=hr
  have g0:=K.of g00 g00.next he
  have hKn:=K.next
  have h0n:=g0.next
  obtain ⟨a,o,bs,⟨n,xp,xf,lp,lf,rfl,hI,hF⟩,_,eix,eld,_⟩:=hK.at kiI (List.getElem?_eq_getElem (show i < lk.length by omega))
  have ldn : ∀ (R : Type) (k : HK R),ldC false 1 (.p a (o + 0)) k H = k (.i .i64 n) H:=eld H g0 0 (.i .i64 n) rfl
  obtain ⟨H1,g1,e30⟩:=s30 n H
  have n1:=g1.next
  obtain ⟨H2,e2,g2,r2,n2⟩:=box1 71 H1 [str [],.ns,.ns]
  have e2' : H1.alloc (.cells false 0 71 3 (setCells [str [],.ns,.ns] 0 .leaf)) = H2:=e2.symm
  obtain ⟨H3,r3,b3,n3,est3⟩:=r2.st_all (n:=3) (ys:=[str (kdn n),.ns,.ns]) (by omega) rfl rfl (one_3 rfl rfl)
  have g3 : Grow H1 H3:=b3.of g2 (Nat.le_refl _)
  have n3' : H3.next.toN = H2.next.toN:=by rw [n3]
  have G3 : Grow H H3:=g1.trans g3
  obtain ⟨H4,x4,N4,r4,K4,el4⟩:=loop11p (H00:=H00) (Hm:=H3) (g0.trans G3) (Q:=fun _=>False) (x0:=x0) (x1:=x1) (e4:=e4) (e5:=e5) (ii:=i) (a:=a) (o:=o) (xp:=xp) (lp:=lp) eix (fun G g=>eld G g 1 xp rfl) hI.1 (e:=H1.next) (by omega) (by omega) id (cs:=[str (kdn n),.ns,.ns]) rfl (x:=.ns) (l:=[]) (Nat.zero_le _) (Nms.init _ _) r3 rfl
  have r4 : Row H4 H1.next 71 [str (kdn n),x4,.ns]:=r4
  have N4 : Nms (fun _=>False) H3 H4 x4 ((lp.take (min lp.length 3)).map kdn):=N4
  have n4:=K4.next
  have G4 : Grow H H4:=K4.of G3 (by omega) (by omega)
  obtain ⟨H5,x5,l5,L5,A5,hl5,r5,K5,el5⟩:=loop11f (H00:=H00) (Hm:=H4) (g0.trans G4) (x0:=x0) (x1:=x1) (e4:=e4) (e5:=e5) (ii:=i) (a:=a) (o:=o) (xf:=xf) (lf:=lf) eix (fun G g=>eld G g 2 xf rfl) hF (e:=H1.next) (by omega) (by omega) (nm:=kdn n) (xps:=x4) r4
  have n5:=K5.next
  have G5 : Grow H H5:=K5.of G4 (by omega) (by omega)
  have la5:=r5.la 3 rfl
  have m5:=(hr.grow G5 (by omega)).l 0 (v:=x) rfl
  have S5 : ∀ a : Pa,H3.next.toN≤a.toN→a.toN < H4.next.toN→H5.get a = H4.get a:=fun a h hb=>K5.get a hb hb (toN_ne (by omega))
  obtain ⟨H6,e6⟩ : ∃ H6,H6 = H5.alloc (.cells false 0 71 3 (setCells [str (kdn n),x4,x5] 0 .leaf)):=⟨_,rfl⟩
  have g6 : Grow H5 H6:=by rw [e6]; exact Grow.alloc H5 _
  have r6 : Row H6 H5.next 71 [str (kdn n),x4,x5]:=by rw [e6]; exact Row.new H5 71 [str (kdn n),x4,x5]
  have n6:=g6.next
  have A6:=A.grow kiP (G5.trans g6)
  have hx5 : Lst 4 FlP (fun a=>H4.next.toN≤a.toN) H5 x5 l5:=A5.lst flP fun a h _=>h
  have hlen : ((lp.take (min lp.length 3)).map kdn).length≤3:=by rw [List.length_map,List.length_take]; omega
  have hsum:=sum_kdn (lp.take (min lp.length 3))
  rw [List.length_map] at hlen
  have hki : KiP (Mine Hb x) H6 [str (kdn n),x4,x5] ⟨kdn n,(lp.take (min lp.length 3)).map kdn,l5⟩:=by
   refine ⟨x4,x5,rfl,Nat.le_trans (kdn_le _) (by decide),N4.nms (fun a h hb=>?_) (by omega) (by show ((lp.take (min lp.length 3)).map kdn).length≤10; rw [List.length_map]; omega) (by show sumL _≤400; omega),hx5.mv flP (fun a h hb=>⟨⟨by omega,A.off (Or.inr (by omega))⟩,g6.get a hb⟩) n6,by show l5.length≤4; omega⟩
   have h : H3.next.toN≤a.toN:=h.elim id False.elim
   exact ⟨⟨by omega,A.off (Or.inr (by omega))⟩,by rw [g6.get a (by omega),S5 a h hb]⟩
  have room : (10 * 64 : Nat)≤roomN:=by decide
  obtain ⟨H7,H8,A8,r8,K8,_,eapp,est⟩:=A6.boxed kiP (by decide) (hr.grow (G5.trans g6) (by omega)) he2 (f:=0) (by show 0 < 2; decide) hki (bytes:=64) (by omega)
  have eapp' : ∀ (R : Type) (k : HK R),appendK 71 3 64 x (.sl H5.next 0 1 (some 1) 3) H6 k = k (.sl H6.next 0 (lo.length + (0 + 1)) none 3) H7:=fun R k=>eapp R k _ fun f=>src_all (n:=0 + 1) r6 rfl f
  have est' : ∀ (R : Type) (k : HK R),stC 1 (.p e5 0) (.sl H6.next 0 (lo.length + 1) none 3) k H7 = k un H8:=est
  have hlt : (i : Int) < (lk.length : Int):=by omega
  have hlt5 : (i : Int) < 5:=by omega
  have hw:=inc_i (show i < 1000 by omega)
  refine ⟨H8,(_,lo ++ [_],L ++ _),⟨A8,by show (lo ++ [_]).length = i + 1; rw [List.length_append,hlo]; rfl,r8,(K.trans (Grow.kb (G5.trans g6) e5 Hb.next.toN)).trans K8⟩,?_⟩
  rintro fr ⟨f0,f1,f4,f5,f6⟩ M hM R k res hr'
  obtain ⟨m,rfl⟩ : ∃ m,M = m + 1000:=⟨M - 1000,by omega⟩
  unfold Lp11k
  rw [run_loop]
  simp only [EX,reduceIte,Nat.reduceEqDiff,Nat.reduceAdd,Int.reduceEq,Int.reduceLT,Int.reduceLE,reduceCtorEq,Nat.reduceLeDiff,Nat.reduceSub,Nat.reduceLT,f0,f6,hK.len,hlt,hlt5,eix,ldn]
  rw [e30 _ (by omega)]
  simp only [EX,reduceIte,Nat.reduceEqDiff,Nat.reduceAdd,Int.reduceEq,Int.reduceLT,Int.reduceLE,reduceCtorEq,Nat.reduceLeDiff,Nat.reduceSub,Nat.reduceLT]
  rw [e2']
  refine (est3 _ _).trans ?_
  simp only [EX,reduceIte,Nat.reduceEqDiff,Nat.reduceAdd,Int.reduceEq,Int.reduceLT,Int.reduceLE,reduceCtorEq,Nat.reduceLeDiff,Nat.reduceSub,Nat.reduceLT]
  refine el4 _ ?ff _ ?hm R _ _ ?ee
  case ff=>exact ⟨by simp only [V_S,Nat.reduceEqDiff,reduceIte]; exact f0,by simp only [V_S,Nat.reduceEqDiff,reduceIte]; exact f1,by simp only [V_S,Nat.reduceEqDiff,reduceIte]; exact f4,by simp only [V_S,Nat.reduceEqDiff,reduceIte]; exact f5,by simp only [V_S,Nat.reduceEqDiff,reduceIte]; exact f6,by simp only [V_S,Nat.reduceEqDiff,reduceIte],by (simp only [V_S,Nat.reduceEqDiff,reduceIte]) <;> rfl⟩
  case hm=>omega
  case ee =>
   rintro fr2 ⟨c0,c1,c4,c5,c6,c7,c8⟩
   simp only [EX,reduceIte,Nat.reduceEqDiff,Nat.reduceAdd,Int.reduceEq,Int.reduceLT,Int.reduceLE,reduceCtorEq,Nat.reduceLeDiff,Nat.reduceSub,Nat.reduceLT]
   refine el5 _ ?ff2 _ ?hm2 R _ _ ?ee2
   case ff2=>exact ⟨by simp only [V_S,Nat.reduceEqDiff,reduceIte]; exact c0,by simp only [V_S,Nat.reduceEqDiff,reduceIte]; exact c1,by simp only [V_S,Nat.reduceEqDiff,reduceIte]; exact c4,by simp only [V_S,Nat.reduceEqDiff,reduceIte]; exact c5,by simp only [V_S,Nat.reduceEqDiff,reduceIte]; exact c6,by simp only [V_S,Nat.reduceEqDiff,reduceIte]; exact c7,by (simp only [V_S,Nat.reduceEqDiff,reduceIte]) <;> rfl⟩
   case hm2=>omega
   case ee2 =>
    rintro fr3 ⟨d0,d1,d4,d5,d6,d7,d9⟩
    simp only [EX,reduceIte,Nat.reduceEqDiff,Nat.reduceAdd,Int.reduceEq,Int.reduceLT,Int.reduceLE,reduceCtorEq,Nat.reduceLeDiff,Nat.reduceSub,Nat.reduceLT,d5,m5,d7,la5]
    rw [fill_agn ?fa ?fb]
    case fa=>rfl
    case fb=>show 0 + 3≤3; omega
    simp only [EX,reduceIte,Nat.reduceEqDiff,Nat.reduceAdd,Int.reduceEq,Int.reduceLT,Int.reduceLE,reduceCtorEq,Nat.reduceLeDiff,Nat.reduceSub,Nat.reduceLT]
    rw [lay_all (by rfl),show ([str (kdn n),x4,x5] : List AV).length = 3 from rfl,← e6,eapp']
    simp only [EX,reduceIte,Nat.reduceEqDiff,Nat.reduceAdd,Int.reduceEq,Int.reduceLT,Int.reduceLE,reduceCtorEq,Nat.reduceLeDiff,Nat.reduceSub,Nat.reduceLT,d5]
    rw [est']
    simp only [EX,reduceIte,Nat.reduceEqDiff,Nat.reduceAdd,Int.reduceEq,Int.reduceLT,Int.reduceLE,reduceCtorEq,Nat.reduceLeDiff,Nat.reduceSub,Nat.reduceLT,d6,i_add,hw]
    exact hr' _ ⟨by simp only [V_S,Nat.reduceEqDiff,reduceIte]; exact d0,by simp only [V_S,Nat.reduceEqDiff,reduceIte]; exact d1,by simp only [V_S,Nat.reduceEqDiff,reduceIte]; exact d4,by simp only [V_S,Nat.reduceEqDiff,reduceIte]; exact d5,by simp only [V_S,Nat.reduceEqDiff,reduceIte]⟩
 obtain ⟨H',⟨x',lo,L⟩,⟨A,hlo,hr,K⟩,e⟩:=G
 exact ⟨H',x',lo,L,A,hlo,hr,K,e⟩
end Go.Proofs.YtmmmjhkgjmbfaaaDoor

/- A schema (chancellaw5.Schema): its actions,the whole. -/
namespace Go.Proofs.YtmmmjhkgjmbfaaaDoor
open Go Go.Vai
set_option maxRecDepth 100000
set_option maxHeartbeats 1600000
set_option linter.unusedSimpArgs false
def acns : List (List UInt8):=[[114,101,97,100],[119,114,105,116,101],[111,119,110]]
def acn (a : Int) : List UInt8:=(acns[(a % 3).toNat]?).getD []
theorem acn_at (a : Int) : (acns.map str)[(a % 3).toNat]? = some (str (acn a)):=by
 have h1:=Int.emod_nonneg a (b:=3) (by decide)
 have h2:=Int.emod_lt_of_pos a (b:=3) (by decide)
 unfold acn
 rw [List.getElem?_map,List.getElem?_eq_getElem (by show _ < 3; omega)]; rfl
theorem acn_le (n : Int) : (acn n).length≤40:=by
 have h : ∀ s ∈ acns,s.length≤40:=by decide
 unfold acn
 cases e : acns[(n % 3).toNat]? with
 | none=>exact Nat.zero_le _
 | some s=>exact h s (List.mem_of_getElem? e)
def F11a (x0 x1 : AV) (e4 e5 : Pa) (i : Nat) (fr : Tr AV) : Prop:=V fr 0 = x0∧V fr 1 = x1∧V fr 4 = .p e4 0∧V fr 5 = .p e5 0∧V fr 12 = .i .i64 (i : Int)
theorem loop11a {H00 Hb : Heap} (g00 : Grow H00 Hb) {x0 x1 xk : AV} {e4 e5 : Pa} {lk : List Unit} (hK : Lst 3 AcI Any H00 x1 lk) (he : H00.next.toN≤e5.toN) (he2 : e5.toN < Hb.next.toN) (hr : Row Hb e5 44 [xk,.ns]) :
  ∃ H' x' lo L,Acc Hb 81 3 AcP x' lo L H'∧lo.length = min lk.length 5∧Row H' e5 44 [xk,x']∧KeepBut e5 Hb.next.toN Hb H'∧∀ fr,F11a x0 x1 e4 e5 0 fr→∀ M,1000 + min lk.length 5≤M→∀ (R : Type) (k : XK R) (res : Option R),(∀ fr',F11a x0 x1 e4 e5 (min lk.length 5) fr'→k (.exit 6) fr' H' = res)→runK tbl M R Lp11a fr Hb k = res:=by
 have G:=loop_cps (Lp:=Lp11a) (ex:=6) (n:=min lk.length 5) (c:=1000) (St:=AV × List Ac × List AV) (fun i H st=>Acc Hb 81 3 AcP st.1 st.2.1 st.2.2 H∧st.2.1.length = i∧Row H e5 44 [xk,st.1]∧KeepBut e5 Hb.next.toN Hb H) (fun i _ fr=>F11a x0 x1 e4 e5 i fr) ?hend ?hstep (min lk.length 5) 0 Hb (.ns,[],[]) (by omega) ⟨Acc.init (Nat.le_refl _),rfl,hr,KeepBut.refl _ _ _⟩
 case hend =>
  rintro H ⟨x',lo,L⟩ ⟨A,hlo,hr,K⟩ fr ⟨f0,f1,f4,f5,f12⟩ M hM R k res hr'
  obtain ⟨m,rfl⟩ : ∃ m,M = m + 100:=⟨M - 100,by omega⟩
  unfold Lp11a
  rw [run_loop]
  by_cases h : lk.length≤5
  ·have hn : ¬ ((min lk.length 5 : Nat) : Int) < (lk.length : Int):=by omega
   simp only [EX,reduceIte,Nat.reduceEqDiff,Nat.reduceAdd,Int.reduceEq,Int.reduceLT,Int.reduceLE,reduceCtorEq,Nat.reduceLeDiff,Nat.reduceSub,Nat.reduceLT,f1,f12,hK.len,hn]
   exact hr' _ ⟨by simp only [V_S,Nat.reduceEqDiff,reduceIte]; exact f0,by simp only [V_S,Nat.reduceEqDiff,reduceIte]; exact f1,by simp only [V_S,Nat.reduceEqDiff,reduceIte]; exact f4,by simp only [V_S,Nat.reduceEqDiff,reduceIte]; exact f5,by simp only [V_S,Nat.reduceEqDiff,reduceIte]; exact f12⟩
  ·have hn : ((min lk.length 5 : Nat) : Int) < (lk.length : Int):=by omega
   have hn2 : ¬ ((min lk.length 5 : Nat) : Int) < 5:=by omega
   simp only [EX,reduceIte,Nat.reduceEqDiff,Nat.reduceAdd,Int.reduceEq,Int.reduceLT,Int.reduceLE,reduceCtorEq,Nat.reduceLeDiff,Nat.reduceSub,Nat.reduceLT,f1,f12,hK.len,hn,hn2]
   exact hr' _ ⟨by simp only [V_S,Nat.reduceEqDiff,reduceIte]; exact f0,by simp only [V_S,Nat.reduceEqDiff,reduceIte]; exact f1,by simp only [V_S,Nat.reduceEqDiff,reduceIte]; exact f4,by simp only [V_S,Nat.reduceEqDiff,reduceIte]; exact f5,by simp only [V_S,Nat.reduceEqDiff,reduceIte]; exact f12⟩
 case hstep =>
  rintro i H ⟨x,lo,L⟩ hi ⟨A,hlo,hr,K⟩
  have A : Acc Hb 81 3 AcP x lo L H:=A
  have hlo : lo.length = i:=hlo
  have hr : Row H e5 44 [xk,x]:=hr
  have g0:=K.of g00 g00.next he
  have hKn:=K.next
  have h0n:=g0.next
  obtain ⟨a,o,bs,⟨n,xp,xr,lp,lr,rfl,hI,hJ⟩,_,eix,eld,_⟩:=hK.at acI (List.getElem?_eq_getElem (show i < lk.length by omega))
  obtain ⟨H1,e1,g1,r1,n1⟩:=box1 9 H (acns.map str)
  have e1' : H.alloc (.cells false 0 9 3 (setCells [str [114,101,97,100],str [119,114,105,116,101],str [111,119,110]] 0 .leaf)) = H1:=e1.symm
  have ldn : ∀ (R : Type) (k : HK R),ldC false 1 (.p a (o + 0)) k H1 = k (.i .i64 n) H1:=eld H1 (g0.trans g1) 0 (.i .i64 n) rfl
  have hm0:=Int.emod_nonneg n (b:=3) (by decide)
  have hm3:=Int.emod_lt_of_pos n (b:=3) (by decide)
  have eixa : ∀ (R : Type) (k : HK R) (G : Heap),ixaC 1 (.sl H.next 0 3 (some 3) 1) (.i .i64 (n % 3)) k G = k (.p H.next (0 + (n % 3).toNat * 1)) G:=fun R k G=>ixa_sl hm0 (by omega)
  have lda:=r1.l (0 + (n % 3).toNat * 1) (v:=str (acn n)) (by rw [Nat.zero_add,Nat.mul_one]; exact acn_at n)
  obtain ⟨H2,e2,g2,r2,n2⟩:=box1 9 H1 [str [85,115,101,114]]
  have e2' : H1.alloc (.cells false 0 9 1 (setCells [str [85,115,101,114]] 0 .leaf)) = H2:=e2.symm
  obtain ⟨H3,e3,g3,r3,n3⟩:=box1 9 H2 [str [68,111,99]]
  have e3' : H2.alloc (.cells false 0 9 1 (setCells [str [68,111,99]] 0 .leaf)) = H3:=e3.symm
  obtain ⟨H4,e4_,g4,r4,n4⟩:=box1 81 H3 [str [],.ns,.ns]
  have e4' : H3.alloc (.cells false 0 81 3 (setCells [str [],.ns,.ns] 0 .leaf)) = H4:=e4_.symm
  obtain ⟨H5,r5,b5,n5,est5⟩:=r4.st_all (n:=3) (ys:=[str (acn n),.sl H1.next 0 1 (some 1) 1,.sl H2.next 0 1 (some 1) 1]) (by omega) rfl rfl (one_3 one_sl one_sl)
  have g5 : Grow H3 H5:=b5.of g4 (Nat.le_refl _)
  have n5' : H5.next.toN = H4.next.toN:=by rw [n5]
  have G5 : Grow H H5:=(g1.trans g2).trans (g3.trans g5)
  obtain ⟨H6,x6,N6,r6,K6,el6⟩:=loop11q (H00:=H00) (Hm:=H5) (g0.trans G5) (Q:=fun b=>b = H1.next) (x0:=x0) (x1:=x1) (e4:=e4) (e5:=e5) (ii:=i) (a:=a) (o:=o) (xp:=xp) (lp:=lp) eix (fun G g=>eld G g 1 xp rfl) hI.1 (e:=H3.next) (by omega) (by omega) (toN_ne (by omega)) (cs:=[str (acn n),.sl H1.next 0 1 (some 1) 1,.sl H2.next 0 1 (some 1) 1]) rfl (x:=.sl H1.next 0 1 (some 1) 1) (l:=[[85,115,101,114]]) (Nat.le_refl _) (Or.inr ⟨H1.next,_,rfl,rfl,r2.grow (g3.trans g5) (by omega),rfl,by omega,by omega⟩) r5 rfl
  have r6 : Row H6 H3.next 81 [str (acn n),x6,.sl H2.next 0 1 (some 1) 1]:=r6
  have n6:=K6.next
  have G6 : Grow H H6:=K6.of G5 (by omega) (by omega)
  obtain ⟨H7,x7,N7,r7,K7,el7⟩:=loop11r (H00:=H00) (Hm:=H6) (g0.trans G6) (Q:=fun b=>b = H2.next) (x0:=x0) (x1:=x1) (e4:=e4) (e5:=e5) (ii:=i) (a:=a) (o:=o) (xp:=xr) (lp:=lr) eix (fun G g=>eld G g 2 xr rfl) hJ.1 (e:=H3.next) (by omega) (by omega) (toN_ne (by omega)) (cs:=[str (acn n),x6,.sl H2.next 0 1 (some 1) 1]) rfl (x:=.sl H2.next 0 1 (some 1) 1) (l:=[[68,111,99]]) (Nat.le_refl _) (Or.inr ⟨H2.next,_,rfl,rfl,K6.row (r3.grow g5 (by omega)) (by omega) (by omega) (toN_ne (by omega)),rfl,by omega,by omega⟩) r6 rfl
  have r7 : Row H7 H3.next 81 [str (acn n),x6,x7]:=r7
  have n7:=K7.next
  have G7 : Grow H H7:=K7.of G6 (by omega) (by omega)
  have la7:=r7.la 3 rfl
  have m7:=(hr.grow G7 (by omega)).l 1 (v:=x) rfl
  obtain ⟨H8,e8⟩ : ∃ H8,H8 = H7.alloc (.cells false 0 81 3 (setCells [str (acn n),x6,x7] 0 .leaf)):=⟨_,rfl⟩
  have g8 : Grow H7 H8:=by rw [e8]; exact Grow.alloc H7 _
  have r8 : Row H8 H7.next 81 [str (acn n),x6,x7]:=by rw [e8]; exact Row.new H7 81 [str (acn n),x6,x7]
  have n8:=g8.next
  have A8:=A.grow acP (G7.trans g8)
  have hlp : (lp.take (min lp.length 3)).length≤3:=by rw [List.length_take]; omega
  have hlr : (lr.take (min lr.length 3)).length≤3:=by rw [List.length_take]; omega
  have hsp:=sum_kdn (lp.take (min lp.length 3))
  have hsr:=sum_kdn (lr.take (min lr.length 3))
  have hac : AcP (Mine Hb x) H8 [str (acn n),x6,x7] ⟨acn n,[[85,115,101,114]] ++ (lp.take (min lp.length 3)).map kdn,[[68,111,99]] ++ (lr.take (min lr.length 3)).map kdn⟩:=by
   refine ⟨x6,x7,rfl,acn_le n,N6.nms (fun b h hb=>?_) (by omega) ?_ ?_,N7.nms (fun b h hb=>?_) (by omega) ?_ ?_⟩
   ·have h1 : H.next.toN≤b.toN∧b ≠ H3.next:=by
     rcases h with h | rfl
     ·exact ⟨by omega,toN_ne (by omega)⟩
     ·exact ⟨by omega,toN_ne (by omega)⟩
    exact ⟨⟨by omega,A.off (Or.inr h1.1)⟩,by rw [g8.get b (by omega),K7.get b hb hb h1.2]⟩
   ·show ([[85,115,101,114]] ++ (lp.take (min lp.length 3)).map kdn).length≤10
    rw [List.length_append,List.length_map]; show 1 + _≤10; omega
   ·show sumL ([[85,115,101,114]] ++ (lp.take (min lp.length 3)).map kdn)≤400
    rw [sumL_app]; show 4 + _≤400; omega
   ·have h1 : H.next.toN≤b.toN:=by
     rcases h with h | rfl
     ·omega
     ·omega
    exact ⟨⟨by omega,A.off (Or.inr h1)⟩,by rw [g8.get b (by omega)]⟩
   ·show ([[68,111,99]] ++ (lr.take (min lr.length 3)).map kdn).length≤10
    rw [List.length_append,List.length_map]; show 1 + _≤10; omega
   ·show sumL ([[68,111,99]] ++ (lr.take (min lr.length 3)).map kdn)≤400
    rw [sumL_app]; show 3 + _≤400; omega
  have room : (10 * 64 : Nat)≤roomN:=by decide
  obtain ⟨H9,Ht,A9,r9,K9,_,eapp,est⟩:=A8.boxed acP (by decide) (hr.grow (G7.trans g8) (by omega)) he2 (f:=1) (by show 1 < 2; decide) hac (bytes:=64) (by omega)
  have eapp' : ∀ (R : Type) (k : HK R),appendK 81 3 64 x (.sl H7.next 0 1 (some 1) 3) H8 k = k (.sl H8.next 0 (lo.length + (0 + 1)) none 3) H9:=fun R k=>eapp R k _ fun f=>src_all (n:=0 + 1) r8 rfl f
  have est' : ∀ (R : Type) (k : HK R),stC 1 (.p e5 1) (.sl H8.next 0 (lo.length + 1) none 3) k H9 = k un Ht:=est
  have hlt : (i : Int) < (lk.length : Int):=by omega
  have hlt5 : (i : Int) < 5:=by omega
  have hw:=inc_i (show i < 1000 by omega)
  have en1 : H.next.succ = H1.next:=by rw [e1]
  have en2 : H1.next.succ = H2.next:=by rw [e2]
  have en3 : H2.next.succ = H3.next:=by rw [e3]
  refine ⟨Ht,(_,lo ++ [_],L ++ _),⟨A9,by show (lo ++ [_]).length = i + 1; rw [List.length_append,hlo]; rfl,r9,(K.trans (Grow.kb (G7.trans g8) e5 Hb.next.toN)).trans K9⟩,?_⟩
  rintro fr ⟨f0,f1,f4,f5,f12⟩ M hM R k res hr'
  obtain ⟨m,rfl⟩ : ∃ m,M = m + 1000:=⟨M - 1000,by omega⟩
  unfold Lp11a
  rw [run_loop]
  simp only [EX,reduceIte,Nat.reduceEqDiff,Nat.reduceAdd,Int.reduceEq,Int.reduceLT,Int.reduceLE,reduceCtorEq,Nat.reduceLeDiff,Nat.reduceSub,Nat.reduceLT,f1,f12,hK.len,hlt,hlt5,eix]
  rw [e1']
  simp only [EX,reduceIte,Nat.reduceEqDiff,Nat.reduceAdd,Int.reduceEq,Int.reduceLT,Int.reduceLE,reduceCtorEq,Nat.reduceLeDiff,Nat.reduceSub,Nat.reduceLT,ldn]
  rw [s18 (by decide) (by decide) (by omega)]
  simp only [EX,reduceIte,Nat.reduceEqDiff,Nat.reduceAdd,Int.reduceEq,Int.reduceLT,Int.reduceLE,reduceCtorEq,Nat.reduceLeDiff,Nat.reduceSub,Nat.reduceLT,eixa,lda]
  rw [e2',e3',e4',en2,en3]
  refine (est5 _ _).trans ?_
  simp only [EX,reduceIte,Nat.reduceEqDiff,Nat.reduceAdd,Int.reduceEq,Int.reduceLT,Int.reduceLE,reduceCtorEq,Nat.reduceLeDiff,Nat.reduceSub,Nat.reduceLT]
  refine el6 _ ?ff _ ?hm R _ _ ?ee
  case ff=>exact ⟨by simp only [V_S,Nat.reduceEqDiff,reduceIte]; exact f0,by simp only [V_S,Nat.reduceEqDiff,reduceIte]; exact f1,by simp only [V_S,Nat.reduceEqDiff,reduceIte]; exact f4,by simp only [V_S,Nat.reduceEqDiff,reduceIte]; exact f5,by simp only [V_S,Nat.reduceEqDiff,reduceIte]; exact f12,by simp only [V_S,Nat.reduceEqDiff,reduceIte],by (simp only [V_S,Nat.reduceEqDiff,reduceIte]) <;> rfl⟩
  case hm=>omega
  case ee =>
   rintro fr2 ⟨c0,c1,c4,c5,c12,c13,c14⟩
   simp only [EX,reduceIte,Nat.reduceEqDiff,Nat.reduceAdd,Int.reduceEq,Int.reduceLT,Int.reduceLE,reduceCtorEq,Nat.reduceLeDiff,Nat.reduceSub,Nat.reduceLT]
   refine el7 _ ?ff2 _ ?hm2 R _ _ ?ee2
   case ff2=>exact ⟨by simp only [V_S,Nat.reduceEqDiff,reduceIte]; exact c0,by simp only [V_S,Nat.reduceEqDiff,reduceIte]; exact c1,by simp only [V_S,Nat.reduceEqDiff,reduceIte]; exact c4,by simp only [V_S,Nat.reduceEqDiff,reduceIte]; exact c5,by simp only [V_S,Nat.reduceEqDiff,reduceIte]; exact c12,by simp only [V_S,Nat.reduceEqDiff,reduceIte]; exact c13,by (simp only [V_S,Nat.reduceEqDiff,reduceIte]) <;> rfl⟩
   case hm2=>omega
   case ee2 =>
    rintro fr3 ⟨d0,d1,d4,d5,d12,d13,d15⟩
    simp only [EX,reduceIte,Nat.reduceEqDiff,Nat.reduceAdd,Int.reduceEq,Int.reduceLT,Int.reduceLE,reduceCtorEq,Nat.reduceLeDiff,Nat.reduceSub,Nat.reduceLT,d5,m7,d13,la7]
    rw [fill_agn ?fa ?fb]
    case fa=>rfl
    case fb=>show 0 + 3≤3; omega
    simp only [EX,reduceIte,Nat.reduceEqDiff,Nat.reduceAdd,Int.reduceEq,Int.reduceLT,Int.reduceLE,reduceCtorEq,Nat.reduceLeDiff,Nat.reduceSub,Nat.reduceLT]
    rw [lay_all (by rfl),show ([str (acn n),x6,x7] : List AV).length = 3 from rfl,← e8,eapp']
    simp only [EX,reduceIte,Nat.reduceEqDiff,Nat.reduceAdd,Int.reduceEq,Int.reduceLT,Int.reduceLE,reduceCtorEq,Nat.reduceLeDiff,Nat.reduceSub,Nat.reduceLT,d5]
    rw [est']
    simp only [EX,reduceIte,Nat.reduceEqDiff,Nat.reduceAdd,Int.reduceEq,Int.reduceLT,Int.reduceLE,reduceCtorEq,Nat.reduceLeDiff,Nat.reduceSub,Nat.reduceLT,d12,i_add,hw]
    exact hr' _ ⟨by simp only [V_S,Nat.reduceEqDiff,reduceIte]; exact d0,by simp only [V_S,Nat.reduceEqDiff,reduceIte]; exact d1,by simp only [V_S,Nat.reduceEqDiff,reduceIte]; exact d4,by simp only [V_S,Nat.reduceEqDiff,reduceIte]; exact d5,by simp only [V_S,Nat.reduceEqDiff,reduceIte]⟩
 obtain ⟨H',⟨x',lo,L⟩,⟨A,hlo,hr,K⟩,e⟩:=G
 exact ⟨H',x',lo,L,A,hlo,hr,K,e⟩
/-- chancellaw5.Schema -/
theorem s11 {H : Heap} {x0 x1 : AV} {lk la : List Unit} (hk : Lst 3 KiI Any H x0 lk) (ha : Lst 3 AcI Any H x1 la) :
  ∃ bs s H',Grow H H'∧ScP (fun a=>H.next.toN≤a.toN) H' bs s∧∀ M,2000≤M→∀ (R : Type) (k : HK R),callK tbl (runK tbl M) R (toPa 11) [x0,x1] H k = k (.ag bs) H':=by
 obtain ⟨H1,e1,g1,r1,n1⟩:=box1 44 H [.ns,.ns]
 have e1' : H.alloc (.cells false 0 44 2 (setCells [.ns,.ns] 0 .leaf)) = H1:=e1.symm
 obtain ⟨H2,e2,g2,r2,n2⟩:=box1 44 H1 [.ns,.ns]
 have e2' : H1.alloc (.cells false 0 44 2 (setCells [.ns,.ns] 0 .leaf)) = H2:=e2.symm
 have en1 : H.next.succ = H1.next:=by rw [e1]
 obtain ⟨H3,xk,lko,L3,A3,hl3,r3,K3,el3⟩:=loop11k (H00:=H) (Hb:=H2) (g1.trans g2) (x1:=x1) (e4:=H.next) (e5:=H1.next) hk (by omega) (by omega) r2
 have n3:=K3.next
 have G3 : Grow H H3:=K3.of (g1.trans g2) (by omega) (by omega)
 obtain ⟨H4,xa,lao,L4,A4,hl4,r4,K4,el4⟩:=loop11a (H00:=H) (Hb:=H3) G3 (x0:=x0) (xk:=xk) (e4:=H.next) (e5:=H1.next) ha (by omega) (by omega) r3
 have n4:=K4.next
 have G4 : Grow H H4:=K4.of G3 (by omega) (by omega)
 have la4:=r4.la 2 rfl
 have rq : Row H4 H.next 44 [.ns,.ns]:=K4.row (K3.row (r1.grow g2 (by omega)) (by omega) (by omega) (toN_ne (by omega))) (by omega) (by omega) (toN_ne (by omega))
 have hxk : Lst 3 KiP (fun a=>H2.next.toN≤a.toN) H3 xk lko:=A3.lst kiP fun a h _=>h
 have hxa : Lst 3 AcP (fun a=>H2.next.toN≤a.toN) H4 xa lao:=A4.lst acP fun a h _=>by omega
 have hxk4 : Lst 3 KiP (fun a=>H2.next.toN≤a.toN) H4 xk lko:=K4.lst kiP (fun a h hb=>⟨hb,toN_ne (by omega)⟩) hxk
 obtain ⟨H5,r5,b5,n5,est⟩:=rq.st_all (n:=2) (ys:=[xk,xa]) (by omega) rfl rfl (one_2 hxk.cell.1 hxa.cell.1)
 have n5' : H5.next.toN = H4.next.toN:=by rw [n5]
 have la5:=r5.la 2 rfl
 have Fc : ∀ a : Pa,H2.next.toN≤a.toN→a.toN < H4.next.toN→H.next.toN≤a.toN∧H5.get a = H4.get a:=fun a h hb=>⟨by omega,b5.get a hb (toN_ne (by omega))⟩
 refine ⟨[xk,xa],⟨lko,lao⟩,H5,b5.of G4 (by omega),⟨xk,xa,rfl,hxk4.mv kiP Fc (by omega),by show lko.length≤5; omega,hxa.mv acP Fc (by omega),by show lao.length≤5; omega⟩,fun M hM R k=>?_⟩
 obtain ⟨m,rfl⟩ : ∃ m,M = m + 2000:=⟨M - 2000,by omega⟩
 rw [call_eq L11]
 unfold B11
 simp only [EX,reduceIte,Nat.reduceEqDiff,Nat.reduceAdd,Int.reduceEq,Int.reduceLT,Int.reduceLE,reduceCtorEq,Nat.reduceLeDiff,Nat.reduceSub,Nat.reduceLT]
 rw [e1',e2',en1]
 refine el3 _ ?ff _ ?hm R _ _ ?ee
 case ff=>exact ⟨by simp only [V_S,Nat.reduceEqDiff,reduceIte],by simp only [V_S,Nat.reduceEqDiff,reduceIte],by simp only [V_S,Nat.reduceEqDiff,reduceIte],by simp only [V_S,Nat.reduceEqDiff,reduceIte],by (simp only [V_S,Nat.reduceEqDiff,reduceIte]) <;> rfl⟩
 case hm=>omega
 case ee =>
  rintro fr2 ⟨c0,c1,c4,c5,c6⟩
  simp only [EX,reduceIte,Nat.reduceEqDiff,Nat.reduceAdd,Int.reduceEq,Int.reduceLT,Int.reduceLE,reduceCtorEq,Nat.reduceLeDiff,Nat.reduceSub,Nat.reduceLT]
  refine el4 _ ?ff2 _ ?hm2 R _ _ ?ee2
  case ff2=>exact ⟨by simp only [V_S,Nat.reduceEqDiff,reduceIte]; exact c0,by simp only [V_S,Nat.reduceEqDiff,reduceIte]; exact c1,by simp only [V_S,Nat.reduceEqDiff,reduceIte]; exact c4,by simp only [V_S,Nat.reduceEqDiff,reduceIte]; exact c5,by (simp only [V_S,Nat.reduceEqDiff,reduceIte]) <;> rfl⟩
  case hm2=>omega
  case ee2 =>
   rintro fr3 ⟨d0,d1,d4,d5,d12⟩
   simp only [EX,reduceIte,Nat.reduceEqDiff,Nat.reduceAdd,Int.reduceEq,Int.reduceLT,Int.reduceLE,reduceCtorEq,Nat.reduceLeDiff,Nat.reduceSub,Nat.reduceLT,d5,la4,d4]
   refine (est _ _).trans ?_
   simp only [EX,reduceIte,Nat.reduceEqDiff,Nat.reduceAdd,Int.reduceEq,Int.reduceLT,Int.reduceLE,reduceCtorEq,Nat.reduceLeDiff,Nat.reduceSub,Nat.reduceLT,d4,la5]
end Go.Proofs.YtmmmjhkgjmbfaaaDoor

/- The law of schemas and entities (ShowOthers): what it reckons. -/
namespace Go.Proofs.YtmmmjhkgjmbfaaaDoor
open Go Go.Vai
set_option maxRecDepth 100000
set_option maxHeartbeats 1600000
set_option linter.unusedSimpArgs false
theorem put_S5 {d : Nat} {v : AV} {t : Tr AV} : put (some (toPa d)) v t = S t d v:=id rfl
theorem guardK_t5 {R : Type} {x : Option R} : guardK true x = x:=rfl
theorem vB_b5 {R : Type} {t : Bool} {f : Bool→Option R} : vB (.b t) f = f t:=id rfl
/-- A raw entity's cells. -/
def EtI : DP Unit:=fun S H bs _=>∃ (t n : Int) (xp xn xv : AV) (lp ln : List Int) (lv : List Unit),bs = [.i .i64 t,.i .i64 n,xp,xn,xv]∧IntsP S H xp lp∧IntsP S H xn ln∧Lst 4 R3Q S H xv lv
theorem ScP.mv {S S' : Pa→Prop} {H H' : Heap} {bs : List AV} {s : Sc} (hs : ∀ a,S a→a.toN < H.next.toN→S' a∧H'.get a = H.get a) (hn : H.next.toN≤H'.next.toN) (h : ScP S H bs s) : ScP S' H' bs s:=by
 obtain ⟨xk,xa,h1,h2,h3,h4,h5⟩:=h
 exact ⟨xk,xa,h1,h2.mv kiP hs hn,h3,h4.mv acP hs hn,h5⟩
theorem EnP.mv {S S' : Pa→Prop} {H H' : Heap} {bs : List AV} {s : En} (hs : ∀ a,S a→a.toN < H.next.toN→S' a∧H'.get a = H.get a) (hn : H.next.toN≤H'.next.toN) (h : EnP S H bs s) : EnP S' H' bs s:=by
 obtain ⟨xk,xa,h1,h2,h3,h4,h5,h6,h7⟩:=h
 exact ⟨xk,xa,h1,h2,h3,h4.mv uidP hs hn,h5,h6.mv atP hs hn,h7⟩
theorem ScP.ones {S : Pa→Prop} {H : Heap} {bs : List AV} {s : Sc} (h : ScP S H bs s) : bs.length = 2∧(∀ v ∈ bs,oneC v = true)∧avEq (.ag bs) (.ag bs) = true:=by
 obtain ⟨xk,xa,rfl,h2,h3,h4,h5⟩:=h
 refine ⟨rfl,one_2 h2.cell.1 h4.cell.1,avEq_ag fun v hv=>?_⟩
 simp only [List.mem_cons,List.not_mem_nil,or_false] at hv
 rcases hv with rfl | rfl
 ·exact h2.cell.2
 ·exact h4.cell.2
theorem EnP.ones {S : Pa→Prop} {H : Heap} {bs : List AV} {s : En} (h : EnP S H bs s) : bs.length = 4∧(∀ v ∈ bs,oneC v = true)∧avEq (.ag bs) (.ag bs) = true:=by
 obtain ⟨xk,xa,rfl,h2,h3,h4,h5,h6,h7⟩:=h
 refine ⟨rfl,one_4 h4.cell.1 h6.cell.1,avEq_ag fun v hv=>?_⟩
 simp only [List.mem_cons,List.not_mem_nil,or_false] at hv
 rcases hv with rfl | rfl | rfl | rfl
 ·exact av1_str
 ·exact av1_str
 ·exact h4.cell.2
 ·exact h6.cell.2
theorem law5 {H : Heap} (hf : Fresh H) (hG : Gl H) {x0 x1 : AV} {bs : List AV} {lk la : List Unit} (hk : Lst 3 KiI Any H x0 lk) (ha : Lst 3 AcI Any H x1 la) (hx : EtI Any H bs ()) :
  lawK tbl 100000 (toPa 6) (.mk B5 [(.tmp (toPa 6))]) [x0,x1,.ag bs] H = some ():=by
 obtain ⟨t,n,xp,xn,xv,lp,ln,lv,rfl,hp,hn,hv⟩:=hx
 obtain ⟨H1,e1,g1,r1,n1⟩:=box1 40 H [.i .i64 t,.i .i64 n,xp,xn,xv]
 have e1' : H.alloc (.cells false 0 40 5 (setCells [.i .i64 t,.i .i64 n,xp,xn,xv] 0 .leaf)) = H1:=e1.symm
 have gb:=Grow.bump 2 H1
 have nb : (H1.bump 2).next.toN = H1.next.toN + 2:=next_bump
 have hsn : H1.next.succ.toN = H1.next.toN + 1:=Pa.toN_succ _
 have any : ∀ {G : Heap},Grow H G→∀ a : Pa,Any a→a.toN < H.next.toN→Any a∧G.get a = H.get a:=fun g a _ hb=>⟨trivial,g.get a hb⟩
 have G1:=g1.trans gb
 obtain ⟨cs,s,H2,g2,hs,e11⟩:=s11 (H:=H1.bump 2) (hk.grow kiI G1) (ha.grow acI G1)
 have n2:=g2.next
 have G2:=G1.trans g2
 obtain ⟨es,e,H3,g3,he,e12⟩:=s12 (H:=H2) (G2.dead hf) (t:=t) (n:=n) (hp.mv (any G2) G2.next) (hn.mv (any G2) G2.next) (hv.mv r3Q (any G2) G2.next)
 have n3:=g3.next
 obtain ⟨hs2,hs1,hsa⟩:=hs.ones
 obtain ⟨he4,he1,hea⟩:=he.ones
 have lxb:=(r1.grow gb (by omega)).la 5 rfl
 have lx2:=(r1.grow (gb.trans g2) (by omega)).la 5 rfl
 have axe : avEq (.ag [.i .i64 t,.i .i64 n,xp,xn,xv]) (.ag [.i .i64 t,.i .i64 n,xp,xn,xv]) = true:=by
  refine avEq_ag fun w hw=>?_
  simp only [List.mem_cons,List.not_mem_nil,or_false] at hw
  rcases hw with rfl | rfl | rfl | rfl | rfl
  ·exact av1_i
  ·exact av1_i
  ·exact hp.1.cell.2
  ·exact hn.1.cell.2
  ·exact hv.cell.2
 obtain ⟨H4,e4⟩ : ∃ H4,H4 = H3.put H1.next (.cells false 0 44 2 (setCells [.ns,.ns] 0 .leaf)):=⟨_,rfl⟩
 have n4 : H4.next = H3.next:=by rw [e4]
 have g4 : Grow H1 H4:=by rw [e4]; exact (gb.trans (g2.trans g3)).put (Nat.le_refl _) (by omega) _
 have r4 : Row H4 H1.next 44 [.ns,.ns]:=by rw [e4]; exact ⟨_,get_put,fun j _=>cell_at [.ns,.ns] j⟩
 obtain ⟨H5,e5⟩ : ∃ H5,H5 = H4.put H1.next.succ (.cells false 0 49 4 (setCells [str [],str [],.ns,.ns] 0 .leaf)):=⟨_,rfl⟩
 have n5 : H5.next = H4.next:=by rw [e5]
 have g5 : Grow H1 H5:=by rw [e5]; exact g4.put (by omega) (by rw [n4]; omega) _
 have r5 : Row H5 H1.next.succ 49 [str [],str [],.ns,.ns]:=by rw [e5]; exact ⟨_,get_put,fun j _=>cell_at [str [],str [],.ns,.ns] j⟩
 have r45 : Row H5 H1.next 44 [.ns,.ns]:=by
  obtain ⟨c,k1,k2⟩:=r4
  refine ⟨c,?_,k2⟩
  rw [e5,Heap.get_put,if_neg (toN_ne (by omega))]
  exact k1
 obtain ⟨H6,r6,b6,n6,est6⟩:=r45.st_all (n:=2) (ys:=cs) (by rw [n5,n4]; omega) hs2 rfl hs1
 have g6 : Grow H1 H6:=b6.of g5 (by omega)
 obtain ⟨H7,r7,b7,n7,est7⟩:=(r5.but b6 (by rw [n5,n4]; omega) (toN_ne (by omega))).st_all (n:=4) (ys:=es) (by rw [n6,n5,n4]; omega) he4 rfl he1
 have g7 : Grow H1 H7:=b7.of g6 (by omega)
 have n7' : H7.next.toN = H3.next.toN:=by rw [n7,n6,n5,n4]
 have q7:=r6.but b7 (by rw [n6,n5,n4]; omega) (toN_ne (by omega))
 have hkeep : ∀ a : Pa,(H1.bump 2).next.toN≤a.toN→a.toN < H3.next.toN→H7.get a = H3.get a:=by
  intro a h1 h2
  rw [b7.get a (by rw [n6,n5,n4]; omega) (toN_ne (by omega)),b6.get a (by rw [n5,n4]; omega) (toN_ne (by omega)),e5,Heap.get_put,if_neg (toN_ne (by omega)),e4,Heap.get_put,if_neg (toN_ne (by omega))]
 have hs7 : ScP Any H7 cs s:=hs.mv (fun a h hb=>⟨trivial,by rw [hkeep a h (by omega),g3.get a hb]⟩) (by omega)
 have he7 : EnP Any H7 es e:=he.mv (fun a h hb=>⟨trivial,hkeep a (by omega) hb⟩) (by omega)
 have hG7:=hG.grow (g1.trans g7)
 obtain ⟨H8,g8,e13⟩:=s13 hs7
 have l7:=q7.la 2 hs2.symm
 have l8:=(q7.grow g8 (by omega)).la 2 hs2.symm
 have m8:=(r7.grow g8 (by omega)).la 4 he4.symm
 obtain ⟨H9,g9,e14⟩:=s14 (hs7.mv (fun a _ hb=>⟨(trivial : Any a),g8.get a hb⟩) g8.next)
 have G9:=g8.trans g9
 have m9:=(r7.grow G9 (by omega)).la 4 he4.symm
 have m7:=r7.la 4 he4.symm
 obtain ⟨Ha,ga,e15⟩:=s15 (hG7.grow G9) (he7.mv (fun a _ hb=>⟨(trivial : Any a),G9.get a hb⟩) G9.next)
 have Ga:=G9.trans ga
 have ma:=(r7.grow Ga (by omega)).la 4 he4.symm
 obtain ⟨Hb,gb',e16⟩:=s16 (he7.mv (fun a _ hb=>⟨(trivial : Any a),Ga.get a hb⟩) Ga.next)
 have ens : H.next.succ = H1.next:=by rw [e1]
 have est6' : ∀ (R : Type) (k : HK R),stC 2 (.p H1.next 0) (.ag cs) k H5 = k un H6:=est6
 have est7' : ∀ (R : Type) (k : HK R),stC 4 (.p H1.next.succ 0) (.ag es) k H6 = k un H7:=est7
 unfold B5
 show guardK (Pa.same (toPa 6) (toPa 6)) (restK _ _ _ _ _ _ _ _ _ _) = _
 rw [same_id,guardK_t5]
 unfold restK
 rw [argsK_frame]
 simp only [EX,reduceIte,Nat.reduceEqDiff,Nat.reduceAdd,Int.reduceEq,Int.reduceLT,Int.reduceLE,reduceCtorEq,Nat.reduceLeDiff,Nat.reduceSub,Nat.reduceLT,putK_eq,put_S5,evK_eq,vB_b5]
 rw [e1']
 simp only [EX,reduceIte,Nat.reduceEqDiff,Nat.reduceAdd,Int.reduceEq,Int.reduceLT,Int.reduceLE,reduceCtorEq,Nat.reduceLeDiff,Nat.reduceSub,Nat.reduceLT,ens]
 rw [e11 _ (by omega)]
 simp only [EX,reduceIte,Nat.reduceEqDiff,Nat.reduceAdd,Int.reduceEq,Int.reduceLT,Int.reduceLE,reduceCtorEq,Nat.reduceLeDiff,Nat.reduceSub,Nat.reduceLT,lxb,lx2,axe]
 rw [e12 _ (by omega)]
 simp only [EX,reduceIte,Nat.reduceEqDiff,Nat.reduceAdd,Int.reduceEq,Int.reduceLT,Int.reduceLE,reduceCtorEq,Nat.reduceLeDiff,Nat.reduceSub,Nat.reduceLT]
 rw [← e4,← e5,est6']
 simp only [EX,reduceIte,Nat.reduceEqDiff,Nat.reduceAdd,Int.reduceEq,Int.reduceLT,Int.reduceLE,reduceCtorEq,Nat.reduceLeDiff,Nat.reduceSub,Nat.reduceLT]
 rw [est7']
 simp only [EX,reduceIte,Nat.reduceEqDiff,Nat.reduceAdd,Int.reduceEq,Int.reduceLT,Int.reduceLE,reduceCtorEq,Nat.reduceLeDiff,Nat.reduceSub,Nat.reduceLT,bump_0,l7,hsa]
 rw [e13 _ (by omega)]
 simp only [EX,reduceIte,Nat.reduceEqDiff,Nat.reduceAdd,Int.reduceEq,Int.reduceLT,Int.reduceLE,reduceCtorEq,Nat.reduceLeDiff,Nat.reduceSub,Nat.reduceLT,bump_0,l7,l8,hsa]
 rw [e14 _ (by omega)]
 simp only [EX,reduceIte,Nat.reduceEqDiff,Nat.reduceAdd,Int.reduceEq,Int.reduceLT,Int.reduceLE,reduceCtorEq,Nat.reduceLeDiff,Nat.reduceSub,Nat.reduceLT,s_eql,m7,m8,m9,hea]
 rw [e15 _ (by omega)]
 simp only [EX,reduceIte,Nat.reduceEqDiff,Nat.reduceAdd,Int.reduceEq,Int.reduceLT,Int.reduceLE,reduceCtorEq,Nat.reduceLeDiff,Nat.reduceSub,Nat.reduceLT,bump_0,m9,ma,hea]
 rw [e16 _ (by omega)]
 simp only [EX,reduceIte,Nat.reduceEqDiff,Nat.reduceAdd,Int.reduceEq,Int.reduceLT,Int.reduceLE,reduceCtorEq,Nat.reduceLeDiff,Nat.reduceSub,Nat.reduceLT,s_eql]
 exact rfl
end Go.Proofs.YtmmmjhkgjmbfaaaDoor

/- Schemas' and entities' raw data as they are given: laid as blocks that are read alone. -/
namespace Go.Proofs.YtmmmjhkgjmbfaaaDoor
open Go Go.Vai
set_option maxRecDepth 100000
set_option maxHeartbeats 1600000
set_option linter.unusedSimpArgs false
theorem cells2 : Tryd.prog.cellsOf 2 = 1:=by kernel_rfl
theorem cells65 : Tryd.prog.cellsOf 65 = 1:=by kernel_rfl
theorem cells38 : Tryd.prog.cellsOf 38 = 1:=by kernel_rfl
theorem cells73 : Tryd.prog.cellsOf 73 = 4:=by kernel_rfl
theorem cells67 : Tryd.prog.cellsOf 67 = 3:=by kernel_rfl
theorem cells79 : Tryd.prog.cellsOf 79 = 3:=by kernel_rfl
theorem cells88 : Tryd.prog.cellsOf 88 = 4:=by kernel_rfl
theorem cells40 : Tryd.prog.cellsOf 40 = 5:=by kernel_rfl
theorem cells3 : Tryd.prog.cellsOf 3 = 1:=by kernel_rfl
theorem cells22 : Tryd.prog.cellsOf 22 = 1:=by kernel_rfl
section
variable {HT : Type} {enc : TypeId × Value→HT} {W : World} {sp : Nat→Bool}
/-- What is had when some of the input is laid. -/
structure Laid (W : World) (ng : Nat) (ι ι' : Emb) (H H' : Heap) : Prop where
 ext : Ext ι ι'
 g : Grow H H'
 nw : NoWr H'
 r : Rel (keepAll W) ng ι' H' W.heap
theorem Laid.refl {ng : Nat} {ι : Emb} {H : Heap} (R : Rel (keepAll W) ng ι H W.heap) (hw : NoWr H) : Laid W ng ι ι H H:=⟨Ext.refl _,Grow.refl _,hw,R⟩
theorem Laid.trans {ng : Nat} {ι ι' ι'' : Emb} {H H' H'' : Heap} (h : Laid W ng ι ι' H H') (h' : Laid W ng ι' ι'' H' H'') : Laid W ng ι ι'' H H'':=⟨h.ext.trans h'.ext,h.g.trans h'.g,h'.nw,h'.r⟩
def SomeCells (W : World) : Prop:=∃ (b e : Nat) (cs : Array Value) (f : Nat × Nat),W.heap[b]? = some (.cells cs e f)
/-- All places of a slice that is read,its spare ones too. -/
theorem all_read {e : TypeId} {a : Addr} {len cap n : Nat} {elems rest : List (DataW HT × List MemPlace)} (hl : elems.length = len)
  (h1 : ∀ i,i < len→(W.cells? 0 (a.add (i * Tryd.prog.cellsOf e)) (Tryd.prog.cellsOf e)).bind (DataW.trod enc Tryd.prog W 0 (fun _=>true) true n e) = elems[i]?)
  (h2 : rest.length = cap - len∧∀ j,j < cap - len→(W.cells? 0 (a.add ((len + j) * Tryd.prog.cellsOf e)) (Tryd.prog.cellsOf e)).bind (DataW.trod enc Tryd.prog W 0 (fun _=>true) true n e) = rest[j]?) :
  (∀ i,i < cap→∃ l,W.cells? 0 (a.add (i * Tryd.prog.cellsOf e)) (Tryd.prog.cellsOf e) = some l)∧∀ i,i < len→∃ l x,W.cells? 0 (a.add (i * Tryd.prog.cellsOf e)) (Tryd.prog.cellsOf e) = some l∧DataW.trod enc Tryd.prog W 0 (fun _=>true) true n e l = some x:=by
 have q1 : ∀ i,i < len→∃ l x,W.cells? 0 (a.add (i * Tryd.prog.cellsOf e)) (Tryd.prog.cellsOf e) = some l∧DataW.trod enc Tryd.prog W 0 (fun _=>true) true n e l = some x:=by
  intro i hi
  have:=h1 i hi
  rw [List.getElem?_eq_getElem (by omega),Option.bind_eq_some_iff] at this
  obtain ⟨l,e1,e2⟩:=this
  exact ⟨l,_,e1,e2⟩
 refine ⟨fun i hi=>?_,q1⟩
 by_cases hlt : i < len
 ·obtain ⟨l,x,e1,_⟩:=q1 i hlt; exact ⟨l,e1⟩
 ·have:=h2.2 (i - len) (by omega)
  rw [show len + (i - len) = i by omega,List.getElem?_eq_getElem (by omega),Option.bind_eq_some_iff] at this
  obtain ⟨l,e1,_⟩:=this
  exact ⟨l,e1⟩
/-- Numbers. -/
theorem ints_of {n : Nat} : ∀ (ls : List (List Value)),(∀ l ∈ ls,∃ x,DataW.trod enc Tryd.prog W 0 (fun _=>true) true n 3 l = some x)→∃ zs : List Int,zs.length = ls.length∧∀ (i : Nat) (l : List Value),ls[i]? = some l→∃ z,zs[i]? = some z∧l = [Value.int .i64 z]
 | [],_=>⟨[],rfl,fun i l h=>by cases h⟩
 | l :: ls,h=>by
  obtain ⟨zs,h1,h2⟩:=ints_of ls fun x hx=>h x (List.mem_cons_of_mem _ hx)
  obtain ⟨x,hx⟩:=h l (List.mem_cons_self ..)
  obtain ⟨z,hz,_⟩:=DataW.trod_int Tryd.underlying3 hx
  refine ⟨z :: zs,by rw [List.length_cons,List.length_cons,h1],fun i l' hi=>?_⟩
  cases i with
  | zero=>cases hi; exact ⟨z,rfl,hz⟩
  | succ i=>exact h2 i l' hi
/-- The places' cells,in a list. -/
theorem list_of {n : Nat} {f : Nat→Option (List Value)} (h : ∀ i,i < n→∃ l,f i = some l) : ∃ ls : List (List Value),ls.length = n∧∀ (i : Nat) (l : List Value),i < n→f i = some l→ls[i]? = some l:=by
 refine ⟨(List.range n).map fun i=>(f i).getD [],by rw [List.length_map,List.length_range],fun i l hi hf=>?_⟩
 rw [List.getElem?_map,List.getElem?_range hi]
 show some ((f i).getD []) = some l
 rw [hf]; rfl
theorem ints_in (hk : SomeCells W) {ng fuel : Nat} {cs : List Value} {x : DataW HT × List MemPlace} (h : DataW.trod enc Tryd.prog W 0 (fun _=>true) true fuel 22 cs = some x) {ι : Emb} {H : Heap} (R : Rel (keepAll W) ng ι H W.heap) (hw : NoWr H) :
  ∃ (H' : Heap) (ι' : Emb) (xs : AV) (v : Value) (s : List Int),Laid W ng ι ι' H H'∧cs = [v]∧VR ι' xs v∧Ints H' xs s:=by
 rcases DataW.trod_slice Tryd.underlying22 h with ⟨hc,_⟩ | ⟨a,len,cap,elems,rest,n,_,hc,_,_,hlc,_,hl,h1,h2,_⟩
 ·exact ⟨H,ι,.ns,_,[],Laid.refl R hw,hc,rfl,Or.inl ⟨rfl,rfl⟩⟩
 ·obtain ⟨r1,r2⟩:=all_read hl h1 (h2 rfl)
  rw [cells3] at r1 r2
  obtain ⟨ls,k1,k2⟩:=list_of (n:=len) fun i hi=>by obtain ⟨l,x,e1,_⟩:=r2 i hi; exact ⟨l,e1⟩
  obtain ⟨zs,z1,z2⟩:=ints_of (n:=n) (enc:=enc) (W:=W) ls fun l hl2=>by
   obtain ⟨i,hi⟩:=List.mem_iff_getElem?.mp hl2
   have hil : i < len:=by rw [← k1]; exact (List.getElem?_eq_some_iff.mp hi).1
   obtain ⟨l',x,e1,e2⟩:=r2 i hil
   have:=k2 i l' hil e1
   rw [this] at hi; cases hi
   exact ⟨x,e2⟩
  have zz:=fun (l : List AV) (hl3 : l ∈ zs.map fun z=>([.i .i64 z] : List AV))=>(show l.length = 1 by obtain ⟨z,_,rfl⟩:=List.mem_map.mp hl3; rfl)
  have hzl : (zs.map fun z=>([.i .i64 z] : List AV)).length = len:=by rw [List.length_map,z1,k1]
  obtain ⟨ι',x1,x2,x3,x4⟩:=R.slice hw hk (z:=1) (by decide) hlc r1 (ass:=zs.map fun z=>[.i .i64 z]) hzl (fun i l bs hi hl3 hb=>by
   obtain ⟨z,e1,e2⟩:=z2 i l (k2 i l hi hl3)
   rw [List.getElem?_map,e1] at hb
   cases hb
   subst e2
   exact ⟨_,[],rfl,rfl,rfl⟩) zz
  obtain ⟨f1,f2⟩:=flat_at zz
  have hnx:=next_alloc H (.cells true 0 0 (zs.map fun z=>([.i .i64 z] : List AV)).flatten.length (setCells (zs.map fun z=>([.i .i64 z] : List AV)).flatten 0 .leaf))
  refine ⟨_,ι',_,_,zs,⟨x1,Grow.alloc H _,x2,x3⟩,hc,x4,Or.inr ⟨H.next,0,true,0,0,_,_,by rw [z1,k1],by omega,get_alloc H _,by rw [f1,hzl,z1,k1]; omega,fun j hj=>?_⟩⟩
  rw [Nat.zero_add,cell_at]
  have:=f2 j 0 (by decide)
  rw [Nat.mul_one,Nat.add_zero,List.getElem?_map] at this
  rw [this,List.getElem?_eq_getElem hj]; rfl
/-- Things of a type,laid. -/
def InP (enc : TypeId × Value→HT) (W : World) (ng : Nat) (t : TypeId) (P : DP Unit) (n : Nat) : Prop :=
 ∀ cs x,DataW.trod enc Tryd.prog W 0 (fun _=>true) true n t cs = some x→∀ ι H,Rel (keepAll W) ng ι H W.heap→NoWr H→∃ (H' : Heap) (ι' : Emb) (bs : List AV),Laid W ng ι ι' H H'∧VRs ι' bs cs∧P Any H' bs ()
theorem row_in {ng n z : Nat} {t : TypeId} {P : DP Unit} (hP : Mov z P) (ih : InP enc W ng t P n) :
  ∀ (ls : List (List Value)),(∀ l ∈ ls,∃ x,DataW.trod enc Tryd.prog W 0 (fun _=>true) true n t l = some x)→∀ ι H,Rel (keepAll W) ng ι H W.heap→NoWr H →
  ∃ (H' : Heap) (ι' : Emb) (ass : List (List AV)),Laid W ng ι ι' H H'∧ass.length = ls.length∧∀ (i : Nat) (l : List Value),ls[i]? = some l→∃ (bs : List AV),ass[i]? = some bs∧VRs ι' bs l∧P Any H' bs ()
 | [],_,ι,H,R,hw=>⟨H,ι,[],Laid.refl R hw,rfl,fun i l h=>by cases h⟩
 | l :: ls,h,ι,H,R,hw=>by
  obtain ⟨x,hx⟩:=h l (List.mem_cons_self ..)
  obtain ⟨H1,ι1,bs,L1,v1,q1⟩:=ih l x hx ι H R hw
  obtain ⟨H2,ι2,ass,L2,a1,a3⟩:=row_in hP ih ls (fun y hy=>h y (List.mem_cons_of_mem _ hy)) ι1 H1 L1.r L1.nw
  refine ⟨H2,ι2,bs :: ass,L1.trans L2,by rw [List.length_cons,List.length_cons,a1],fun i l' hi=>?_⟩
  cases i with
  | zero=>cases hi; exact ⟨bs,rfl,VRs_mono L2.ext _ _ v1,hP.grow q1 L2.g⟩
  | succ i=>exact a3 i l' hi
/-- A slice of them. -/
theorem slice_in (hk : SomeCells W) {ng fuel z : Nat} {t e : TypeId} {P : DP Unit} (hP : Mov z P) (hz : 0 < z) (ht : Tryd.prog.underlying t = some (.slice e)) (hce : Tryd.prog.cellsOf e = z) (ih : ∀ m,m < fuel→InP enc W ng e P m)
  {cs : List Value} {x : DataW HT × List MemPlace} (h : DataW.trod enc Tryd.prog W 0 (fun _=>true) true fuel t cs = some x) {ι : Emb} {H : Heap} (R : Rel (keepAll W) ng ι H W.heap) (hw : NoWr H) :
  ∃ (H' : Heap) (ι' : Emb) (xs : AV) (v : Value) (l : List Unit),Laid W ng ι ι' H H'∧cs = [v]∧VR ι' xs v∧Lst z P Any H' xs l:=by
 rcases DataW.trod_slice ht h with ⟨hc,_⟩ | ⟨a,len,cap,elems,rest,m,hnm,hc,_,_,hlc,_,hl,k1,k2,_⟩
 ·exact ⟨H,ι,.ns,_,[],Laid.refl R hw,hc,rfl,Or.inl ⟨rfl,rfl⟩⟩
 ·obtain ⟨r1,r2⟩:=all_read hl k1 (k2 rfl)
  rw [hce] at r1 r2
  obtain ⟨ls,l1,l2⟩:=list_of (n:=len) fun i hi=>by obtain ⟨l,x,e1,_⟩:=r2 i hi; exact ⟨l,e1⟩
  obtain ⟨H2,ι2,ass,L2,a1,a3⟩:=row_in hP (ih m (by omega)) ls (fun l hl2=>by
   obtain ⟨i,hi⟩:=List.mem_iff_getElem?.mp hl2
   have hil : i < len:=by rw [← l1]; exact (List.getElem?_eq_some_iff.mp hi).1
   obtain ⟨l',x,e1,e2⟩:=r2 i hil
   have:=l2 i l' hil e1
   rw [this] at hi; cases hi
   exact ⟨x,e2⟩) ι H R hw
  have a4 : ∀ i,i < len→∃ l bs,W.cells? 0 (a.add (i * z)) z = some l∧ass[i]? = some bs∧VRs ι2 bs l∧P Any H2 bs ():=by
   intro i hi
   obtain ⟨l,x,e1,_⟩:=r2 i hi
   obtain ⟨bs,b1,b3,b4⟩:=a3 i l (l2 i l hi e1)
   exact ⟨l,bs,e1,b1,b3,b4⟩
  have a5 : ∀ bs ∈ ass,bs.length = z:=by
   intro bs hbs
   obtain ⟨i,hi⟩:=List.mem_iff_getElem?.mp hbs
   have hil : i < len:=by rw [← l1,← a1]; exact (List.getElem?_eq_some_iff.mp hi).1
   obtain ⟨l,bs',e1,e2,e4,e5⟩:=a4 i hil
   rw [hi] at e2; cases e2
   exact hP.len e5
  obtain ⟨ι3,x1,x2,x3,x4⟩:=L2.r.slice L2.nw hk (z:=z) hz hlc r1 (ass:=ass) (by rw [a1,l1]) (fun i l bs hi hl3 hb=>by
   obtain ⟨l',bs',e1,e2,e4,e5⟩:=a4 i hi
   rw [hl3] at e1; cases e1
   rw [hb] at e2; cases e2
   exact e4) a5
  have L3 : Laid W ng ι2 ι3 H2 (H2.alloc (.cells true 0 0 ass.flatten.length (setCells ass.flatten 0 .leaf))):=⟨x1,Grow.alloc H2 _,x2,x3⟩
  obtain ⟨f1,f2⟩:=flat_at a5
  have hnx:=next_alloc H2 (.cells true 0 0 ass.flatten.length (setCells ass.flatten 0 .leaf))
  have hrl : (List.replicate len ()).length = len:=List.length_replicate
  refine ⟨_,ι3,.sl H2.next 0 len none z,_,List.replicate len (),L2.trans L3,hc,x4,Or.inr ⟨H2.next,0,none,true,0,0,_,_,by rw [hrl],trivial,by omega,get_alloc H2 _,by rw [f1,a1,l1,hrl]; omega,fun j r hj=>?_⟩⟩
  have hjl : j < len:=by rw [← hrl]; exact (List.getElem?_eq_some_iff.mp hj).1
  obtain ⟨l,bs,e1,e2,e4,e5⟩:=a4 j hjl
  have hp : getCells z (0 + j * z) (setCells ass.flatten 0 .leaf) = bs:=by
   have h4 : (j + 1) * z≤ass.flatten.length:=by rw [f1,a1,l1]; exact Nat.mul_le_mul_right z hjl
   rw [Nat.add_mul,Nat.one_mul] at h4
   rw [getCells_part (fun i _=>cell_at ass.flatten i) (by omega),Nat.zero_add]
   exact flat_part a5 e2
  rw [hp]
  exact hP.grow e5 (Grow.alloc H2 _)
theorem lit_i64 {n : Int} (h : (Lit.int .i64 n).wf = true) : I64 n:=by
 have h : (decide (IntKind.i64.min≤n) && decide (n≤IntKind.i64.max)) = true:=h
 rw [Bool.and_eq_true,decide_eq_true_eq,decide_eq_true_eq] at h
 have h1 : (-9223372036854775808 : Int)≤n:=h.1
 have h2 : n≤(9223372036854775807 : Int):=h.2
 exact ⟨h1,by omega⟩
theorem ints_p {H : Heap} {x : AV} {s : List Int} (h : Ints H x s) : IntsP Any H x s:=⟨h,fun _ _ _ _ _ _=>trivial⟩
theorem in73 {ng : Nat} (n0 : Nat) : InP enc W ng 73 FiP n0:=by
 intro cs x h ι H R hw
 obtain ⟨xs,n,hfn,_,hcl,hxl,hf⟩:=DataW.trod_struct Tryd.underlying73 h
 rw [cells73] at hcl
 obtain ⟨c0,c1,c2,c3,rfl⟩ : ∃ c0 c1 c2 c3,cs = [c0,c1,c2,c3]:=by
  match cs,hcl with
  | [c0,c1,c2,c3],_=>exact ⟨c0,c1,c2,c3,rfl⟩
 have hx4 : xs.length = 4:=hxl
 have f0:=hf 0 _ rfl
 have f1:=hf 1 _ rfl
 have f2:=hf 2 _ rfl
 have f3:=hf 3 _ rfl
 rw [List.getElem?_eq_getElem (by omega)] at f0 f1 f2 f3
 have f0 : DataW.trod enc Tryd.prog W 0 (fun _=>true) true n 3 (([c0,c1,c2,c3].drop 0).take (Tryd.prog.cellsOf 3)) = _:=f0
 have f1 : DataW.trod enc Tryd.prog W 0 (fun _=>true) true n 3 (([c0,c1,c2,c3].drop 1).take (Tryd.prog.cellsOf 3)) = _:=f1
 have f2 : DataW.trod enc Tryd.prog W 0 (fun _=>true) true n 3 (([c0,c1,c2,c3].drop 2).take (Tryd.prog.cellsOf 3)) = _:=f2
 have f3 : DataW.trod enc Tryd.prog W 0 (fun _=>true) true n 3 (([c0,c1,c2,c3].drop 3).take (Tryd.prog.cellsOf 3)) = _:=f3
 rw [cells3] at f0
 rw [cells3] at f1
 rw [cells3] at f2
 rw [cells3] at f3
 obtain ⟨z0,h0,_⟩:=DataW.trod_int Tryd.underlying3 f0
 have h0 : [c0] = [.int .i64 z0]:=h0
 cases h0
 obtain ⟨z1,h1,_⟩:=DataW.trod_int Tryd.underlying3 f1
 have h1 : [c1] = [.int .i64 z1]:=h1
 cases h1
 obtain ⟨z2,h2,_⟩:=DataW.trod_int Tryd.underlying3 f2
 have h2 : [c2] = [.int .i64 z2]:=h2
 cases h2
 obtain ⟨z3,h3,_⟩:=DataW.trod_int Tryd.underlying3 f3
 have h3 : [c3] = [.int .i64 z3]:=h3
 cases h3
 exact ⟨H,ι,[.i .i64 z0,.i .i64 z1,.i .i64 z2,.i .i64 z3],Laid.refl R hw,⟨_,_,rfl,rfl,_,_,rfl,rfl,_,_,rfl,rfl,_,_,rfl,rfl,rfl⟩,_,_,_,_,rfl⟩
theorem in67 (hk : SomeCells W) {ng : Nat} (n0 : Nat) : InP enc W ng 67 KiI n0:=by
 intro cs x h ι H R hw
 obtain ⟨xs,n,hfn,_,hcl,hxl,hf⟩:=DataW.trod_struct Tryd.underlying67 h
 rw [cells67] at hcl
 obtain ⟨c0,c1,c2,rfl⟩ : ∃ c0 c1 c2,cs = [c0,c1,c2]:=by
  match cs,hcl with
  | [c0,c1,c2],_=>exact ⟨c0,c1,c2,rfl⟩
 have hx4 : xs.length = 3:=hxl
 have f0:=hf 0 _ rfl
 have f1:=hf 1 _ rfl
 have f2:=hf 2 _ rfl
 rw [List.getElem?_eq_getElem (by omega)] at f0 f1 f2
 have f0 : DataW.trod enc Tryd.prog W 0 (fun _=>true) true n 3 (([c0,c1,c2].drop 0).take (Tryd.prog.cellsOf 3)) = _:=f0
 have f1 : DataW.trod enc Tryd.prog W 0 (fun _=>true) true n 22 (([c0,c1,c2].drop 1).take (Tryd.prog.cellsOf 22)) = _:=f1
 have f2 : DataW.trod enc Tryd.prog W 0 (fun _=>true) true n 65 (([c0,c1,c2].drop 2).take (Tryd.prog.cellsOf 65)) = _:=f2
 rw [cells3] at f0
 rw [cells22] at f1
 rw [cells65] at f2
 obtain ⟨z0,h0,_⟩:=DataW.trod_int Tryd.underlying3 f0
 have h0 : [c0] = [.int .i64 z0]:=h0
 cases h0
 obtain ⟨H1,ι1,vs,v,s,L1,hv,vr,hi⟩:=ints_in hk f1 R hw
 have hv : [c1] = [v]:=hv
 cases hv
 obtain ⟨H2,ι2,vf,w,l,L2,hw2,vr2,hl2⟩:=slice_in hk fiP (by decide) Tryd.underlying65 cells73 (fun m _=>in73 m) f2 L1.r L1.nw
 have hw2 : [c2] = [w]:=hw2
 cases hw2
 exact ⟨H2,ι2,[.i .i64 z0,vs,vf],L1.trans L2,⟨_,_,rfl,rfl,_,_,rfl,VR_mono L2.ext _ _ vr,_,_,rfl,vr2,rfl⟩,z0,vs,vf,s,l,rfl,ints_p (hi.grow L2.g),hl2⟩
theorem in79 (hk : SomeCells W) {ng : Nat} (n0 : Nat) : InP enc W ng 79 AcI n0:=by
 intro cs x h ι H R hw
 obtain ⟨xs,n,hfn,_,hcl,hxl,hf⟩:=DataW.trod_struct Tryd.underlying79 h
 rw [cells79] at hcl
 obtain ⟨c0,c1,c2,rfl⟩ : ∃ c0 c1 c2,cs = [c0,c1,c2]:=by
  match cs,hcl with
  | [c0,c1,c2],_=>exact ⟨c0,c1,c2,rfl⟩
 have hx4 : xs.length = 3:=hxl
 have f0:=hf 0 _ rfl
 have f1:=hf 1 _ rfl
 have f2:=hf 2 _ rfl
 rw [List.getElem?_eq_getElem (by omega)] at f0 f1 f2
 have f0 : DataW.trod enc Tryd.prog W 0 (fun _=>true) true n 3 (([c0,c1,c2].drop 0).take (Tryd.prog.cellsOf 3)) = _:=f0
 have f1 : DataW.trod enc Tryd.prog W 0 (fun _=>true) true n 22 (([c0,c1,c2].drop 1).take (Tryd.prog.cellsOf 22)) = _:=f1
 have f2 : DataW.trod enc Tryd.prog W 0 (fun _=>true) true n 22 (([c0,c1,c2].drop 2).take (Tryd.prog.cellsOf 22)) = _:=f2
 rw [cells3] at f0
 rw [cells22] at f1
 rw [cells22] at f2
 obtain ⟨z0,h0,_⟩:=DataW.trod_int Tryd.underlying3 f0
 have h0 : [c0] = [.int .i64 z0]:=h0
 cases h0
 obtain ⟨H1,ι1,vs,v,s,L1,hv,vr,hi⟩:=ints_in hk f1 R hw
 have hv : [c1] = [v]:=hv
 cases hv
 obtain ⟨H2,ι2,vf,w,l,L2,hw2,vr2,hl2⟩:=ints_in hk f2 L1.r L1.nw
 have hw2 : [c2] = [w]:=hw2
 cases hw2
 exact ⟨H2,ι2,[.i .i64 z0,vs,vf],L1.trans L2,⟨_,_,rfl,rfl,_,_,rfl,VR_mono L2.ext _ _ vr,_,_,rfl,vr2,rfl⟩,z0,vs,vf,s,l,rfl,ints_p (hi.grow L2.g),ints_p hl2⟩
theorem Lst.r3 {S : Pa→Prop} {H : Heap} {x : AV} {l : List Unit} (h : Lst 4 R3Q S H x l) : Lst 4 R3P S H x l:=by
 obtain h | ⟨a,off,cp,ro,fz,e,size,c,hx,ha,hb,hg,hl,hd⟩:=h
 ·exact Or.inl h
 ·refine Or.inr ⟨a,off,cp,ro,fz,e,size,c,hx,ha,hb,hg,hl,fun j r hj=>?_⟩
  obtain ⟨op,n,xs,xk,s,lk,h1,h2,h3,h4⟩:=hd j r hj
  exact ⟨op,n,xs,xk,s,h1,h2,h3,h4.cell.1,h4.cell.2⟩
theorem in88 (hk : SomeCells W) {ng : Nat} : ∀ n0,InP enc W ng 88 R3Q n0:=by
 intro n0
 induction n0 using Nat.strongRecOn with
 | ind n0 ih =>
 intro cs x h ι H R hw
 obtain ⟨xs,n,hfn,_,hcl,hxl,hf⟩:=DataW.trod_struct Tryd.underlying88 h
 rw [cells88] at hcl
 obtain ⟨c0,c1,c2,c3,rfl⟩ : ∃ c0 c1 c2 c3,cs = [c0,c1,c2,c3]:=by
  match cs,hcl with
  | [c0,c1,c2,c3],_=>exact ⟨c0,c1,c2,c3,rfl⟩
 have hx4 : xs.length = 4:=hxl
 have f0:=hf 0 _ rfl
 have f1:=hf 1 _ rfl
 have f2:=hf 2 _ rfl
 have f3:=hf 3 _ rfl
 rw [List.getElem?_eq_getElem (by omega)] at f0 f1 f2 f3
 have f0 : DataW.trod enc Tryd.prog W 0 (fun _=>true) true n 3 (([c0,c1,c2,c3].drop 0).take (Tryd.prog.cellsOf 3)) = _:=f0
 have f1 : DataW.trod enc Tryd.prog W 0 (fun _=>true) true n 2 (([c0,c1,c2,c3].drop 1).take (Tryd.prog.cellsOf 2)) = _:=f1
 have f2 : DataW.trod enc Tryd.prog W 0 (fun _=>true) true n 22 (([c0,c1,c2,c3].drop 2).take (Tryd.prog.cellsOf 22)) = _:=f2
 have f3 : DataW.trod enc Tryd.prog W 0 (fun _=>true) true n 38 (([c0,c1,c2,c3].drop 3).take (Tryd.prog.cellsOf 38)) = _:=f3
 rw [cells3] at f0
 rw [cells2] at f1
 rw [cells22] at f2
 rw [cells38] at f3
 obtain ⟨z0,h0,_⟩:=DataW.trod_int Tryd.underlying3 f0
 have h0 : [c0] = [.int .i64 z0]:=h0
 cases h0
 obtain ⟨z1,h1,_,hz1⟩:=DataW.trod_int Tryd.underlying2 f1
 have h1 : [c1] = [.int .i64 z1]:=h1
 cases h1
 obtain ⟨H1,ι1,vs,v,s,L1,hv,vr,hi⟩:=ints_in hk f2 R hw
 have hv : [c2] = [v]:=hv
 cases hv
 obtain ⟨H2,ι2,vf,w,l,L2,hw2,vr2,hl2⟩:=slice_in hk r3Q (by decide) Tryd.underlying38 cells88 (fun m hm=>ih m (by omega)) f3 L1.r L1.nw
 have hw2 : [c3] = [w]:=hw2
 cases hw2
 exact ⟨H2,ι2,[.i .i64 z0,.i .i64 z1,vs,vf],L1.trans L2,⟨_,_,rfl,rfl,_,_,rfl,rfl,_,_,rfl,VR_mono L2.ext _ _ vr,_,_,rfl,vr2,rfl⟩,z0,z1,vs,vf,s,l,rfl,lit_i64 hz1,ints_p (hi.grow L2.g),hl2.r3⟩
theorem in40 (hk : SomeCells W) {ng : Nat} (n0 : Nat) : InP enc W ng 40 EtI n0:=by
 intro cs x h ι H R hw
 obtain ⟨xs,n,hfn,_,hcl,hxl,hf⟩:=DataW.trod_struct Tryd.underlying40 h
 rw [cells40] at hcl
 obtain ⟨c0,c1,c2,c3,c4,rfl⟩ : ∃ c0 c1 c2 c3 c4,cs = [c0,c1,c2,c3,c4]:=by
  match cs,hcl with
  | [c0,c1,c2,c3,c4],_=>exact ⟨c0,c1,c2,c3,c4,rfl⟩
 have hx4 : xs.length = 5:=hxl
 have f0:=hf 0 _ rfl
 have f1:=hf 1 _ rfl
 have f2:=hf 2 _ rfl
 have f3:=hf 3 _ rfl
 have f4:=hf 4 _ rfl
 rw [List.getElem?_eq_getElem (by omega)] at f0 f1 f2 f3 f4
 have f0 : DataW.trod enc Tryd.prog W 0 (fun _=>true) true n 3 (([c0,c1,c2,c3,c4].drop 0).take (Tryd.prog.cellsOf 3)) = _:=f0
 have f1 : DataW.trod enc Tryd.prog W 0 (fun _=>true) true n 3 (([c0,c1,c2,c3,c4].drop 1).take (Tryd.prog.cellsOf 3)) = _:=f1
 have f2 : DataW.trod enc Tryd.prog W 0 (fun _=>true) true n 22 (([c0,c1,c2,c3,c4].drop 2).take (Tryd.prog.cellsOf 22)) = _:=f2
 have f3 : DataW.trod enc Tryd.prog W 0 (fun _=>true) true n 22 (([c0,c1,c2,c3,c4].drop 3).take (Tryd.prog.cellsOf 22)) = _:=f3
 have f4 : DataW.trod enc Tryd.prog W 0 (fun _=>true) true n 38 (([c0,c1,c2,c3,c4].drop 4).take (Tryd.prog.cellsOf 38)) = _:=f4
 rw [cells3] at f0
 rw [cells3] at f1
 rw [cells22] at f2
 rw [cells22] at f3
 rw [cells38] at f4
 obtain ⟨z0,h0,_⟩:=DataW.trod_int Tryd.underlying3 f0
 have h0 : [c0] = [.int .i64 z0]:=h0
 cases h0
 obtain ⟨z1,h1,_⟩:=DataW.trod_int Tryd.underlying3 f1
 have h1 : [c1] = [.int .i64 z1]:=h1
 cases h1
 obtain ⟨H1,ι1,vs,v,s,L1,hv,vr,hi⟩:=ints_in hk f2 R hw
 have hv : [c2] = [v]:=hv
 cases hv
 obtain ⟨H2,ι2,vt,w,s2,L2,hw2,vr2,hi2⟩:=ints_in hk f3 L1.r L1.nw
 have hw2 : [c3] = [w]:=hw2
 cases hw2
 obtain ⟨H3,ι3,vf,w3,l,L3,hw3,vr3,hl3⟩:=slice_in hk r3Q (by decide) Tryd.underlying38 cells88 (fun m _=>in88 hk m) f4 L2.r L2.nw
 have hw3 : [c4] = [w3]:=hw3
 cases hw3
 exact ⟨H3,ι3,[.i .i64 z0,.i .i64 z1,vs,vt,vf],(L1.trans L2).trans L3,⟨_,_,rfl,rfl,_,_,rfl,rfl,_,_,rfl,VR_mono (L2.ext.trans L3.ext) _ _ vr,_,_,rfl,VR_mono L3.ext _ _ vr2,_,_,rfl,vr3,rfl⟩,z0,z1,vs,vt,vf,s,s2,l,rfl,ints_p (hi.grow (L2.g.trans L3.g)),ints_p (hi2.grow L3.g),hl3⟩
end
end Go.Proofs.YtmmmjhkgjmbfaaaDoor

/- What is laid of the program's variables; the chapter's example; the law of schemas and entities,of any that are read. No condition but what is laid. -/
namespace Go.Proofs.YtmmmjhkgjmbfaaaDoor
open Go Go.Vai
set_option maxRecDepth 100000
set_option maxHeartbeats 1600000
def Rows_1 : List Int:=[1,10,100,1000,10000,100000,1000000,10000000,100000000,1000000000,10000000000,100000000000,1000000000000,10000000000000,100000000000000,1000000000000000,10000000000000000,100000000000000000,1000000000000000000,10000000000000000000]
def Rows_3 : List Int:=[0,1,56,2,57,49,28,3,61,58,42,50,38,29,17,4,62,47,59,36,45,43,51,22,53,39,33,30,24,18,12,5,63,55,48,27,60,41,37,16,46,35,44,21,52,32,23,11,54,26,40,15,34,20,31,10,25,14,19,9,13,8,7,6]
def lk : List (Nat × List AV):=[(1,Rows_1.map fun z=>.i .u64 z),(3,Rows_3.map fun z=>.i .u8 z)]
theorem gsz : Tryd.prog.globals.size = 4:=by kernel_rfl
noncomputable def H0 : Heap:=begin_ 4 lk
theorem H0_eq : begin_ Tryd.prog.globals.size lk = H0:=by rw [gsz]; rfl
set_option maxRecDepth 1000000 in
theorem known_run : goK tbl 100000 (toPa 6) [] H0 yesK = some ():=by kernel_rfl
theorem lk_lt : ∀ x ∈ lk,x.1 < Tryd.prog.globals.size:=by
 rw [gsz]; unfold lk
 intro x hx
 simp only [List.mem_cons,List.not_mem_nil,or_false] at hx
 rcases hx with rfl | rfl <;> decide
/-- The chapter's example. -/
theorem known_ok (w : World) (hn : Tryd.prog.globals.size≤w.heap.size) (hl : ∀ x ∈ lk,Knows w x) : Calls Tryd.prog 6 #[] w fun e w'=>e = .returned (.bool true)∧Go.RowKit.Below w.heap.size w w' :=
 walk_of tbl_ok (args:=[]) hn (fun x hx=>⟨lk_lt x hx,hl x hx⟩) (fun _=>rfl) (by rw [H0_eq]; exact known_run)
theorem c5_eq : c5 = .mk B5 [(.tmp (toPa 6))]:=by kernel_rfl
theorem h0_get (p : Pa) : H0.get p = .dead ∨ ∃ x ∈ lk,p = toPa x.1∧H0.get p = .cells true 0 0 x.2.length (setCells x.2 0 .leaf):=by
 rcases begin_get lk .leaf p with h | h
 ·rw [Tr.get_leaf] at h; exact .inl h
 ·exact .inr h
theorem nw0 : NoWr H0:=by
 intro p
 rcases h0_get p with h | ⟨x,_,_,h⟩
 ·rw [h]; rfl
 ·rw [h]; rfl
theorem h0_next : H0.next.toN = 4:=toN_toPa 4
theorem p10_at : ∀ j,j < 20→Rows_1[j]? = some ((10 ^ j : Nat) : Int):=by decide
theorem h0_1 : H0.get (toPa 1) = .cells true 0 0 20 (setCells (Rows_1.map fun z=>.i .u64 z) 0 .leaf):=by kernel_rfl
theorem h0_3 : H0.get (toPa 3) = .cells true 0 0 64 (setCells (Rows_3.map fun z=>.i .u8 z) 0 .leaf):=by kernel_rfl
theorem gl0 : Gl H0:=by
 refine ⟨⟨by rw [h0_next,toN_toPa]; decide,true,0,0,_,h0_1,fun j hj=>?_⟩,⟨by rw [h0_next,toN_toPa]; decide,true,0,0,_,h0_3,?_⟩⟩
 ·rw [cell_at,List.getElem?_map,p10_at j hj]; rfl
 ·rw [cell_at,List.getElem?_map]; rfl
theorem some_cells {W : World} (hl : ∀ x ∈ lk,Knows W x) : SomeCells W:=by
 obtain ⟨cs,e,f,h,_⟩:=hl _ (List.mem_cons_self ..)
 exact ⟨_,e,cs,f,h⟩
/-- THE WALK of ShowOthers. -/
theorem walk5 {HT : Type} {enc : TypeId × Value→HT} {W : World} (hn : Tryd.prog.globals.size≤W.heap.size) (hl : ∀ x ∈ lk,Knows W x) {fu0 fu1 fu2 : Nat} {v0 v1 : Value} {cs : Array Value} {d0 d1 d2 : DataW HT × List MemPlace}
  (h0 : DataW.trod enc Tryd.prog W 0 (fun _=>true) true fu0 36 [v0] = some d0) (h1 : DataW.trod enc Tryd.prog W 0 (fun _=>true) true fu1 37 [v1] = some d1) (h2 : DataW.trod enc Tryd.prog W 0 (fun _=>true) true fu2 40 cs.toList = some d2) :
  Calls Tryd.prog 5 #[v0,v1,.agg cs] W fun e w'=>e = .returned (.bool true)∧Go.RowKit.Below W.heap.size W w':=by
 have R0:=begin_rel (l:=lk) hn fun x hx=>⟨lk_lt x hx,hl x hx⟩
 rw [H0_eq] at R0
 have hk:=some_cells hl
 obtain ⟨H1,ι1,x0,w0,l0,L1,e0,r0,q0⟩:=slice_in hk kiI (by decide) Tryd.underlying36 cells67 (fun m _=>in67 hk m) h0 R0 nw0
 cases e0
 obtain ⟨H2,ι2,x1,w1,l1,L2,e1,r1,q1⟩:=slice_in hk acI (by decide) Tryd.underlying37 cells79 (fun m _=>in79 hk m) h1 L1.r L1.nw
 cases e1
 obtain ⟨H3,ι3,bs,L3,r2,q2⟩:=in40 hk fu2 cs.toList d2 h2 ι2 H2 L2.r L2.nw
 have hG:=gl0.grow ((L1.g.trans L2.g).trans L3.g)
 have hv : VRs ι3 [x0,x1,.ag bs] (#[v0,v1,.agg cs] : Array Value).toList :=
  ⟨_,_,rfl,VR_mono (L2.ext.trans L3.ext) _ _ r0,_,_,rfl,VR_mono L3.ext _ _ r1,_,_,rfl,⟨cs,rfl,r2⟩,rfl⟩
 refine law_on tbl_ok (fuel:=100000) (kn:=6) (args:=[x0,x1,.ag bs]) Tryd.func5 L3.r hn (fun x hx=>⟨lk_lt x hx,hl x hx⟩) hv known_ok ?_
 have e : (compF Tryd.prog Tryd.f5).getD dfl = .mk B5 [(.tmp (toPa 6))]:=c5_eq
 rw [e]
 exact law5 L3.r.freshH hG (q0.grow kiI (L2.g.trans L3.g)) (q1.grow acI L3.g) q2
end Go.Proofs.YtmmmjhkgjmbfaaaDoor
