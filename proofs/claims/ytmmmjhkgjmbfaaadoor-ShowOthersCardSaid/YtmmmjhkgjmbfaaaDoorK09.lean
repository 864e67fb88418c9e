/- A verified interpreter of the model's code, and what the functions that show schemas and entities tell by it: part 9 (S38, S39, S40, S41, S42, S43, S44). No condition but those that each statement bears. -/
import Derived.Test.YtmmmjhkgjmbfaaaDoorK08
set_option linter.unusedVariables false
set_option linter.unusedSimpArgs false
set_option linter.unusedSectionVars false
set_option linter.constructorNameAsVariable false
set_option linter.unnecessarySimpa false
/- strings.Join by line's ends: as by commas. -/
namespace Go.Proofs.YtmmmjhkgjmbfaaaDoor
open Go Go.Vai
set_option maxRecDepth 100000
set_option maxHeartbeats 1600000
set_option linter.unusedSimpArgs false
/-- Texts joined by line's ends. -/
def joinN (l : List (List UInt8)) : List UInt8:=l.flatMap fun s=>[10] ++ s
def joinL : List (List UInt8)→List UInt8
 | []=>[]
 | s :: l=>s ++ joinN l
theorem joinN_len : ∀ l,(joinN l).length = 1 * l.length + sumL l
 | []=>rfl
 | s :: l=>by
  have:=joinN_len l
  show ([10] ++ s ++ joinN l).length = _
  rw [List.length_append,List.length_append,this,sumL_cons]
  have e : (s :: l).length = l.length + 1:=rfl
  have e2 : [(10 : UInt8)].length = 1:=rfl
  omega
theorem joinN_app (l l' : List (List UInt8)) : joinN (l ++ l') = joinN l ++ joinN l':=List.flatMap_append
structure F35c (a : Pa) (o n i t : Nat) (fr : Tr AV) : Prop where
 f5 : V fr 5 = .i .i64 (t : Int)
 f39 : V fr 39 = .sl a o n none 1
 f40 : V fr 40 = .i .i64 (n : Int)
 f41 : V fr 41 = .i .i64 (i : Int)
 f0 : V fr 0 = .sl a o n none 1
 f1 : V fr 1 = str [10]
theorem loop35c {H : Heap} {a : Pa} {l : List (List UInt8)} (hr : Row H a 9 (l.map str)) (hn : l.length≤1000) (hs : 1 * l.length + sumL l≤roomN) {t0 : Nat} (ht0 : t0≤1 * l.length) : ∀ (rest done : List (List UInt8)),done ++ rest = l→∀ fr,F35c a 0 l.length done.length (t0 + sumL done) fr →
  ∃ fr',F35c a 0 l.length l.length (t0 + sumL l) fr'∧∀ M,100 + rest.length≤M→∀ (R : Type) (k : XK R),runK tbl M R Lp35a fr H k = k (.exit 1) fr' H
 | [],done,hd,fr,f=>by
  rw [List.append_nil] at hd
  subst hd
  have f40:=f.f40
  have f41:=f.f41
  refine ⟨?fr1,⟨?p5,?p39,?p40,?p41,?p0,?p1⟩,fun M hM R k=>?e⟩
  case e =>
   obtain ⟨m,rfl⟩ : ∃ m,M = m + 100:=⟨M - 100,by omega⟩
   unfold Lp35a
   rw [run_loop]
   simp only [EX,reduceIte,Nat.reduceEqDiff,Nat.reduceAdd,Int.reduceEq,Int.reduceLT,Int.reduceLE,reduceCtorEq,Nat.reduceLeDiff,Nat.reduceSub,Nat.reduceLT,f40,f41,Int.lt_irrefl]
   with_reducible rfl
  case p5=>simp only [V_S,Nat.reduceEqDiff,reduceIte]; exact f.f5
  case p39=>simp only [V_S,Nat.reduceEqDiff,reduceIte]; exact f.f39
  case p40=>simp only [V_S,Nat.reduceEqDiff,reduceIte]; exact f40
  case p41=>simp only [V_S,Nat.reduceEqDiff,reduceIte]; exact f41
  case p0=>simp only [V_S,Nat.reduceEqDiff,reduceIte]; exact f.f0
  case p1=>simp only [V_S,Nat.reduceEqDiff,reduceIte]; exact f.f1
 | s :: rest,done,hd,fr,f=>by
  have hl : l.length = done.length + rest.length + 1:=by rw [← hd]; simp; omega
  have hsum : sumL l = sumL done + s.length + sumL rest:=by rw [← hd,sumL_app,sumL_cons]; omega
  have hroom : roomN < 4000000000000000000:=by decide
  have hg : (l.map str)[done.length]? = some (str s):=by rw [← hd,List.getElem?_map,List.getElem?_append_right (Nat.le_refl _),Nat.sub_self]; rfl
  have hlt : (done.length : Int) < (l.length : Int):=by omega
  have hov : ¬ IntKind.i64.wrap (9223372036854775807 - ((t0 + sumL done : Nat) : Int)) < (s.length : Int):=by
   rw [show (9223372036854775807 : Int) - ((t0 + sumL done : Nat) : Int) = ((9223372036854775807 - (t0 + sumL done) : Nat) : Int) by omega,wrap_n64 (by omega)]; omega
  have hw1 : IntKind.i64.wrap (((t0 + sumL done : Nat) : Int) + (s.length : Int)) = ((t0 + sumL (done ++ [s]) : Nat) : Int):=by
   rw [sumL_app,sumL_cons,show ((t0 + sumL done : Nat) : Int) + (s.length : Int) = ((t0 + (sumL done + (s.length + sumL [])) : Nat) : Int) by show _ = ((t0 + (sumL done + (s.length + 0)) : Nat) : Int); omega,wrap_n64 (by show t0 + (sumL done + (s.length + 0)) < _; omega)]
  have hw2 : IntKind.i64.wrap ((done.length : Int) + 1) = ((done ++ [s]).length : Int):=by rw [show (done.length : Int) + 1 = ((done ++ [s]).length : Int) by simp,wrap_n64 (by simp; omega)]
  have f5:=f.f5
  have f39:=f.f39
  have f40:=f.f40
  have f41:=f.f41
  have hix : ∀ (R : Type) (k : HK R) (G : Heap),ixaC 1 (.sl a 0 l.length none 1) (.i .i64 (done.length : Int)) k G = k (.p a done.length) G:=by
   intro R k G
   rw [ixa_sl (by omega) (by omega),Int.toNat_natCast,Nat.zero_add,Nat.mul_one]
  have hld:=hr.l done.length hg
  have main : ∃ fr1,F35c a 0 l.length (done ++ [s]).length (t0 + sumL (done ++ [s])) fr1∧∀ M,99≤M→∀ (R : Type) (k : XK R),runK tbl (M + 1) R Lp35a fr H k = runK tbl M R Lp35a fr1 H k:=by
   refine ⟨?fr1b,⟨?p5b,?p39b,?p40b,?p41b,?p0b,?p1b⟩,fun M hM R k=>?eb⟩
   case eb =>
    obtain ⟨m,rfl⟩ : ∃ m,M = m + 99:=⟨M - 99,by omega⟩
    unfold Lp35a
    rw [run_loop]
    simp only [EX,reduceIte,Nat.reduceEqDiff,Nat.reduceAdd,Int.reduceEq,Int.reduceLT,Int.reduceLE,reduceCtorEq,Nat.reduceLeDiff,Nat.reduceSub,Nat.reduceLT,f5,f39,f40,f41,hlt,hix,hld,i_sub,hov,i_add,hw1,hw2]
    with_reducible rfl
   case p5b=>simp only [V_S,Nat.reduceEqDiff,reduceIte]
   case p39b=>simp only [V_S,Nat.reduceEqDiff,reduceIte]; exact f39
   case p40b=>simp only [V_S,Nat.reduceEqDiff,reduceIte]; exact f40
   case p41b=>simp only [V_S,Nat.reduceEqDiff,reduceIte]
   case p0b=>simp only [V_S,Nat.reduceEqDiff,reduceIte]; exact f.f0
   case p1b=>simp only [V_S,Nat.reduceEqDiff,reduceIte]; exact f.f1
  obtain ⟨fr1,f1,e1⟩:=main
  obtain ⟨fr2,f2,e2⟩:=loop35c hr hn hs ht0 rest (done ++ [s]) (by rw [← hd]; simp) fr1 f1
  refine ⟨fr2,f2,fun M hM R k=>?_⟩
  rw [List.length_cons] at hM
  obtain ⟨m,rfl⟩ : ∃ m,M = m + 1:=⟨M - 1,by omega⟩
  rw [e1 m (by omega),e2 m (by omega)]
structure F35d (p a : Pa) (n i : Nat) (fr : Tr AV) : Prop where
 f1 : V fr 1 = str [10]
 f8 : V fr 8 = .p p 0
 f63 : V fr 63 = .sl a 1 n none 1
 f64 : V fr 64 = .i .i64 (n : Int)
 f65 : V fr 65 = .i .i64 (i : Int)
theorem loop35d {H0 : Heap} {p a : Pa} {s0 : List UInt8} {l : List (List UInt8)} (hr : Row H0 a 9 ((s0 :: l).map str)) (ha : a.toN < H0.next.toN) (hn : l.length≤1000) {T : Nat} (hT : (s0 ++ joinN l).length≤T) (hroom : T≤roomN) : ∀ (rest done : List (List UInt8)) (x : AV) (H : Heap),done ++ rest = l→H35b H0 p T (s0 ++ joinN done) x H →
  ∃ x' H',H35b H0 p T (s0 ++ joinN l) x' H'∧∀ fr,F35d p a l.length done.length fr→∃ fr',F35d p a l.length l.length fr'∧∀ M,300 + rest.length≤M→∀ (R : Type) (k : XK R),runK tbl M R Lp35b fr H k = k (.exit 3) fr' H'
 | [],done,x,H,hd,h=>by
  rw [List.append_nil] at hd
  subst hd
  refine ⟨x,H,h,fun fr f=>?_⟩
  have f1:=f.f1
  have f8:=f.f8
  have f63:=f.f63
  have f64:=f.f64
  have f65:=f.f65
  refine ⟨?fr1,⟨?p1,?p8,?p63,?p64,?p65⟩,fun M hM R k=>?e⟩
  case e =>
   obtain ⟨m,rfl⟩ : ∃ m,M = m + 100:=⟨M - 100,by omega⟩
   unfold Lp35b
   rw [run_loop]
   simp only [EX,reduceIte,Nat.reduceEqDiff,Nat.reduceAdd,Int.reduceEq,Int.reduceLT,Int.reduceLE,reduceCtorEq,Nat.reduceLeDiff,Nat.reduceSub,Nat.reduceLT,f64,f65,Int.lt_irrefl]
   with_reducible rfl
  case p1=>simp only [V_S,Nat.reduceEqDiff,reduceIte]; exact f1
  case p8=>simp only [V_S,Nat.reduceEqDiff,reduceIte]; exact f8
  case p63=>simp only [V_S,Nat.reduceEqDiff,reduceIte]; exact f63
  case p64=>simp only [V_S,Nat.reduceEqDiff,reduceIte]; exact f64
  case p65=>simp only [V_S,Nat.reduceEqDiff,reduceIte]; exact f65
 | s :: rest,done,x,H,hd,h=>by
  have hl : l.length = done.length + rest.length + 1:=by rw [← hd]; simp; omega
  have ej : joinN l = joinN done ++ ([10] ++ s) ++ joinN rest:=by
   rw [← hd,joinN_app,List.append_assoc]; rfl
  have hTl : (s0 ++ joinN done ++ [10] ++ s).length≤T:=by
   rw [ej] at hT
   simp only [List.length_append] at hT ⊢
   omega
  obtain ⟨x1,H1,h1,e1⟩:=h.put (t:=[10]) (by rw [List.length_append] at hTl; omega) hroom
  obtain ⟨x2,H2,h2,e2⟩:=h1.put (t:=s) hTl hroom
  have ed : s0 ++ joinN done ++ [10] ++ s = s0 ++ joinN (done ++ [s]):=by rw [joinN_app]; simp [joinN]
  rw [ed] at h2
  obtain ⟨x',H',h',eq'⟩:=loop35d hr ha hn hT hroom rest (done ++ [s]) x2 H2 (by rw [← hd]; simp) h2
  refine ⟨x',H',h',fun fr f=>?_⟩
  have f1:=f.f1
  have f8:=f.f8
  have f63:=f.f63
  have f64:=f.f64
  have f65:=f.f65
  have hg : ((s0 :: l).map str)[1 + done.length]? = some (str s):=by
   rw [Nat.add_comm,List.map_cons,List.getElem?_cons_succ,← hd,List.getElem?_map,List.getElem?_append_right (Nat.le_refl _),Nat.sub_self]; rfl
  have hlt : (done.length : Int) < (l.length : Int):=by omega
  have hix : ∀ (R : Type) (k : HK R) (G : Heap),ixaC 1 (.sl a 1 l.length none 1) (.i .i64 (done.length : Int)) k G = k (.p a (1 + done.length)) G:=by
   intro R k G
   rw [ixa_sl (by omega) (by omega),Int.toNat_natCast,Nat.mul_one]
  have hld:=(hr.grow h.g ha).l (1 + done.length) hg
  have hw2 : IntKind.i64.wrap ((done.length : Int) + 1) = ((done ++ [s]).length : Int):=by rw [show (done.length : Int) + 1 = ((done ++ [s]).length : Int) by simp,wrap_n64 (by simp; omega)]
  obtain ⟨fr',f',er⟩:=eq' (S (S (S (S (S (S (S (S (S (S fr 66 (.b true)) 67 (.p a (1 + done.length))) 68 (str s)) 10 (str s)) 69 (str [10])) 70 (.tu [.i .i64 (([10] : List UInt8).length : Int),.ni])) 71 (str s)) 72 (.tu [.i .i64 (s.length : Int),.ni])) 73 (.i .i64 ((done ++ [s]).length : Int))) 65 (.i .i64 ((done ++ [s]).length : Int))) ⟨by simp only [V_S,Nat.reduceEqDiff,reduceIte]; exact f1,by simp only [V_S,Nat.reduceEqDiff,reduceIte]; exact f8,by simp only [V_S,Nat.reduceEqDiff,reduceIte]; exact f63,by simp only [V_S,Nat.reduceEqDiff,reduceIte]; exact f64,by simp only [V_S,Nat.reduceEqDiff,reduceIte]⟩
  refine ⟨fr',f',fun M hM R k=>?_⟩
  rw [List.length_cons] at hM
  obtain ⟨m,rfl⟩ : ∃ m,M = m + 200:=⟨M - 200,by omega⟩
  unfold Lp35b
  rw [run_loop]
  simp only [EX,reduceIte,Nat.reduceEqDiff,Nat.reduceAdd,Int.reduceEq,Int.reduceLT,Int.reduceLE,reduceCtorEq,Nat.reduceLeDiff,Nat.reduceSub,Nat.reduceLT,f1,f8,f63,f64,f65,hlt,hix,hld]
  rw [e1 _ (by omega)]
  simp only [EX,reduceIte,Nat.reduceEqDiff,Nat.reduceAdd,Int.reduceEq,Int.reduceLT,Int.reduceLE,reduceCtorEq,Nat.reduceLeDiff,Nat.reduceSub,Nat.reduceLT,f1,f8,f63,f64,f65]
  rw [e2 _ (by omega)]
  simp only [EX,reduceIte,Nat.reduceEqDiff,Nat.reduceAdd,Int.reduceEq,Int.reduceLT,Int.reduceLE,reduceCtorEq,Nat.reduceLeDiff,Nat.reduceSub,Nat.reduceLT,f65,i_add,hw2]
  exact er (m + 199) (by omega) R k
/-- strings.Join by line's ends. -/
theorem s35n {l : List (List UInt8)} {H : Heap} {x : AV} (hx : Strs H x l) (hn : l.length≤1000) (hs : 1 * l.length + sumL l≤roomN) : Tells 35 2000 [x,str [10]] H (str (joinL l)):=by
 match l,hx,hn,hs with
 | [],hx,hn,hs =>
  refine ⟨H,Grow.refl H,fun M hM R k=>?_⟩
  obtain ⟨m,rfl⟩ : ∃ m,M = m + 2000:=⟨M - 2000,by omega⟩
  have h0 : ((([] : List (List UInt8)).length : Nat) : Int) = 0:=rfl
  rw [call_eq L35]
  unfold B35
  simp only [EX,reduceIte,Nat.reduceEqDiff,Nat.reduceAdd,Int.reduceEq,Int.reduceLT,Int.reduceLE,reduceCtorEq,Nat.reduceLeDiff,Nat.reduceSub,Nat.reduceLT,hx.len,h0]
  exact rfl
 | [s],hx,hn,hs =>
  obtain ⟨rfl,h⟩ | ⟨a,cp,rfl,_,hr,ha⟩:=hx
  ·cases h
  show Tells 35 2000 [.sl a 0 1 cp 1,str [10]] H (str (s ++ []))
  rw [List.append_nil]
  refine ⟨H,Grow.refl H,fun M hM R k=>?_⟩
  obtain ⟨m,rfl⟩ : ∃ m,M = m + 2000:=⟨M - 2000,by omega⟩
  have c1 : ((1 : Nat) : Int) = 1:=rfl
  have hix : ∀ (R : Type) (k : HK R) (G : Heap),ixaC 1 (.sl a 0 1 cp 1) (.i .i64 0) k G = k (.p a 0) G:=fun R k G=>ixa_sl (by decide) (by decide)
  have hld:=hr.l 0 (v:=str s) rfl
  rw [call_eq L35]
  unfold B35
  simp only [EX,reduceIte,Nat.reduceEqDiff,Nat.reduceAdd,Int.reduceEq,Int.reduceLT,Int.reduceLE,reduceCtorEq,Nat.reduceLeDiff,Nat.reduceSub,Nat.reduceLT,c1,hix,hld]
 | s0 :: s1 :: l,hx,hn,hs =>
  obtain ⟨rfl,h⟩ | ⟨a,cp,rfl,hc,hr,ha⟩:=hx
  ·cases h
  obtain rfl : cp = none:=hc.elim id fun h=>absurd h (by rw [List.length_cons,List.length_cons]; omega)
  obtain ⟨L,hL⟩ : ∃ L,L = s1 :: l:=⟨_,rfl⟩
  rw [← hL] at hr hn hs ⊢
  have hLl : 1≤L.length:=by rw [hL,List.length_cons]; omega
  obtain ⟨n,hn'⟩ : ∃ n,n = (s0 :: L).length:=⟨_,rfl⟩
  have hnL : n = L.length + 1:=by rw [hn']; rfl
  rw [← hn'] at hn hs ⊢
  have hroom : roomN < 4000000000000000000:=by decide
  have hjl : (joinL (s0 :: L)).length = 1 * L.length + sumL (s0 :: L):=by
   show (s0 ++ joinN L).length = _
   rw [List.length_append,joinN_len,sumL_cons]; omega
  obtain ⟨T,hT⟩ : ∃ T,T = 1 * (n - 1) + sumL (s0 :: L):=⟨_,rfl⟩
  have hTj : (s0 ++ joinN L).length = T:=by rw [show s0 ++ joinN L = joinL (s0 :: L) from rfl,hjl,hT,hnL]; rfl
  have hTr : T≤roomN:=by omega
  have ela:=loop35c hr (by rw [← hn']; exact hn) (by rw [← hn']; exact hs) (t0:=1 * (n - 1)) (by omega) (s0 :: L) [] rfl
  rw [← hn'] at ela
  have elaq : ∀ fr,F35c a 0 n 0 (1 * (n - 1)) fr→∀ M,100 + n≤M→∀ (R : Type) (k : XK R) (res : Option R),(∀ fr',F35c a 0 n n T fr'→k (.exit 1) fr' H = res)→runK tbl M R Lp35a fr H k = res:=by
   intro fr f M hM R k res hr
   obtain ⟨fr',f',er⟩:=ela fr f
   rw [er M hM R k,hr fr' (by rw [hT]; exact f')]
  obtain ⟨H1,e1⟩ : ∃ H1,H1 = H.alloc (.cells false 0 105 2 (setCells [.np,.ns] 0 .leaf)):=⟨_,rfl⟩
  have g1 : Grow H H1:=by rw [e1]; exact Grow.alloc H _
  have n1 : H1.next.toN = H.next.toN + 1:=by rw [e1]; exact next_alloc H _
  have r1 : Row H1 H.next 105 [.np,.ns]:=by rw [e1]; exact Row.new H 105 [.np,.ns]
  have b1 : Bd H.next.toN H1 H.next .ns [] 0:=⟨Nat.le_refl _,by omega,(by intro o l c z q; cases q),⟨_,r1,Or.inl rfl⟩,Or.inl ⟨rfl,rfl,rfl⟩⟩
  obtain ⟨H2,x2,c2,b2,e2⟩:=s57 b1 (by omega) hTr
  have h2 : H35b H H.next T [] x2 H2:=⟨c2.of b1 g1 (Nat.le_refl _),b2⟩
  obtain ⟨x3,H3,h3,e3⟩:=h2.put (t:=s0) (by rw [List.nil_append,← hTj,List.length_append]; omega) hTr
  obtain ⟨x4,H4,h4,el4⟩:=loop35d (T:=T) hr ha (by omega) (by omega) hTr L [] x3 H3 rfl (by rw [show joinN [] = [] from rfl,List.append_nil]; exact h3)
  have el4q : ∀ fr,F35d H.next a L.length 0 fr→∀ M,300 + L.length≤M→∀ (R : Type) (k : XK R) (res : Option R),(∀ fr',F35d H.next a L.length L.length fr'→k (.exit 3) fr' H4 = res)→runK tbl M R Lp35b fr H3 k = res:=by
   intro fr f M hM R k res hr
   obtain ⟨fr',f',er⟩:=el4 fr f
   rw [er M hM R k,hr fr' f']
  have hx4 : s0 ++ joinN L ≠ []:=by
   intro h
   have:=congrArg List.length h
   rw [hTj,hT] at this
   have : ([] : List UInt8).length = 0:=rfl
   omega
  obtain ⟨H5,⟨k1,k2,k3⟩,e5⟩:=s59 h4.b (Or.inl hx4) (by omega)
  have g5 : Grow H H5:=⟨Nat.le_trans h4.g.next k1,fun c hc=>by rw [k2 c hc (Nat.lt_of_lt_of_le hc h4.g.next),h4.g.get c hc],fun f=>k3 (h4.g.dead f)⟩
  refine ⟨H5,g5,fun M hM R k=>?_⟩
  obtain ⟨m,rfl⟩ : ∃ m,M = m + 2000:=⟨M - 2000,by omega⟩
  have c0 : ¬ (n : Int) = 0:=by omega
  have c1 : ¬ (n : Int) = 1:=by omega
  have hnn : 2≤n:=by omega
  have c2 : (0 : Int) < ((1 : Nat) : Int):=by decide
  have wn : IntKind.i64.wrap ((n : Int) - 1) = ((n - 1 : Nat) : Int):=by rw [show (n : Int) - 1 = ((n - 1 : Nat) : Int) by omega,wrap_n64 (by omega)]
  have hz : (((n - 1 : Nat)) : Int) ≠ 0:=by omega
  have hq : IntKind.i64.wrap ((9223372036854775807 : Int).tdiv ((n - 1 : Nat) : Int)) = ((9223372036854775807 / (n - 1) : Nat) : Int):=by
   rw [show (9223372036854775807 : Int) = ((9223372036854775807 : Nat) : Int) from rfl,quo_n,wrap_n64 (Nat.lt_of_le_of_lt (Nat.div_le_self _ _) (by decide))]
  have hq2 : ¬ ((9223372036854775807 / (n - 1) : Nat) : Int)≤((1 : Nat) : Int):=by
   have : 3≤9223372036854775807 / (n - 1):=(Nat.le_div_iff_mul_le (by omega)).mpr (by omega)
   show ¬ _≤(1 : Int)
   omega
  have wm : IntKind.i64.wrap (((1 : Nat) : Int) * ((n - 1 : Nat) : Int)) = ((1 * (n - 1) : Nat) : Int):=by
   rw [show ((1 : Nat) : Int) * ((n - 1 : Nat) : Int) = ((1 * (n - 1) : Nat) : Int) by show (1 : Int) * _ = _; omega,wrap_n64 (by omega)]
  have wa : IntKind.i64.wrap (0 + ((1 * (n - 1) : Nat) : Int)) = ((1 * (n - 1) : Nat) : Int):=by rw [Int.zero_add,wrap_n64 (by omega)]
  have hix : ∀ (R : Type) (k : HK R) (G : Heap),ixaC 1 (.sl a 0 n none 1) (.i .i64 0) k G = k (.p a 0) G:=fun R k G=>ixa_sl (by decide) (by omega)
  have hld:=(hr.grow h2.g ha).l 0 (v:=str s0) rfl
  have hsl : ∀ (R : Type) (k : HK R) (G : Heap),sllC 1 (.sl a 0 n none 1) (some (.i .i64 1)) none none k G = k (.sl a 1 L.length none 1) G:=by
   intro R k G
   refine (sll_from (l:=1) (by omega)).trans ?_
   rw [Nat.zero_add,Nat.mul_one,show n - 1 = L.length by omega]
  rw [call_eq L35]
  unfold B35
  simp only [EX,reduceIte,Nat.reduceEqDiff,Nat.reduceAdd,Int.reduceEq,Int.reduceLT,Int.reduceLE,reduceCtorEq,Nat.reduceLeDiff,Nat.reduceSub,Nat.reduceLT,c0,c1,c2,i_sub,wn,i_quo hz,hq,hq2,i_mul,wm,i_add,wa]
  refine elaq _ ?ff _ ?hm R _ _ fun fr' f'=>?ee
  case ff=>exact ⟨by simp only [V_S,Nat.reduceEqDiff,reduceIte],by simp only [V_S,Nat.reduceEqDiff,reduceIte],by simp only [V_S,Nat.reduceEqDiff,reduceIte],by (simp only [V_S,Nat.reduceEqDiff,reduceIte]) <;> rfl,by simp only [V_S,Nat.reduceEqDiff,reduceIte],by simp only [V_S,Nat.reduceEqDiff,reduceIte]⟩
  case hm=>omega
  case ee =>
   have f0:=f'.f0
   have f1:=f'.f1
   have f5:=f'.f5
   simp only [EX,reduceIte,Nat.reduceEqDiff,Nat.reduceAdd,Int.reduceEq,Int.reduceLT,Int.reduceLE,reduceCtorEq,Nat.reduceLeDiff,Nat.reduceSub,Nat.reduceLT,f5]
   rw [← e1,e2 _ (by omega)]
   simp only [EX,reduceIte,Nat.reduceEqDiff,Nat.reduceAdd,Int.reduceEq,Int.reduceLT,Int.reduceLE,reduceCtorEq,Nat.reduceLeDiff,Nat.reduceSub,Nat.reduceLT,f0,hix,hld]
   rw [e3 _ (by omega)]
   simp only [EX,reduceIte,Nat.reduceEqDiff,Nat.reduceAdd,Int.reduceEq,Int.reduceLT,Int.reduceLE,reduceCtorEq,Nat.reduceLeDiff,Nat.reduceSub,Nat.reduceLT,f0,hsl]
   refine el4q _ ?ff2 _ ?hm2 R _ _ fun fr2 f2=>?ee2
   case ff2=>exact ⟨by simp only [V_S,Nat.reduceEqDiff,reduceIte]; exact f1,by simp only [V_S,Nat.reduceEqDiff,reduceIte],by simp only [V_S,Nat.reduceEqDiff,reduceIte],by simp only [V_S,Nat.reduceEqDiff,reduceIte],by (simp only [V_S,Nat.reduceEqDiff,reduceIte]) <;> rfl⟩
   case hm2=>omega
   case ee2 =>
    have f8:=f2.f8
    simp only [EX,reduceIte,Nat.reduceEqDiff,Nat.reduceAdd,Int.reduceEq,Int.reduceLT,Int.reduceLE,reduceCtorEq,Nat.reduceLeDiff,Nat.reduceSub,Nat.reduceLT,f8]
    rw [e5 _ (by omega)]
    simp only [EX,reduceIte,Nat.reduceEqDiff,Nat.reduceAdd,Int.reduceEq,Int.reduceLT,Int.reduceLE,reduceCtorEq,Nat.reduceLeDiff,Nat.reduceSub,Nat.reduceLT]
    exact rfl
end Go.Proofs.YtmmmjhkgjmbfaaaDoor

/- Rows that grow of things in memory; loops told by what a round does. -/
namespace Go.Proofs.YtmmmjhkgjmbfaaaDoor
open Go Go.Vai
set_option maxRecDepth 100000
set_option maxHeartbeats 1600000
set_option linter.unusedSimpArgs false
/-- All is as it was below a place,but for one block. -/
structure KeepBut (e : Pa) (n : Nat) (H H' : Heap) : Prop where
 next : H.next.toN≤H'.next.toN
 get : ∀ a,a.toN < n→a.toN < H.next.toN→a ≠ e→H'.get a = H.get a
 dead : Fresh H→Fresh H'
theorem KeepBut.trans {e : Pa} {n : Nat} {H H' H'' : Heap} (h : KeepBut e n H H') (h' : KeepBut e n H' H'') : KeepBut e n H H'' :=
 ⟨Nat.le_trans h.next h'.next,fun a ha hb hne=>by rw [h'.get a ha (Nat.lt_of_lt_of_le hb h.next) hne,h.get a ha hb hne],fun f=>h'.dead (h.dead f)⟩
theorem KeepBut.refl (e : Pa) (n : Nat) (H : Heap) : KeepBut e n H H:=⟨Nat.le_refl _,fun _ _ _ _=>rfl,id⟩
theorem Grow.kb {H H' : Heap} (g : Grow H H') (e : Pa) (n : Nat) : KeepBut e n H H':=⟨g.next,fun a _ hb _=>g.get a hb,g.dead⟩
theorem KeepBut.of {e : Pa} {n : Nat} {H0 H H' : Heap} (k : KeepBut e n H H') (g : Grow H0 H) (h : H0.next.toN≤n) (he : H0.next.toN≤e.toN) : Grow H0 H' :=
 ⟨Nat.le_trans g.next k.next,fun a ha=>by rw [k.get a (by omega) (by have:=g.next; omega) (by intro q; subst q; omega),g.get a ha],fun f=>k.dead (g.dead f)⟩
theorem KeepBut.row {e : Pa} {n : Nat} {H H' : Heap} (k : KeepBut e n H H') {a : Pa} {t : Nat} {l : List AV} (h : Row H a t l) (ha : a.toN < n) (hb : a.toN < H.next.toN) (hne : a ≠ e) : Row H' a t l:=by
 obtain ⟨c,h1,h2⟩:=h
 exact ⟨c,by rw [k.get a ha hb hne,h1],h2⟩
/-- A slice of things that grows. -/
structure Acc {α : Type} (Hm : Heap) (ee w : Nat) (P : DP α) (x : AV) (l : List α) (L : List AV) (H : Heap) : Prop where
 h : Held Hm H ee w x l.length L
 n : Hm.next.toN≤H.next.toN
 d : ∀ j r,l[j]? = some r→P (Mine Hm x) H ((L.drop (j * w)).take w) r
section
variable {α : Type} {w ee : Nat} {P : DP α} {Hm H : Heap} {x : AV} {l : List α} {L : List AV}
theorem Acc.init {Hm H : Heap} (g : Hm.next.toN≤H.next.toN) : Acc Hm ee w P .ns [] [] H:=⟨Held.init _ _ _ _,g,fun j r h=>by cases h⟩
theorem Acc.mv (hP : Mov w P) {H' : Heap} (A : Acc Hm ee w P x l L H) (hg : ∀ b,Hm.next.toN≤b.toN→b.toN < H.next.toN→H'.get b = H.get b) (hn : H.next.toN≤H'.next.toN) : Acc Hm ee w P x l L H':=by
 refine ⟨?_,Nat.le_trans A.n hn,fun j r hj=>hP.mv (fun a ha hb=>⟨ha,hg a ha.1 hb⟩) hn (A.d j r hj)⟩
 obtain h | ⟨a,hx,hl,⟨c,k1,k2⟩,h0,h1⟩:=A.h
 ·exact Or.inl h
 ·exact Or.inr ⟨a,hx,hl,⟨c,by rw [hg a h0 h1,k1],k2⟩,h0,Nat.lt_of_lt_of_le h1 hn⟩
theorem Acc.grow (hP : Mov w P) {H' : Heap} (A : Acc Hm ee w P x l L H) (g : Grow H H') : Acc Hm ee w P x l L H':=A.mv hP (fun b _ hb=>g.get b hb) g.next
theorem Acc.self (A : Acc Hm ee w P x l L H) : avEq x x = true:=A.h.self
theorem Acc.off (A : Acc Hm ee w P x l L H) {b : Pa} (hb : b.toN < Hm.next.toN ∨ H.next.toN≤b.toN) : Off x b:=A.h.off hb
/-- One more. -/
theorem Acc.app (hP : Mov w P) (hw : 0 < w) (A : Acc Hm ee w P x l L H) {ys : List AV} {r : α} (hr : P (Mine Hm x) H ys r) {bytes : Nat} (hb : (l.length + (0 + 1)) * bytes≤roomN) :
  ∃ H',(∀ b,b.toN < H.next.toN→Off x b→H'.get b = H.get b)∧Keep Hm.next.toN H H'∧H.next.toN < H'.next.toN∧Acc Hm ee w P (.sl H.next 0 (l.length + (0 + 1)) none w) (l ++ [r]) (L ++ ys) H' ∧
   ∀ (R : Type) (k : HK R) (y : AV),(∀ f : Nat→List AV→Option R,srcK w y H f = f (0 + 1) ys)→appendK ee w bytes x y H k = k (.sl H.next 0 (l.length + (0 + 1)) none w) H':=by
 have hyl:=hP.len hr
 obtain ⟨H',k1,k2,k3,k4,k5⟩:=A.h.app3 (n:=0) (bytes:=bytes) (ys:=ys) A.n hw (by omega) (hP.ones hr) hb
 have hL:=A.h.ll
 have off4 : ∀ a : Pa,a.toN < H.next.toN→Off (.sl H.next 0 (l.length + (0 + 1)) none w) a:=by
  intro a ha o l c z q
  cases q; omega
 have e1 : (l ++ [r]).length = l.length + (0 + 1):=by simp
 refine ⟨H',k1,k2,k3,⟨by rw [e1]; exact k4,Nat.le_trans A.n (Nat.le_of_lt k3),fun j r' hj=>?_⟩,k5⟩
 by_cases hji : j < l.length
 ·rw [List.getElem?_append_left hji] at hj
  rw [drop_l hL hji]
  exact hP.mv (fun a ha hb=>⟨⟨ha.1,off4 a hb⟩,k1 a hb ha.2⟩) (Nat.le_of_lt k3) (A.d j r' hj)
 ·have hj':=hj
  rw [List.getElem?_append_right (by omega)] at hj
  have h0 : j - l.length = 0:=by
   have:=(List.getElem?_eq_some_iff.mp hj).1
   rw [List.length_singleton] at this; omega
  rw [h0] at hj
  cases hj
  obtain rfl : j = l.length:=by omega
  rw [drop_r hL hyl]
  exact hP.mv (fun a ha hb=>⟨⟨ha.1,off4 a hb⟩,k1 a hb ha.2⟩) (Nat.le_of_lt k3) hr
/-- One more,in a box's field. -/
theorem Acc.boxed (hP : Mov w P) (hw : 0 < w) (A : Acc Hm ee w P x l L H) {e : Pa} {te f : Nat} {cs : List AV} (re : Row H e te cs) (hem : e.toN < Hm.next.toN) (hf : f < cs.length) {ys : List AV} {r : α} (hr : P (Mine Hm x) H ys r) {bytes : Nat} (hb : (l.length + (0 + 1)) * bytes≤roomN) :
  ∃ H4 H5,Acc Hm ee w P (.sl H.next 0 (l.length + (0 + 1)) none w) (l ++ [r]) (L ++ ys) H5∧Row H5 e te (cs.set f (.sl H.next 0 (l.length + (0 + 1)) none w))∧KeepBut e Hm.next.toN H H5∧(∀ b,b.toN < H.next.toN→b ≠ e→Off x b→H5.get b = H.get b) ∧
   (∀ (R : Type) (k : HK R) (y : AV),(∀ f : Nat→List AV→Option R,srcK w y H f = f (0 + 1) ys)→appendK ee w bytes x y H k = k (.sl H.next 0 (l.length + (0 + 1)) none w) H4) ∧
   ∀ (R : Type) (k : HK R),stC 1 (.p e f) (.sl H.next 0 (l.length + (0 + 1)) none w) k H4 = k un H5:=by
 obtain ⟨H4,k1,k2,k3,A4,eapp⟩:=A.app hP hw hr hb
 have hn:=A.n
 have re4:=re.keep k2 hem (by omega)
 obtain ⟨H5,re5,b5,n5,est⟩:=re4.st_one (off:=f) (v:=.sl H.next 0 (l.length + (0 + 1)) none w) (by omega) hf one_sl
 refine ⟨H4,H5,A4.mv hP (fun b hb _=>b5.get b (by omega) (by intro q; subst q; omega)) b5.next,re5,⟨by rw [n5]; omega,fun a ha hb hne=>?_,fun f=>b5.dead (k2.dead f)⟩,fun b hb hne ho=>?_,eapp,est⟩
 ·rw [b5.get a (by omega) hne,k2.get a ha hb]
 ·rw [b5.get b (by omega) hne,k1 b hb ho]
/-- The slice that has grown,as a thing. -/
theorem Acc.lst (hP : Mov w P) (A : Acc Hm ee w P x l L H) {S : Pa→Prop} (hS : ∀ a : Pa,Hm.next.toN≤a.toN→a.toN < H.next.toN→S a) : Lst w P S H x l:=by
 obtain ⟨rfl,h,_⟩ | ⟨a,rfl,hl,⟨c,k1,k2⟩,h0,h1⟩:=A.h
 ·exact Or.inl ⟨rfl,List.length_eq_zero_iff.mp h⟩
 ·refine Or.inr ⟨a,0,none,_,_,_,_,c,rfl,hS a h0 h1,h1,k1,by omega,fun j r hj=>?_⟩
  have hjl : j < l.length:=(List.getElem?_eq_some_iff.mp hj).1
  have hm : (j + 1) * w≤l.length * w:=Nat.mul_le_mul_right w hjl
  rw [Nat.add_mul,Nat.one_mul] at hm
  rw [getCells_part k2 (by omega),Nat.zero_add]
  exact hP.weak (A.d j r hj) fun a ha hb=>hS a ha.1 hb
end
/-- Texts. -/
def TxP : DP (List UInt8):=fun _ _ bs s=>bs = [str s]
theorem txP : Mov 1 TxP:=⟨fun _ _ h=>h,fun h=>by rw [h]; rfl,fun h v hv=>by rw [h,List.mem_singleton] at hv; subst hv; exact ⟨one_str,av1_str⟩⟩
/-- A slice of texts,from its block's begin on. -/
def StrsP : (Pa→Prop)→Heap→AV→List (List UInt8)→Prop:=fun S H x l =>
 (x = .ns∧l = []) ∨ ∃ a cp,x = .sl a 0 l.length cp 1∧(cp = none ∨ l.length = 1)∧S a∧Row H a 9 (l.map str)∧a.toN < H.next.toN
theorem StrsP.strs {S : Pa→Prop} {H : Heap} {x : AV} {l : List (List UInt8)} (h : StrsP S H x l) : Strs H x l:=by
 obtain h | ⟨a,cp,hx,hc,_,hr,hb⟩:=h
 ·exact Or.inl h
 ·exact Or.inr ⟨a,cp,hx,hc,hr,hb⟩
theorem StrsP.mv {S S' : Pa→Prop} {H H' : Heap} {x : AV} {l : List (List UInt8)} (hs : ∀ a,S a→a.toN < H.next.toN→S' a∧H'.get a = H.get a) (hn : H.next.toN≤H'.next.toN) (h : StrsP S H x l) : StrsP S' H' x l:=by
 obtain h | ⟨a,cp,hx,hc,ha,⟨c,k1,k2⟩,hb⟩:=h
 ·exact Or.inl h
 ·exact Or.inr ⟨a,cp,hx,hc,(hs a ha hb).1,⟨c,by rw [(hs a ha hb).2,k1],k2⟩,Nat.lt_of_lt_of_le hb hn⟩
theorem StrsP.cell {S : Pa→Prop} {H : Heap} {x : AV} {l : List (List UInt8)} (h : StrsP S H x l) : oneC x = true∧avEq1 x x = true:=by
 obtain ⟨rfl,rfl⟩ | ⟨a,cp,rfl,_⟩:=h
 ·exact ⟨rfl,av1_ns⟩
 ·exact ⟨one_sl,av1_sl⟩
theorem rows_txt : ∀ {l : List (List UInt8)} {L : List AV},L.length = l.length→(∀ j r,l[j]? = some r→(L.drop (j * 1)).take 1 = [str r])→L = l.map str
 | [],[],_,_=>rfl
 | s :: l,v :: L,hl,h=>by
  have h0:=h 0 s rfl
  have h0 : [v] = [str s]:=h0
  cases h0
  have:=rows_txt (l:=l) (L:=L) (by simpa using hl) fun j r hj=>by
   have:=h (j + 1) r (by simpa using hj)
   rw [Nat.mul_one] at this ⊢
   exact this
  rw [this]; rfl
theorem Acc.strs {Hm H : Heap} {x : AV} {l : List (List UInt8)} {L : List AV} (A : Acc Hm 9 1 TxP x l L H) {S : Pa→Prop} (hS : ∀ a : Pa,Hm.next.toN≤a.toN→a.toN < H.next.toN→S a) : StrsP S H x l:=by
 have hd:=A.d
 obtain ⟨rfl,h,_⟩ | ⟨a,rfl,hl,hr,h0,h1⟩:=A.h
 ·exact Or.inl ⟨rfl,List.length_eq_zero_iff.mp h⟩
 ·rw [rows_txt (by omega) hd] at hr
  exact Or.inr ⟨a,none,rfl,Or.inl rfl,hS a h0 h1,hr,h1⟩
/-- A loop,by what a round does; told by what comes behind it. -/
theorem loop_gen {Lp : AC} {ex n c : Nat} {St : Type} (Inv : Nat→Heap→St→Prop) (F : Nat→St→Tr AV→Prop)
  (hend : ∀ H st,Inv n H st→∀ fr,F n st fr→∃ fr',F n st fr'∧∀ M,c≤M→∀ (R : Type) (k : XK R),runK tbl M R Lp fr H k = k (.exit ex) fr' H)
  (hstep : ∀ i H st,i < n→Inv i H st→∃ H' st',Inv (i + 1) H' st'∧∀ fr,F i st fr→∃ fr',F (i + 1) st' fr'∧∀ M,c≤M→∀ (R : Type) (k : XK R),runK tbl (M + 1) R Lp fr H k = runK tbl M R Lp fr' H' k) :
  ∀ m i H st,i + m = n→Inv i H st→∃ H' st',Inv n H' st'∧∀ fr,F i st fr→∀ M,c + m≤M→∀ (R : Type) (k : XK R) (res : Option R),(∀ fr',F n st' fr'→k (.exit ex) fr' H' = res)→runK tbl M R Lp fr H k = res:=by
 intro m
 induction m with
 | zero =>
  intro i H st hi inv
  obtain rfl : i = n:=by omega
  refine ⟨H,st,inv,fun fr f M hM R k res hr=>?_⟩
  obtain ⟨fr',f',e⟩:=hend H st inv fr f
  rw [e M (by omega),hr fr' f']
 | succ m ih =>
  intro i H st hi inv
  obtain ⟨H1,st1,inv1,e1⟩:=hstep i H st (by omega) inv
  obtain ⟨H2,st2,inv2,e2⟩:=ih (i + 1) H1 st1 (by omega) inv1
  refine ⟨H2,st2,inv2,fun fr f M hM R k res hr=>?_⟩
  obtain ⟨fr1,f1,q⟩:=e1 fr f
  obtain ⟨M,rfl⟩ : ∃ m,M = m + 1:=⟨M - 1,by omega⟩
  rw [q M (by omega)]
  exact e2 fr1 f1 M (by omega) R k res hr
end Go.Proofs.YtmmmjhkgjmbfaaaDoor

/- Plain values,such as may be (chancellaw3.Plain): some of their kind. -/
namespace Go.Proofs.YtmmmjhkgjmbfaaaDoor
open Go Go.Vai
set_option maxRecDepth 100000
set_option maxHeartbeats 1600000
set_option linter.unusedSimpArgs false
/-- A text of runes,not too many. -/
def Rt (s : List UInt8) : Prop:=∃ l : List Nat,(∀ i ∈ l,i < 25)∧l.length≤30∧s = txt l
theorem rt_le {s : List UInt8} (h : Rt s) : (quoB s).length≤182:=by
 obtain ⟨l,hl,hn,rfl⟩:=h
 rw [quoB_tx hl]
 have:=quo_le hl
 omega
theorem rt_tx {l : List Int} (h : l.length≤30) : Rt (tx l) :=
 ⟨l.map ix,fun i hi=>by obtain ⟨n,_,rfl⟩:=List.mem_map.mp hi; exact ix_lt n,by rw [List.length_map]; exact h,rfl⟩
theorem s39r {H : Heap} (hG : Gl H) {u i : List UInt8} (hu : u.length≤40) (hi : Rt i) : Tells 39 2800 [.ag [str u,str i]] H (str (u ++ [58,58] ++ quoB i)):=by
 have hq:=rt_le hi
 obtain ⟨l,hl,hn,rfl⟩:=hi
 rw [quoB_tx hl] at hq ⊢
 obtain ⟨H1,e1⟩ : ∃ H1,H1 = H.alloc (.cells false 0 29 2 (setCells [str u,str (txt l)] 0 .leaf)):=⟨_,rfl⟩
 have g1 : Grow H H1:=by rw [e1]; exact Grow.alloc H _
 have n1 : H1.next.toN = H.next.toN + 1:=by rw [e1]; exact next_alloc H _
 have r1 : Row H1 H.next 29 [str u,str (txt l)]:=by rw [e1]; exact Row.new H 29 [str u,str (txt l)]
 obtain ⟨H2,g2,e2⟩:=s45 hl (by omega) (hG.2.grow g1)
 have r2:=r1.grow g2 (by omega)
 have l1:=r1.l 1 (v:=str (txt l)) rfl
 have l0:=r1.l 0 (v:=str u) rfl
 have l20:=r2.l 0 (v:=str u) rfl
 have hs:=sMax4
 refine ⟨H2,g1.trans g2,fun M hM R k=>?_⟩
 obtain ⟨m,rfl⟩ : ∃ m,M = m + 2800:=⟨M - 2800,by omega⟩
 rw [call_eq L39]
 unfold B39
 simp only [EX,reduceIte,Nat.reduceEqDiff,Nat.reduceAdd,Int.reduceEq,Int.reduceLT,Int.reduceLE,reduceCtorEq,Nat.reduceLeDiff,Nat.reduceSub,Nat.reduceLT]
 rw [← e1]
 simp only [EX,reduceIte,Nat.reduceEqDiff,Nat.reduceAdd,Int.reduceEq,Int.reduceLT,Int.reduceLE,reduceCtorEq,Nat.reduceLeDiff,Nat.reduceSub,Nat.reduceLT,l1]
 rw [e2 _ (by omega)]
 simp only [EX,reduceIte,Nat.reduceEqDiff,Nat.reduceAdd,Int.reduceEq,Int.reduceLT,Int.reduceLE,reduceCtorEq,Nat.reduceLeDiff,Nat.reduceSub,Nat.reduceLT,l0,l20]
 rw [s_add (by show _ + 2≤_; omega)]
 simp only [EX,reduceIte,Nat.reduceEqDiff,Nat.reduceAdd,Int.reduceEq,Int.reduceLT,Int.reduceLE,reduceCtorEq,Nat.reduceLeDiff,Nat.reduceSub,Nat.reduceLT]
 rw [s_add (by rw [List.length_append]; show _ + 2 + _≤_; omega)]
 simp only [EX,reduceIte,Nat.reduceEqDiff,Nat.reduceAdd,Int.reduceEq,Int.reduceLT,Int.reduceLE,reduceCtorEq,Nat.reduceLeDiff,Nat.reduceSub,Nat.reduceLT]
theorem s52r {H : Heap} {u i : List UInt8} (hu : u.length≤40) (hi : Rt i) : Tells 52 1700 [.ag [str u,str i]] H (str (u ++ [58,58] ++ quoB i)):=by
 have hq:=rt_le hi
 obtain ⟨l,hl,hn,rfl⟩:=hi
 rw [quoB_tx hl] at hq ⊢
 obtain ⟨H1,e1⟩ : ∃ H1,H1 = H.alloc (.cells false 0 29 2 (setCells [str u,str (txt l)] 0 .leaf)):=⟨_,rfl⟩
 have g1 : Grow H H1:=by rw [e1]; exact Grow.alloc H _
 have r1 : Row H1 H.next 29 [str u,str (txt l)]:=by rw [e1]; exact Row.new H 29 [str u,str (txt l)]
 have l1:=r1.l 1 (v:=str (txt l)) rfl
 have l0:=r1.l 0 (v:=str u) rfl
 have hs:=sMax4
 refine ⟨H1,g1,fun M hM R k=>?_⟩
 obtain ⟨m,rfl⟩ : ∃ m,M = m + 1700:=⟨M - 1700,by omega⟩
 rw [call_eq L52]
 unfold B52
 simp only [EX,reduceIte,Nat.reduceEqDiff,Nat.reduceAdd,Int.reduceEq,Int.reduceLT,Int.reduceLE,reduceCtorEq,Nat.reduceLeDiff,Nat.reduceSub,Nat.reduceLT]
 rw [← e1]
 simp only [EX,reduceIte,Nat.reduceEqDiff,Nat.reduceAdd,Int.reduceEq,Int.reduceLT,Int.reduceLE,reduceCtorEq,Nat.reduceLeDiff,Nat.reduceSub,Nat.reduceLT,l1]
 rw [s25q hl (by omega) (by omega)]
 simp only [EX,reduceIte,Nat.reduceEqDiff,Nat.reduceAdd,Int.reduceEq,Int.reduceLT,Int.reduceLE,reduceCtorEq,Nat.reduceLeDiff,Nat.reduceSub,Nat.reduceLT,l0]
 rw [s_add (by show _ + 2≤_; omega)]
 simp only [EX,reduceIte,Nat.reduceEqDiff,Nat.reduceAdd,Int.reduceEq,Int.reduceLT,Int.reduceLE,reduceCtorEq,Nat.reduceLeDiff,Nat.reduceSub,Nat.reduceLT]
 rw [s_add (by rw [List.length_append]; show _ + 2 + _≤_; omega)]
 simp only [EX,reduceIte,Nat.reduceEqDiff,Nat.reduceAdd,Int.reduceEq,Int.reduceLT,Int.reduceLE,reduceCtorEq,Nat.reduceLeDiff,Nat.reduceSub,Nat.reduceLT]
theorem s26r {H : Heap} {u i : List UInt8} (hu : u.length≤40) (hi : Rt i) : Tells 26 1800 [.ag [str u,str i]] H (str (u ++ [58,58] ++ quoB i)):=by
 obtain ⟨H1,e1⟩ : ∃ H1,H1 = H.alloc (.cells false 0 29 2 (setCells [str u,str i] 0 .leaf)):=⟨_,rfl⟩
 have g1 : Grow H H1:=by rw [e1]; exact Grow.alloc H _
 have r1 : Row H1 H.next 29 [str u,str i]:=by rw [e1]; exact Row.new H 29 [str u,str i]
 have la:=r1.la 2 rfl
 obtain ⟨H2,g2,e2⟩:=s52r (H:=H1) hu hi
 refine ⟨H2,g1.trans g2,fun M hM R k=>?_⟩
 obtain ⟨m,rfl⟩ : ∃ m,M = m + 1800:=⟨M - 1800,by omega⟩
 rw [call_eq L26]
 unfold B26
 simp only [EX,reduceIte,Nat.reduceEqDiff,Nat.reduceAdd,Int.reduceEq,Int.reduceLT,Int.reduceLE,reduceCtorEq,Nat.reduceLeDiff,Nat.reduceSub,Nat.reduceLT]
 rw [← e1]
 simp only [EX,reduceIte,Nat.reduceEqDiff,Nat.reduceAdd,Int.reduceEq,Int.reduceLT,Int.reduceLE,reduceCtorEq,Nat.reduceLeDiff,Nat.reduceSub,Nat.reduceLT,la]
 rw [e2 _ (by omega)]
 simp only [EX,reduceIte,Nat.reduceEqDiff,Nat.reduceAdd,Int.reduceEq,Int.reduceLT,Int.reduceLE,reduceCtorEq,Nat.reduceLeDiff,Nat.reduceSub,Nat.reduceLT]
/-- A plain value: a truth,a number,a text,a uid. -/
inductive Pl where
 | b (x : Bool)
 | n (z : Int)
 | s (t : List UInt8)
 | u (t i : List UInt8)
def Pl.op : Pl→Nat
 | .b _=>1
 | .n _=>2
 | .s _=>3
 | .u _ _=>4
def Pl.pb : Pl→Bool
 | .b x=>x
 | _=>false
def Pl.pn : Pl→Int
 | .n z=>z
 | _=>0
def Pl.ps : Pl→List UInt8
 | .s t=>t
 | _=>[]
def Pl.pu : Pl→List UInt8
 | .u t _=>t
 | _=>[]
def Pl.pi : Pl→List UInt8
 | .u _ i=>i
 | _=>[]
def Pl.cs (p : Pl) : List AV:=ec p.op p.pb p.pn p.ps p.pu p.pi .ns
def I64 (z : Int) : Prop:=-9223372036854775808≤z∧z < 9223372036854775808
def Pl.Ok : Pl→Prop
 | .b _=>True
 | .n z=>I64 z
 | .s t=>Rt t
 | .u t i=>t.length≤40∧Rt i
def Pl.tx : Pl→List UInt8
 | .b x=>tru x
 | .n z=>decZ z
 | .s t=>quoB t
 | .u t i=>t ++ [58,58] ++ quoB i
theorem Pl.one (p : Pl) : ∀ v ∈ p.cs,oneC v = true∧avEq1 v v = true:=by
 intro v hv
 simp only [Pl.cs,ec,List.mem_cons,List.not_mem_nil,or_false] at hv
 rcases hv with rfl | rfl | rfl | rfl | rfl | rfl | rfl
 ·exact ⟨rfl,av1_i⟩
 ·exact ⟨one_b,av1_b⟩
 ·exact ⟨one_i,av1_i⟩
 ·exact ⟨one_str,av1_str⟩
 ·exact ⟨one_str,av1_str⟩
 ·exact ⟨one_str,av1_str⟩
 ·exact ⟨rfl,av1_ns⟩
theorem Pl.op_le (p : Pl) : 1≤p.op∧p.op≤4:=by cases p <;> simp [Pl.op]
/-- A plain value's cells. -/
def PlP : DP Pl:=fun _ _ bs p=>p.Ok∧bs = p.cs
theorem plP : Mov 7 PlP:=⟨fun _ _ h=>h,fun h=>by rw [h.2]; rfl,fun h=>by rw [h.2]; exact Pl.one _⟩
def kds : List (List UInt8):=[[85,115,101,114],[71,114,111,117,112],[68,111,99],[84,101,97,109]]
def kdn (a : Int) : List UInt8:=(kds[(a % 4).toNat]?).getD []
theorem kdn_at (a : Int) : (kds.map str)[(a % 4).toNat]? = some (str (kdn a)):=by
 have h1:=Int.emod_nonneg a (b:=4) (by decide)
 have h2:=Int.emod_lt_of_pos a (b:=4) (by decide)
 unfold kdn
 rw [List.getElem?_map,List.getElem?_eq_getElem (by show _ < 4; omega)]; rfl
theorem kdn_le (n : Int) : (kdn n).length≤5:=by
 have h : ∀ s ∈ kds,s.length≤5:=by decide
 unfold kdn
 cases e : kds[(n % 4).toNat]? with
 | none=>exact Nat.zero_le _
 | some s=>exact h s (List.mem_of_getElem? e)
/-- chancellaw5.kind -/
theorem s30 (a : Int) (H : Heap) : Tells 30 60 [.i .i64 a] H (str (kdn a)):=by
 have h1:=Int.emod_nonneg a (b:=4) (by decide)
 have h2:=Int.emod_lt_of_pos a (b:=4) (by decide)
 refine ⟨?w,?g,fun M hM R k=>?e⟩
 case e =>
  obtain ⟨m,rfl⟩ : ∃ m,M = m + 60:=⟨M - 60,by omega⟩
  rw [call_eq L30]
  unfold B30
  simp only [EX,reduceIte,Nat.reduceEqDiff,Nat.reduceAdd,Int.reduceEq,Int.reduceLT,Int.reduceLE,reduceCtorEq,Nat.reduceLeDiff,Nat.reduceSub,Nat.reduceLT,s18]
  rw [ixa_sl h1 (by omega)]
  simp only [EX,reduceIte,Nat.reduceEqDiff,Nat.reduceAdd,Int.reduceEq,Int.reduceLT,Int.reduceLE,reduceCtorEq,Nat.reduceLeDiff,Nat.reduceSub,Nat.reduceLT]
  rw [Row.ld (e:=9) (l:=kds.map str) (v:=str (kdn a)) ?r ?v]
  case r=>exact Row.new H 9 (kds.map str)
  case v=>rw [Nat.zero_add,Nat.mul_one]; exact kdn_at a
  simp only [EX,reduceIte,Nat.reduceEqDiff,Nat.reduceAdd,Int.reduceEq,Int.reduceLT,Int.reduceLE,reduceCtorEq,Nat.reduceLeDiff,Nat.reduceSub,Nat.reduceLT]
  exact rfl
 case g=>exact Grow.alloc H _
/-- chancellaw3.id -/
theorem s67 {H : Heap} {x : AV} {l : List Int} (hx : Ints H x l) : Tells 67 1600 [x] H (str (tx (l.take 30))):=by
 by_cases h : l.length≤30
 ·have hl : l.take 30 = l:=List.take_of_length_le h
  rw [hl]
  obtain ⟨H',g,eq⟩:=s43 hx (by omega)
  refine ⟨H',g,fun M hM R k=>?_⟩
  obtain ⟨m,rfl⟩ : ∃ m,M = m + 1600:=⟨M - 1600,by omega⟩
  rw [call_eq L67]
  unfold B67
  have hn : ¬ (30 : Int) < (l.length : Int):=by omega
  simp only [EX,reduceIte,Nat.reduceEqDiff,Nat.reduceAdd,Int.reduceEq,Int.reduceLT,Int.reduceLE,reduceCtorEq,Nat.reduceLeDiff,Nat.reduceSub,Nat.reduceLT,hx.len,hn]
  rw [eq _ (by omega)]
  simp only [EX,reduceIte,Nat.reduceEqDiff,Nat.reduceAdd,Int.reduceEq,Int.reduceLT,Int.reduceLE,reduceCtorEq,Nat.reduceLeDiff,Nat.reduceSub,Nat.reduceLT]
 ·obtain ⟨rfl,rfl⟩ | ⟨a,off,ro,fz,e,size,c,rfl,ha,h1,h2,h3⟩:=hx
  ·exact absurd (Nat.zero_le 30) h
  have hl : (l.take 30).length = 30:=by rw [List.length_take]; omega
  have hx30 : Ints H (.sl a off 30 none 1) (l.take 30):=Or.inr ⟨a,off,ro,fz,e,size,c,by rw [hl],ha,h1,by omega,fun j hj=>by rw [h3 j (by omega),List.getElem?_take_of_lt (by omega)]⟩
  obtain ⟨H',g,eq⟩:=s43 hx30 (by omega)
  refine ⟨H',g,fun M hM R k=>?_⟩
  obtain ⟨m,rfl⟩ : ∃ m,M = m + 1600:=⟨M - 1600,by omega⟩
  rw [call_eq L67]
  unfold B67
  have hn : (30 : Int) < (l.length : Int):=by omega
  simp only [EX,reduceIte,Nat.reduceEqDiff,Nat.reduceAdd,Int.reduceEq,Int.reduceLT,Int.reduceLE,reduceCtorEq,Nat.reduceLeDiff,Nat.reduceSub,Nat.reduceLT,hn]
  rw [sll_to (by decide) (by omega),show Int.toNat 30 = 30 from rfl]
  simp only [EX,reduceIte,Nat.reduceEqDiff,Nat.reduceAdd,Int.reduceEq,Int.reduceLT,Int.reduceLE,reduceCtorEq,Nat.reduceLeDiff,Nat.reduceSub,Nat.reduceLT]
  rw [eq _ (by omega)]
  simp only [EX,reduceIte,Nat.reduceEqDiff,Nat.reduceAdd,Int.reduceEq,Int.reduceLT,Int.reduceLE,reduceCtorEq,Nat.reduceLeDiff,Nat.reduceSub,Nat.reduceLT]
def uts3 : List (List UInt8):=[[85,115,101,114],[71,114,111,117,112],[68,111,99],[65,99,116,105,111,110],[95,120,57]]
def ut3 (n : Nat) : List UInt8:=(uts3[n]?).getD []
theorem ut3_at {n : Nat} (h : n < 5) : (uts3.map str)[n]? = some (str (ut3 n)):=by
 rw [List.getElem?_map]; unfold ut3
 rw [List.getElem?_eq_getElem (by exact h)]; rfl
theorem ut3_le (n : Nat) : (ut3 n).length≤40:=by
 have h : ∀ s ∈ uts3,s.length≤40:=by decide
 unfold ut3
 cases e : uts3[n]? with
 | none=>exact Nat.zero_le _
 | some s=>exact h s (List.mem_of_getElem? e)
/-- chancellaw3.Uid -/
theorem s68 {H : Heap} (hf : Fresh H) {op n : Int} {xs xk : AV} {l : List Int} (hx : Ints H xs l) : Tells 68 2000 [.ag [.i .i64 op,.i .i64 n,xs,xk]] H (.ag [str (ut3 (n.tmod 5).natAbs),str (tx (l.take 30))]):=by
 have hb1:=tmod_lt (a:=n) (n:=5) (by decide)
 obtain ⟨q,hq⟩ : ∃ q,q = (n.tmod 5).natAbs:=⟨_,rfl⟩
 rw [← hq]
 have h2 : q < 5:=by omega
 obtain ⟨H0,e0⟩ : ∃ H0,H0 = H.alloc (.cells false 0 88 4 (setCells [.i .i64 op,.i .i64 n,xs,xk] 0 .leaf)):=⟨_,rfl⟩
 have g0 : Grow H H0:=by rw [e0]; exact Grow.alloc H _
 have n0 : H0.next.toN = H.next.toN + 1:=by rw [e0]; exact next_alloc H _
 have r0 : Row H0 H.next 88 [.i .i64 op,.i .i64 n,xs,xk]:=by rw [e0]; exact Row.new H 88 [.i .i64 op,.i .i64 n,xs,xk]
 obtain ⟨H1,e1⟩ : ∃ H1,H1 = H0.alloc (.cells false 0 29 2 (setCells [str [],str []] 0 .leaf)):=⟨_,rfl⟩
 have g1 : Grow H0 H1:=by rw [e1]; exact Grow.alloc H0 _
 have g2 : Grow H1 (H1.bump 1):=Grow.bump 1 H1
 have r1 : Row H1 H0.next 29 [str [],str []]:=by rw [e1]; exact Row.new H0 29 [str [],str []]
 have n1 : H1.next.toN = H0.next.toN + 1:=by rw [e1]; exact next_alloc H0 _
 have en : H0.next.succ = H1.next:=by rw [e1]
 have n2 : (H1.bump 1).next.toN = H1.next.toN + 1:=next_bump
 obtain ⟨H3,g3,eq⟩:=s67 (hx.grow ((g0.trans g1).trans g2))
 have g13:=(g1.trans g2).trans g3
 have n3:=g3.next
 have hd : H3.get H1.next = .dead:=by
  rw [g3.get _ (by omega),get_bump]
  exact (g0.trans g1).dead hf _ (Nat.le_refl _)
 obtain ⟨H4,e4⟩ : ∃ H4,H4 = H3.put H1.next (.cells false 0 9 5 (setCells (uts3.map str) 0 .leaf)):=⟨_,rfl⟩
 have g4 : Grow H1 H4:=by rw [e4]; exact (g2.trans g3).put (Nat.le_refl _) (by omega) _
 have n4 : H4.next = H3.next:=e4 ▸ next_put
 have r4 : Row H4 H1.next 9 (uts3.map str):=by rw [e4]; exact ⟨_,get_put,fun j _=>cell_at _ j⟩
 have r14:=r1.grow g4 (by omega)
 obtain ⟨H5,r5,b5,n5,est⟩:=r14.st_all (n:=2) (ys:=[str (ut3 q),str (tx (l.take 30))]) (by rw [n4]; omega) rfl rfl (by intro v hv; simp at hv; rcases hv with rfl | rfl <;> exact one_str)
 have en0 : H.next.succ = H0.next:=by rw [e0]
 have axs : avEq xs xs = true:=by
  obtain ⟨rfl,_⟩ | ⟨a,off,ro,fz,ee,size,c,rfl,_⟩:=hx
  ·exact avEq_ns
  ·exact avEq_sl
 have l1:=(r0.grow g1 (by omega)).l 1 (v:=.i .i64 n) rfl
 have lb2:=((r0.grow g1 (by omega)).grow g2 (by omega)).l 2 (v:=xs) rfl
 have hw : ∀ (R : Type) (k : HK R),ixaC 1 (.sl H1.next 0 5 (some 5) 1) (.i .i64 (q : Int)) k H4 = k (.p H1.next (0 + q * 1)) H4:=fun R k=>by rw [ixa_sl (by omega) (by omega),Int.toNat_natCast]
 have hl4:=r4.l (0 + q * 1) (by rw [Nat.zero_add,Nat.mul_one]; exact ut3_at h2)
 refine ⟨H5,b5.of (g0.trans (g1.trans g4)) (by omega),fun M hM R k=>?e⟩
 case e =>
  obtain ⟨m,rfl⟩ : ∃ m,M = m + 2000:=⟨M - 2000,by omega⟩
  have hrd : ∀ (fr : Tr AV) (v : AV) (nn : Nat) (Gs : List Heap),ev fr (T 13) = .p H1.next (0 + q * 1)→readOk (.ld false 1 (T 13)) fr v 1000000 (H3 :: Gs) nn = true:=fun fr v nn Gs hev=>read_hm (by decide) (home_ld hev hd)
  rw [call_eq L68]
  unfold B68
  by_cases hneg : n.tmod 5 < 0
  ·have hqi : IntKind.i64.wrap (0 - n.tmod 5) = (q : Int):=by rw [wrap_i64 (by omega) (by omega)]; omega
   simp only [EX,reduceIte,Nat.reduceEqDiff,Nat.reduceAdd,Int.reduceEq,Int.reduceLT,Int.reduceLE,reduceCtorEq,Nat.reduceLeDiff,Nat.reduceSub,Nat.reduceLT]
   rw [← e0,← e1]
   simp only [EX,reduceIte,Nat.reduceEqDiff,Nat.reduceAdd,Int.reduceEq,Int.reduceLT,Int.reduceLE,reduceCtorEq,Nat.reduceLeDiff,Nat.reduceSub,Nat.reduceLT,l1,i_rem (show (5 : Int) ≠ 0 by decide),hneg,i_sub,hqi,lb2,en,en0,axs]
   rw [eq _ (by omega)]
   simp only [EX,reduceIte,Nat.reduceEqDiff,Nat.reduceAdd,Int.reduceEq,Int.reduceLT,Int.reduceLE,reduceCtorEq,Nat.reduceLeDiff,Nat.reduceSub,Nat.reduceLT]
   have e4' : H3.put H1.next (.cells false 0 9 5 (setCells [str [85,115,101,114],str [71,114,111,117,112],str [68,111,99],str [65,99,116,105,111,110],str [95,120,57]] 0 .leaf)) = H4:=e4.symm
   rw [e4']
   simp only [EX,reduceIte,Nat.reduceEqDiff,Nat.reduceAdd,Int.reduceEq,Int.reduceLT,Int.reduceLE,reduceCtorEq,Nat.reduceLeDiff,Nat.reduceSub,Nat.reduceLT,hw,hl4]
   rw [hrd _ _ _ _ (by simp only [ev_T,V_S,Nat.reduceEqDiff,reduceIte])]
   simp only [EX,reduceIte,Nat.reduceEqDiff,Nat.reduceAdd,Int.reduceEq,Int.reduceLT,Int.reduceLE,reduceCtorEq,Nat.reduceLeDiff,Nat.reduceSub,Nat.reduceLT]
   rw [est]
   simp only [EX,reduceIte,Nat.reduceEqDiff,Nat.reduceAdd,Int.reduceEq,Int.reduceLT,Int.reduceLE,reduceCtorEq,Nat.reduceLeDiff,Nat.reduceSub,Nat.reduceLT]
   rw [r5.lda (n:=2) rfl]
  ·have hqi : n.tmod 5 = (q : Int):=by omega
   have hneg : ¬ (q : Int) < 0:=by omega
   simp only [EX,reduceIte,Nat.reduceEqDiff,Nat.reduceAdd,Int.reduceEq,Int.reduceLT,Int.reduceLE,reduceCtorEq,Nat.reduceLeDiff,Nat.reduceSub,Nat.reduceLT]
   rw [← e0,← e1]
   simp only [EX,reduceIte,Nat.reduceEqDiff,Nat.reduceAdd,Int.reduceEq,Int.reduceLT,Int.reduceLE,reduceCtorEq,Nat.reduceLeDiff,Nat.reduceSub,Nat.reduceLT,l1,i_rem (show (5 : Int) ≠ 0 by decide),hneg,i_sub,hqi,lb2,en,en0,axs]
   rw [eq _ (by omega)]
   simp only [EX,reduceIte,Nat.reduceEqDiff,Nat.reduceAdd,Int.reduceEq,Int.reduceLT,Int.reduceLE,reduceCtorEq,Nat.reduceLeDiff,Nat.reduceSub,Nat.reduceLT]
   have e4' : H3.put H1.next (.cells false 0 9 5 (setCells [str [85,115,101,114],str [71,114,111,117,112],str [68,111,99],str [65,99,116,105,111,110],str [95,120,57]] 0 .leaf)) = H4:=e4.symm
   rw [e4']
   simp only [EX,reduceIte,Nat.reduceEqDiff,Nat.reduceAdd,Int.reduceEq,Int.reduceLT,Int.reduceLE,reduceCtorEq,Nat.reduceLeDiff,Nat.reduceSub,Nat.reduceLT,hw,hl4]
   rw [hrd _ _ _ _ (by simp only [ev_T,V_S,Nat.reduceEqDiff,reduceIte])]
   simp only [EX,reduceIte,Nat.reduceEqDiff,Nat.reduceAdd,Int.reduceEq,Int.reduceLT,Int.reduceLE,reduceCtorEq,Nat.reduceLeDiff,Nat.reduceSub,Nat.reduceLT]
   rw [est]
   simp only [EX,reduceIte,Nat.reduceEqDiff,Nat.reduceAdd,Int.reduceEq,Int.reduceLT,Int.reduceLE,reduceCtorEq,Nat.reduceLeDiff,Nat.reduceSub,Nat.reduceLT]
   rw [r5.lda (n:=2) rfl]
end Go.Proofs.YtmmmjhkgjmbfaaaDoor

/- Plain values: made (Plain),set side by side (Less,Same). -/
namespace Go.Proofs.YtmmmjhkgjmbfaaaDoor
open Go Go.Vai
set_option maxRecDepth 100000
set_option maxHeartbeats 1600000
set_option linter.unusedSimpArgs false
theorem s_lss {R : Type} {k : HK R} {H : Heap} {ek : EK} {s t : List UInt8} : binC .lss ek (str s) (str t) k H = k (.b (sLt s.length (pk s) t.length (pk t))) H:=by
 show boolK (sLt s.length (pk s) t.length (pk t)) (fun v=>k v H) = _
 cases sLt s.length (pk s) t.length (pk t) <;> rfl
theorem b_neq {R : Type} {k : HK R} {H : Heap} {a b : Bool} : binC .neq .bool (.b a) (.b b) k H = k (.b (!decide (a = b))) H:=by
 cases a <;> cases b <;> rfl
theorem flat_neq {R : Type} {k : HK R} {H : Heap} {a b c d : List UInt8} : binC .neq (.flat [2,2]) (.ag [str a,str b]) (.ag [str c,str d]) k H = k (.b (!(sEq a.length (pk a) c.length (pk c) && sEq b.length (pk b) d.length (pk d)))) H:=by
 show forceB (sEq a.length (pk a) c.length (pk c)) (fun r=>forceB (sEq b.length (pk b) d.length (pk d)) fun s=>notK (Bool.casesOn r false (Bool.casesOn s false true)) fun v=>k v H) = _
 cases sEq a.length (pk a) c.length (pk c) <;> cases sEq b.length (pk b) d.length (pk d) <;> rfl
/-- What stands when a value is made: the raw one,the room for it. -/
structure Lv (t1 t2 : Nat) (zs : List AV) (H H2 : Heap) (p q : Pa) (r : List AV) : Prop where
 g : Grow H H2
 rp : Row H2 p t1 r
 rq : Row H2 q t2 zs
 pn : H.next.toN≤p.toN
 qn : p.toN < q.toN
 nx : q.toN < H2.next.toN
theorem Lv.make (t1 t2 : Nat) (zs : List AV) (H : Heap) (r : List AV) : Lv t1 t2 zs H ((H.alloc (.cells false 0 t1 r.length (setCells r 0 .leaf))).alloc (.cells false 0 t2 zs.length (setCells zs 0 .leaf))) H.next H.next.succ r:=by
 have g1:=Grow.alloc H (.cells false 0 t1 r.length (setCells r 0 .leaf))
 have g2:=Grow.alloc (H.alloc (.cells false 0 t1 r.length (setCells r 0 .leaf))) (.cells false 0 t2 zs.length (setCells zs 0 .leaf))
 have n1:=next_alloc H (.cells false 0 t1 r.length (setCells r 0 .leaf))
 have n2:=next_alloc (H.alloc (.cells false 0 t1 r.length (setCells r 0 .leaf))) (.cells false 0 t2 zs.length (setCells zs 0 .leaf))
 have hs : H.next.succ.toN = H.next.toN + 1:=Pa.toN_succ _
 exact ⟨g1.trans g2,(Row.new H t1 r).grow g2 (by omega),Row.new (H.alloc (.cells false 0 t1 r.length (setCells r 0 .leaf))) t2 zs,Nat.le_refl _,by omega,by omega⟩
theorem Lv.grow {t1 t2 : Nat} {zs : List AV} {H H2 H3 : Heap} {p q : Pa} {r : List AV} (h : Lv t1 t2 zs H H2 p q r) (g : Grow H2 H3) : Lv t1 t2 zs H H3 p q r :=
 ⟨h.g.trans g,h.rp.grow g (by have:=h.qn; have:=h.nx; omega),h.rq.grow g h.nx,h.pn,h.qn,Nat.lt_of_lt_of_le h.nx g.next⟩
theorem Lv.fill {t1 t2 : Nat} {zs : List AV} {H H2 : Heap} {p q : Pa} {r : List AV} (h : Lv t1 t2 zs H H2 p q r) {ys : List AV} {n : Nat} (hz : n = zs.length) (hl : ys.length = n) (hy : ∀ v ∈ ys,oneC v = true) :
  ∃ H3,Grow H H3∧Row H3 q t2 ys∧H3.next = H2.next∧∀ (R : Type) (k : HK R),stC n (.p q 0) (.ag ys) k H2 = k un H3:=by
 obtain ⟨H3,r3,b3,n3,e3⟩:=h.rq.st_all (n:=n) (ys:=ys) h.nx hl hz hy
 exact ⟨H3,b3.of h.g (by have:=h.pn; have:=h.qn; omega),r3,n3,e3⟩
theorem s54_1 {H : Heap} {op n : Int} {xs xk : AV} : Tells 54 2400 [.ag [.i .i64 op,.i .i64 n,xs,xk],.i .i64 1] H (.ag (Pl.cs (.b (decide (n.tmod 2 = 0))))):=by
 have L:=Lv.make 88 85 zs7 H [.i .i64 op,.i .i64 n,xs,xk]
 obtain ⟨H2,e2⟩ : ∃ H2,H2 = (H.alloc (.cells false 0 88 4 (setCells [.i .i64 op,.i .i64 n,xs,xk] 0 .leaf))).alloc (.cells false 0 85 7 (setCells zs7 0 .leaf)):=⟨_,rfl⟩
 have L : Lv 88 85 zs7 H H2 H.next H.next.succ [.i .i64 op,.i .i64 n,xs,xk]:=by rw [e2]; exact L
 have l1:=L.rp.l 1 (v:=.i .i64 n) rfl
 have l2:=L.rp.l 2 (v:=xs) rfl
 have la:=L.rp.la 4 rfl
 obtain ⟨H3,g3,r3,n3,e3⟩:=L.fill (n:=7) (ys:=Pl.cs (.b (decide (n.tmod 2 = 0)))) rfl rfl (fun v hv=>(Pl.one _ v hv).1)
 refine ⟨H3,g3,fun M hM R k=>?e⟩
 case e =>
  obtain ⟨m,rfl⟩ : ∃ m,M = m + 2400:=⟨M - 2400,by omega⟩
  rw [call_eq L54]
  unfold B54
  simp only [EX,reduceIte,Nat.reduceEqDiff,Nat.reduceAdd,Int.reduceEq,Int.reduceLT,Int.reduceLE,reduceCtorEq,Nat.reduceLeDiff,Nat.reduceSub,Nat.reduceLT]
  rw [show (H.alloc (.cells false 0 88 4 (setCells [.i .i64 op,.i .i64 n,xs,xk] 0 .leaf))).alloc (.cells false 0 85 7 (setCells [.i .i64 0,.b false,.i .i64 0,str [],str [],str [],.ns] 0 .leaf)) = H2 from e2.symm]
  simp only [EX,reduceIte,Nat.reduceEqDiff,Nat.reduceAdd,Int.reduceEq,Int.reduceLT,Int.reduceLE,reduceCtorEq,Nat.reduceLeDiff,Nat.reduceSub,Nat.reduceLT,l1,l2,la,i_rem (show (2 : Int) ≠ 0 by decide)]
  refine (e3 _ _).trans ?_
  simp only [EX,reduceIte,Nat.reduceEqDiff,Nat.reduceAdd,Int.reduceEq,Int.reduceLT,Int.reduceLE,reduceCtorEq,Nat.reduceLeDiff,Nat.reduceSub,Nat.reduceLT]
  rw [r3.lda (n:=7) rfl]
theorem s54_2 {H : Heap} {op n : Int} {xs xk : AV} : Tells 54 2400 [.ag [.i .i64 op,.i .i64 n,xs,xk],.i .i64 2] H (.ag (Pl.cs (.n n))):=by
 have L:=Lv.make 88 85 zs7 H [.i .i64 op,.i .i64 n,xs,xk]
 obtain ⟨H2,e2⟩ : ∃ H2,H2 = (H.alloc (.cells false 0 88 4 (setCells [.i .i64 op,.i .i64 n,xs,xk] 0 .leaf))).alloc (.cells false 0 85 7 (setCells zs7 0 .leaf)):=⟨_,rfl⟩
 have L : Lv 88 85 zs7 H H2 H.next H.next.succ [.i .i64 op,.i .i64 n,xs,xk]:=by rw [e2]; exact L
 have l1:=L.rp.l 1 (v:=.i .i64 n) rfl
 have l2:=L.rp.l 2 (v:=xs) rfl
 have la:=L.rp.la 4 rfl
 obtain ⟨H3,g3,r3,n3,e3⟩:=L.fill (n:=7) (ys:=Pl.cs (.n n)) rfl rfl (fun v hv=>(Pl.one _ v hv).1)
 refine ⟨H3,g3,fun M hM R k=>?e⟩
 case e =>
  obtain ⟨m,rfl⟩ : ∃ m,M = m + 2400:=⟨M - 2400,by omega⟩
  rw [call_eq L54]
  unfold B54
  simp only [EX,reduceIte,Nat.reduceEqDiff,Nat.reduceAdd,Int.reduceEq,Int.reduceLT,Int.reduceLE,reduceCtorEq,Nat.reduceLeDiff,Nat.reduceSub,Nat.reduceLT]
  rw [show (H.alloc (.cells false 0 88 4 (setCells [.i .i64 op,.i .i64 n,xs,xk] 0 .leaf))).alloc (.cells false 0 85 7 (setCells [.i .i64 0,.b false,.i .i64 0,str [],str [],str [],.ns] 0 .leaf)) = H2 from e2.symm]
  simp only [EX,reduceIte,Nat.reduceEqDiff,Nat.reduceAdd,Int.reduceEq,Int.reduceLT,Int.reduceLE,reduceCtorEq,Nat.reduceLeDiff,Nat.reduceSub,Nat.reduceLT,l1,l2,la,i_rem (show (2 : Int) ≠ 0 by decide)]
  refine (e3 _ _).trans ?_
  simp only [EX,reduceIte,Nat.reduceEqDiff,Nat.reduceAdd,Int.reduceEq,Int.reduceLT,Int.reduceLE,reduceCtorEq,Nat.reduceLeDiff,Nat.reduceSub,Nat.reduceLT]
  rw [r3.lda (n:=7) rfl]
theorem s54_3 {H : Heap} {op n : Int} {xs xk : AV} {l : List Int} (hx : Ints H xs l) : Tells 54 2400 [.ag [.i .i64 op,.i .i64 n,xs,xk],.i .i64 3] H (.ag (Pl.cs (.s (tx (l.take 30))))):=by
 have L:=Lv.make 88 85 zs7 H [.i .i64 op,.i .i64 n,xs,xk]
 obtain ⟨H2,e2⟩ : ∃ H2,H2 = (H.alloc (.cells false 0 88 4 (setCells [.i .i64 op,.i .i64 n,xs,xk] 0 .leaf))).alloc (.cells false 0 85 7 (setCells zs7 0 .leaf)):=⟨_,rfl⟩
 have L : Lv 88 85 zs7 H H2 H.next H.next.succ [.i .i64 op,.i .i64 n,xs,xk]:=by rw [e2]; exact L
 have l1:=L.rp.l 1 (v:=.i .i64 n) rfl
 have l2:=L.rp.l 2 (v:=xs) rfl
 have la:=L.rp.la 4 rfl
 obtain ⟨H5,g5,eq⟩:=s67 (hx.grow L.g)
 obtain ⟨H3,g3,r3,n3,e3⟩:=(L.grow g5).fill (n:=7) (ys:=Pl.cs (.s (tx (l.take 30)))) rfl rfl (fun v hv=>(Pl.one _ v hv).1)
 refine ⟨H3,g3,fun M hM R k=>?e⟩
 case e =>
  obtain ⟨m,rfl⟩ : ∃ m,M = m + 2400:=⟨M - 2400,by omega⟩
  rw [call_eq L54]
  unfold B54
  simp only [EX,reduceIte,Nat.reduceEqDiff,Nat.reduceAdd,Int.reduceEq,Int.reduceLT,Int.reduceLE,reduceCtorEq,Nat.reduceLeDiff,Nat.reduceSub,Nat.reduceLT]
  rw [show (H.alloc (.cells false 0 88 4 (setCells [.i .i64 op,.i .i64 n,xs,xk] 0 .leaf))).alloc (.cells false 0 85 7 (setCells [.i .i64 0,.b false,.i .i64 0,str [],str [],str [],.ns] 0 .leaf)) = H2 from e2.symm]
  simp only [EX,reduceIte,Nat.reduceEqDiff,Nat.reduceAdd,Int.reduceEq,Int.reduceLT,Int.reduceLE,reduceCtorEq,Nat.reduceLeDiff,Nat.reduceSub,Nat.reduceLT,l1,l2,la,i_rem (show (2 : Int) ≠ 0 by decide)]
  rw [eq _ (by omega)]
  simp only [EX,reduceIte,Nat.reduceEqDiff,Nat.reduceAdd,Int.reduceEq,Int.reduceLT,Int.reduceLE,reduceCtorEq,Nat.reduceLeDiff,Nat.reduceSub,Nat.reduceLT]
  refine (e3 _ _).trans ?_
  simp only [EX,reduceIte,Nat.reduceEqDiff,Nat.reduceAdd,Int.reduceEq,Int.reduceLT,Int.reduceLE,reduceCtorEq,Nat.reduceLeDiff,Nat.reduceSub,Nat.reduceLT]
  rw [r3.lda (n:=7) rfl]
theorem s54_4 {H : Heap} (hf : Fresh H) {op n : Int} {xs xk : AV} {l : List Int} (hx : Ints H xs l) : Tells 54 2400 [.ag [.i .i64 op,.i .i64 n,xs,xk],.i .i64 4] H (.ag (Pl.cs (.u (ut3 (n.tmod 5).natAbs) (tx (l.take 30))))):=by
 have L:=Lv.make 88 85 zs7 H [.i .i64 op,.i .i64 n,xs,xk]
 obtain ⟨H2,e2⟩ : ∃ H2,H2 = (H.alloc (.cells false 0 88 4 (setCells [.i .i64 op,.i .i64 n,xs,xk] 0 .leaf))).alloc (.cells false 0 85 7 (setCells zs7 0 .leaf)):=⟨_,rfl⟩
 have L : Lv 88 85 zs7 H H2 H.next H.next.succ [.i .i64 op,.i .i64 n,xs,xk]:=by rw [e2]; exact L
 have l1:=L.rp.l 1 (v:=.i .i64 n) rfl
 have l2:=L.rp.l 2 (v:=xs) rfl
 have la:=L.rp.la 4 rfl
 obtain ⟨H5,g5,eq⟩:=s68 (op:=op) (n:=n) (xk:=xk) (L.g.dead hf) (hx.grow L.g)
 obtain ⟨H3,g3,r3,n3,e3⟩:=(L.grow g5).fill (n:=7) (ys:=Pl.cs (.u (ut3 (n.tmod 5).natAbs) (tx (l.take 30)))) rfl rfl (fun v hv=>(Pl.one _ v hv).1)
 refine ⟨H3,g3,fun M hM R k=>?e⟩
 case e =>
  obtain ⟨m,rfl⟩ : ∃ m,M = m + 2400:=⟨M - 2400,by omega⟩
  rw [call_eq L54]
  unfold B54
  simp only [EX,reduceIte,Nat.reduceEqDiff,Nat.reduceAdd,Int.reduceEq,Int.reduceLT,Int.reduceLE,reduceCtorEq,Nat.reduceLeDiff,Nat.reduceSub,Nat.reduceLT]
  rw [show (H.alloc (.cells false 0 88 4 (setCells [.i .i64 op,.i .i64 n,xs,xk] 0 .leaf))).alloc (.cells false 0 85 7 (setCells [.i .i64 0,.b false,.i .i64 0,str [],str [],str [],.ns] 0 .leaf)) = H2 from e2.symm]
  simp only [EX,reduceIte,Nat.reduceEqDiff,Nat.reduceAdd,Int.reduceEq,Int.reduceLT,Int.reduceLE,reduceCtorEq,Nat.reduceLeDiff,Nat.reduceSub,Nat.reduceLT,l1,l2,la,i_rem (show (2 : Int) ≠ 0 by decide)]
  rw [eq _ (by omega)]
  simp only [EX,reduceIte,Nat.reduceEqDiff,Nat.reduceAdd,Int.reduceEq,Int.reduceLT,Int.reduceLE,reduceCtorEq,Nat.reduceLeDiff,Nat.reduceSub,Nat.reduceLT]
  rw [fill_agn ?fa ?fb]
  case fa=>rfl
  case fb=>show 6≤7; omega
  simp only [EX,reduceIte,Nat.reduceEqDiff,Nat.reduceAdd,Int.reduceEq,Int.reduceLT,Int.reduceLE,reduceCtorEq,Nat.reduceLeDiff,Nat.reduceSub,Nat.reduceLT]
  refine (e3 _ _).trans ?_
  simp only [EX,reduceIte,Nat.reduceEqDiff,Nat.reduceAdd,Int.reduceEq,Int.reduceLT,Int.reduceLE,reduceCtorEq,Nat.reduceLeDiff,Nat.reduceSub,Nat.reduceLT]
  rw [r3.lda (n:=7) rfl]
/-- chancellaw3.Plain -/
theorem s54 {H : Heap} (hf : Fresh H) {op n : Int} {xs xk : AV} {l : List Int} (hx : Ints H xs l) (hn : I64 n) {kd : Nat} (h1 : 1≤kd) (h4 : kd≤4) : ∃ p : Pl,p.Ok∧p.op = kd∧Tells 54 2400 [.ag [.i .i64 op,.i .i64 n,xs,xk],.i .i64 (kd : Int)] H (.ag p.cs):=by
 have ht : Rt (tx (l.take 30)):=rt_tx (by rw [List.length_take]; omega)
 have hk : kd = 1 ∨ kd = 2 ∨ kd = 3 ∨ kd = 4:=by omega
 rcases hk with rfl | rfl | rfl | rfl
 ·exact ⟨.b (decide (n.tmod 2 = 0)),trivial,rfl,s54_1⟩
 ·exact ⟨.n n,hn,rfl,s54_2⟩
 ·exact ⟨.s _,ht,rfl,s54_3 hx⟩
 ·exact ⟨.u _ _,⟨ut3_le _,ht⟩,rfl,s54_4 hf hx⟩
/-- Two things boxed side by side. -/
theorem box2 (e : Nat) (H : Heap) (cs ds : List AV) : ∃ H1 H2,H1 = H.alloc (.cells false 0 e cs.length (setCells cs 0 .leaf))∧H2 = H1.alloc (.cells false 0 e ds.length (setCells ds 0 .leaf))∧Grow H H2∧Row H2 H.next e cs∧Row H2 H1.next e ds∧H.next.succ = H1.next:=by
 have g1:=Grow.alloc H (.cells false 0 e cs.length (setCells cs 0 .leaf))
 have g2:=Grow.alloc (H.alloc (.cells false 0 e cs.length (setCells cs 0 .leaf))) (.cells false 0 e ds.length (setCells ds 0 .leaf))
 have n1:=next_alloc H (.cells false 0 e cs.length (setCells cs 0 .leaf))
 exact ⟨_,_,rfl,rfl,g1.trans g2,(Row.new H e cs).grow g2 (by omega),Row.new _ e ds,rfl⟩
theorem s77 (a b c d : List UInt8) (H : Heap) : ∃ x,Tells 77 200 [.ag [str a,str b],.ag [str c,str d]] H (.b x):=by
 obtain ⟨H1,H2,e1,e2,g,r1,r2,en⟩:=box2 29 H [str a,str b] [str c,str d]
 have a0:=r1.l 0 (v:=str a) rfl
 have a1:=r1.l 1 (v:=str b) rfl
 have b0:=r2.l 0 (v:=str c) rfl
 have b1:=r2.l 1 (v:=str d) rfl
 by_cases h : a = c
 ·refine ⟨?x1,H2,g,fun M hM R k=>?e1⟩
  case e1 =>
   obtain ⟨m,rfl⟩ : ∃ m,M = m + 200:=⟨M - 200,by omega⟩
   rw [call_eq L77]
   unfold B77
   simp only [EX,reduceIte,Nat.reduceEqDiff,Nat.reduceAdd,Int.reduceEq,Int.reduceLT,Int.reduceLE,reduceCtorEq,Nat.reduceLeDiff,Nat.reduceSub,Nat.reduceLT]
   rw [show H.alloc (.cells false 0 29 2 (setCells [str a,str b] 0 .leaf)) = H1 from e1.symm,en,show H1.alloc (.cells false 0 29 2 (setCells [str c,str d] 0 .leaf)) = H2 from e2.symm]
   simp only [EX,reduceIte,Nat.reduceEqDiff,Nat.reduceAdd,Int.reduceEq,Int.reduceLT,Int.reduceLE,reduceCtorEq,Nat.reduceLeDiff,Nat.reduceSub,Nat.reduceLT,a0,a1,b0,b1,s_neq,h,s_lss]
   exact rfl
 ·refine ⟨?x2,H2,g,fun M hM R k=>?e2⟩
  case e2 =>
   obtain ⟨m,rfl⟩ : ∃ m,M = m + 200:=⟨M - 200,by omega⟩
   rw [call_eq L77]
   unfold B77
   simp only [EX,reduceIte,Nat.reduceEqDiff,Nat.reduceAdd,Int.reduceEq,Int.reduceLT,Int.reduceLE,reduceCtorEq,Nat.reduceLeDiff,Nat.reduceSub,Nat.reduceLT]
   rw [show H.alloc (.cells false 0 29 2 (setCells [str a,str b] 0 .leaf)) = H1 from e1.symm,en,show H1.alloc (.cells false 0 29 2 (setCells [str c,str d] 0 .leaf)) = H2 from e2.symm]
   simp only [EX,reduceIte,Nat.reduceEqDiff,Nat.reduceAdd,Int.reduceEq,Int.reduceLT,Int.reduceLE,reduceCtorEq,Nat.reduceLeDiff,Nat.reduceSub,Nat.reduceLT,a0,a1,b0,b1,s_neq,h,s_lss]
   exact rfl
/-- The loads of a boxed plain value. -/
structure Bx (H : Heap) (a : Pa) (p : Pl) : Prop where
 l0 : ∀ (R : Type) (k : HK R),ldC false 1 (.p a 0) k H = k (.i .i64 (p.op : Int)) H
 l1 : ∀ (R : Type) (k : HK R),ldC false 1 (.p a 1) k H = k (.b p.pb) H
 l2 : ∀ (R : Type) (k : HK R),ldC false 1 (.p a 2) k H = k (.i .i64 p.pn) H
 l3 : ∀ (R : Type) (k : HK R),ldC false 1 (.p a 3) k H = k (str p.ps) H
 l4 : ∀ (R : Type) (k : HK R),ldC true 2 (.p a 4) k H = k (.ag [str p.pu,str p.pi]) H
 l6 : ∀ (R : Type) (k : HK R),ldC false 1 (.p a 6) k H = k .ns H
theorem Bx.of {H : Heap} {a : Pa} {e : Nat} {p : Pl} (r : Row H a e p.cs) : Bx H a p :=
 ⟨r.l 0 rfl,r.l 1 rfl,r.l 2 rfl,r.l 3 rfl,fun R k=>r.lds (n:=2) (off:=4) (by show 6≤7; omega),r.l 6 rfl⟩
theorem s69_ne {p q : Pl} (h : p.op ≠ q.op) (H : Heap) : ∃ x,Tells 69 600 [.ag p.cs,.ag q.cs] H (.b x):=by
 obtain ⟨H1,H2,e1,e2,g,r1,r2,en⟩:=box2 85 H p.cs q.cs
 obtain ⟨a0,a1,a2,a3,a4,a6⟩:=Bx.of r1
 obtain ⟨b0,b1,b2,b3,b4,b6⟩:=Bx.of r2
 have h : ¬ (p.op : Int) = (q.op : Int):=by omega
 refine ⟨?x3,H2,g,fun M hM R k=>?e3⟩
 case e3 =>
  obtain ⟨m,rfl⟩ : ∃ m,M = m + 600:=⟨M - 600,by omega⟩
  rw [call_eq L69]
  unfold B69
  simp only [EX,reduceIte,Nat.reduceEqDiff,Nat.reduceAdd,Int.reduceEq,Int.reduceLT,Int.reduceLE,reduceCtorEq,Nat.reduceLeDiff,Nat.reduceSub,Nat.reduceLT]
  rw [← e1,en,← e2]
  simp only [EX,reduceIte,Nat.reduceEqDiff,Nat.reduceAdd,Int.reduceEq,Int.reduceLT,Int.reduceLE,reduceCtorEq,Nat.reduceLeDiff,Nat.reduceSub,Nat.reduceLT,a0,b0,h]
  exact rfl
theorem s69_1 {p q : Pl} (h1 : p.op = 1) (h2 : q.op = 1) (H : Heap) : ∃ x,Tells 69 600 [.ag p.cs,.ag q.cs] H (.b x):=by
 obtain ⟨H1,H2,e1,e2,g,r1,r2,en⟩:=box2 85 H p.cs q.cs
 obtain ⟨a0,a1,a2,a3,a4,a6⟩:=Bx.of r1
 obtain ⟨b0,b1,b2,b3,b4,b6⟩:=Bx.of r2
 have hp : (p.op : Int) = 1:=by omega
 have hq : (q.op : Int) = 1:=by omega
 cases hb : p.pb
 ·refine ⟨?x4,H2,g,fun M hM R k=>?e4⟩
  case e4 =>
   obtain ⟨m,rfl⟩ : ∃ m,M = m + 600:=⟨M - 600,by omega⟩
   rw [call_eq L69]
   unfold B69
   simp only [EX,reduceIte,Nat.reduceEqDiff,Nat.reduceAdd,Int.reduceEq,Int.reduceLT,Int.reduceLE,reduceCtorEq,Nat.reduceLeDiff,Nat.reduceSub,Nat.reduceLT]
   rw [← e1,en,← e2]
   simp only [EX,reduceIte,Nat.reduceEqDiff,Nat.reduceAdd,Int.reduceEq,Int.reduceLT,Int.reduceLE,reduceCtorEq,Nat.reduceLeDiff,Nat.reduceSub,Nat.reduceLT,a0,b0,a1,b1,hp,hq,hb]
   exact rfl
 ·refine ⟨?x5,H2,g,fun M hM R k=>?e5⟩
  case e5 =>
   obtain ⟨m,rfl⟩ : ∃ m,M = m + 600:=⟨M - 600,by omega⟩
   rw [call_eq L69]
   unfold B69
   simp only [EX,reduceIte,Nat.reduceEqDiff,Nat.reduceAdd,Int.reduceEq,Int.reduceLT,Int.reduceLE,reduceCtorEq,Nat.reduceLeDiff,Nat.reduceSub,Nat.reduceLT]
   rw [← e1,en,← e2]
   simp only [EX,reduceIte,Nat.reduceEqDiff,Nat.reduceAdd,Int.reduceEq,Int.reduceLT,Int.reduceLE,reduceCtorEq,Nat.reduceLeDiff,Nat.reduceSub,Nat.reduceLT,a0,b0,a1,b1,hp,hq,hb]
   exact rfl
theorem s69_2 {p q : Pl} (h1 : p.op = 2) (h2 : q.op = 2) (H : Heap) : ∃ x,Tells 69 600 [.ag p.cs,.ag q.cs] H (.b x):=by
 obtain ⟨H1,H2,e1,e2,g,r1,r2,en⟩:=box2 85 H p.cs q.cs
 obtain ⟨a0,a1,a2,a3,a4,a6⟩:=Bx.of r1
 obtain ⟨b0,b1,b2,b3,b4,b6⟩:=Bx.of r2
 have hp : (p.op : Int) = 2:=by omega
 have hq : (q.op : Int) = 2:=by omega
 refine ⟨?x6,H2,g,fun M hM R k=>?e6⟩
 case e6 =>
  obtain ⟨m,rfl⟩ : ∃ m,M = m + 600:=⟨M - 600,by omega⟩
  rw [call_eq L69]
  unfold B69
  simp only [EX,reduceIte,Nat.reduceEqDiff,Nat.reduceAdd,Int.reduceEq,Int.reduceLT,Int.reduceLE,reduceCtorEq,Nat.reduceLeDiff,Nat.reduceSub,Nat.reduceLT]
  rw [← e1,en,← e2]
  simp only [EX,reduceIte,Nat.reduceEqDiff,Nat.reduceAdd,Int.reduceEq,Int.reduceLT,Int.reduceLE,reduceCtorEq,Nat.reduceLeDiff,Nat.reduceSub,Nat.reduceLT,a0,b0,a2,b2,hp,hq]
  exact rfl
theorem s69_3 {p q : Pl} (h1 : p.op = 3) (h2 : q.op = 3) (H : Heap) : ∃ x,Tells 69 600 [.ag p.cs,.ag q.cs] H (.b x):=by
 obtain ⟨H1,H2,e1,e2,g,r1,r2,en⟩:=box2 85 H p.cs q.cs
 obtain ⟨a0,a1,a2,a3,a4,a6⟩:=Bx.of r1
 obtain ⟨b0,b1,b2,b3,b4,b6⟩:=Bx.of r2
 have hp : (p.op : Int) = 3:=by omega
 have hq : (q.op : Int) = 3:=by omega
 refine ⟨?x7,H2,g,fun M hM R k=>?e7⟩
 case e7 =>
  obtain ⟨m,rfl⟩ : ∃ m,M = m + 600:=⟨M - 600,by omega⟩
  rw [call_eq L69]
  unfold B69
  simp only [EX,reduceIte,Nat.reduceEqDiff,Nat.reduceAdd,Int.reduceEq,Int.reduceLT,Int.reduceLE,reduceCtorEq,Nat.reduceLeDiff,Nat.reduceSub,Nat.reduceLT]
  rw [← e1,en,← e2]
  simp only [EX,reduceIte,Nat.reduceEqDiff,Nat.reduceAdd,Int.reduceEq,Int.reduceLT,Int.reduceLE,reduceCtorEq,Nat.reduceLeDiff,Nat.reduceSub,Nat.reduceLT,a0,b0,a3,b3,hp,hq,s_lss]
  exact rfl
theorem s69_4 {p q : Pl} (h1 : p.op = 4) (h2 : q.op = 4) (H : Heap) : ∃ x,Tells 69 600 [.ag p.cs,.ag q.cs] H (.b x):=by
 obtain ⟨H1,H2,e1,e2,g,r1,r2,en⟩:=box2 85 H p.cs q.cs
 obtain ⟨a0,a1,a2,a3,a4,a6⟩:=Bx.of r1
 obtain ⟨b0,b1,b2,b3,b4,b6⟩:=Bx.of r2
 have hp : (p.op : Int) = 4:=by omega
 have hq : (q.op : Int) = 4:=by omega
 obtain ⟨x,H3,g3,e77⟩:=s77 p.pu p.pi q.pu q.pi H2
 refine ⟨?x8,H3,g.trans g3,fun M hM R k=>?e8⟩
 case e8 =>
  obtain ⟨m,rfl⟩ : ∃ m,M = m + 600:=⟨M - 600,by omega⟩
  rw [call_eq L69]
  unfold B69
  simp only [EX,reduceIte,Nat.reduceEqDiff,Nat.reduceAdd,Int.reduceEq,Int.reduceLT,Int.reduceLE,reduceCtorEq,Nat.reduceLeDiff,Nat.reduceSub,Nat.reduceLT]
  rw [← e1,en,← e2]
  simp only [EX,reduceIte,Nat.reduceEqDiff,Nat.reduceAdd,Int.reduceEq,Int.reduceLT,Int.reduceLE,reduceCtorEq,Nat.reduceLeDiff,Nat.reduceSub,Nat.reduceLT,a0,b0,a4,b4,hp,hq]
  rw [e77 _ (by omega)]
  simp only [EX,reduceIte,Nat.reduceEqDiff,Nat.reduceAdd,Int.reduceEq,Int.reduceLT,Int.reduceLE,reduceCtorEq,Nat.reduceLeDiff,Nat.reduceSub,Nat.reduceLT]
  exact rfl
/-- chancelref3.Less,of plain values. -/
theorem s69 (p q : Pl) (H : Heap) : ∃ x,Tells 69 600 [.ag p.cs,.ag q.cs] H (.b x):=by
 by_cases h : p.op = q.op
 ·have:=p.op_le
  have hk : p.op = 1 ∨ p.op = 2 ∨ p.op = 3 ∨ p.op = 4:=by omega
  rcases hk with e | e | e | e
  ·exact s69_1 e (by omega) H
  ·exact s69_2 e (by omega) H
  ·exact s69_3 e (by omega) H
  ·exact s69_4 e (by omega) H
 ·exact s69_ne h H
/-- chancelref3.Same,of plain values. -/
theorem s70 (p q : Pl) (H : Heap) : ∃ x,Tells 70 600 [.ag p.cs,.ag q.cs] H (.b x):=by
 obtain ⟨H1,H2,e1,e2,g,r1,r2,en⟩:=box2 85 H p.cs q.cs
 obtain ⟨a0,a1,a2,a3,a4,a6⟩:=Bx.of r1
 obtain ⟨b0,b1,b2,b3,b4,b6⟩:=Bx.of r2
 have ln : ∀ (R : Type) (k : HK R) (G : Heap),lenC false .ns k G = k (.i .i64 0) G:=fun R k G=>rfl
 obtain ⟨u,hu⟩ : ∃ u,u = (!(sEq p.pu.length (pk p.pu) q.pu.length (pk q.pu) && sEq p.pi.length (pk p.pi) q.pi.length (pk q.pi))):=⟨_,rfl⟩
 by_cases h1 : (p.op : Int) = (q.op : Int)
 ·skip
  by_cases h2 : p.pb = q.pb
  ·skip
   by_cases h3 : p.pn = q.pn
   ·skip
    by_cases h4 : p.ps = q.ps
    ·skip
     by_cases h5 : u = false
     ·skip
      refine ⟨?x9,H2,g,fun M hM R k=>?e9⟩
      case e9 =>
       obtain ⟨m,rfl⟩ : ∃ m,M = m + 600:=⟨M - 600,by omega⟩
       rw [call_eq L70]
       unfold B70
       simp only [EX,reduceIte,Nat.reduceEqDiff,Nat.reduceAdd,Int.reduceEq,Int.reduceLT,Int.reduceLE,reduceCtorEq,Nat.reduceLeDiff,Nat.reduceSub,Nat.reduceLT]
       rw [← e1,en,← e2]
       simp only [EX,reduceIte,Nat.reduceEqDiff,Nat.reduceAdd,Int.reduceEq,Int.reduceLT,Int.reduceLE,reduceCtorEq,Nat.reduceLeDiff,Nat.reduceSub,Nat.reduceLT,a0,a1,a2,a3,a4,a6,b0,b1,b2,b3,b4,b6,ln,s_neq,b_neq,flat_neq,← hu,Int.lt_irrefl,h1,h2,h3,h4,h5]
       rw [run_loop]
       simp only [EX,reduceIte,Nat.reduceEqDiff,Nat.reduceAdd,Int.reduceEq,Int.reduceLT,Int.reduceLE,reduceCtorEq,Nat.reduceLeDiff,Nat.reduceSub,Nat.reduceLT,a6,b6,ln,Int.lt_irrefl]
       exact rfl
     ·have h5 : u = true:=(Bool.eq_false_or_eq_true u).resolve_right h5
      refine ⟨?x10,H2,g,fun M hM R k=>?e10⟩
      case e10 =>
       obtain ⟨m,rfl⟩ : ∃ m,M = m + 600:=⟨M - 600,by omega⟩
       rw [call_eq L70]
       unfold B70
       simp only [EX,reduceIte,Nat.reduceEqDiff,Nat.reduceAdd,Int.reduceEq,Int.reduceLT,Int.reduceLE,reduceCtorEq,Nat.reduceLeDiff,Nat.reduceSub,Nat.reduceLT]
       rw [← e1,en,← e2]
       simp only [EX,reduceIte,Nat.reduceEqDiff,Nat.reduceAdd,Int.reduceEq,Int.reduceLT,Int.reduceLE,reduceCtorEq,Nat.reduceLeDiff,Nat.reduceSub,Nat.reduceLT,a0,a1,a2,a3,a4,a6,b0,b1,b2,b3,b4,b6,ln,s_neq,b_neq,flat_neq,← hu,Int.lt_irrefl,h1,h2,h3,h4,h5]
       exact rfl
    ·refine ⟨?x11,H2,g,fun M hM R k=>?e11⟩
     case e11 =>
      obtain ⟨m,rfl⟩ : ∃ m,M = m + 600:=⟨M - 600,by omega⟩
      rw [call_eq L70]
      unfold B70
      simp only [EX,reduceIte,Nat.reduceEqDiff,Nat.reduceAdd,Int.reduceEq,Int.reduceLT,Int.reduceLE,reduceCtorEq,Nat.reduceLeDiff,Nat.reduceSub,Nat.reduceLT]
      rw [← e1,en,← e2]
      simp only [EX,reduceIte,Nat.reduceEqDiff,Nat.reduceAdd,Int.reduceEq,Int.reduceLT,Int.reduceLE,reduceCtorEq,Nat.reduceLeDiff,Nat.reduceSub,Nat.reduceLT,a0,a1,a2,a3,a4,a6,b0,b1,b2,b3,b4,b6,ln,s_neq,b_neq,flat_neq,← hu,Int.lt_irrefl,h1,h2,h3,h4]
      exact rfl
   ·refine ⟨?x12,H2,g,fun M hM R k=>?e12⟩
    case e12 =>
     obtain ⟨m,rfl⟩ : ∃ m,M = m + 600:=⟨M - 600,by omega⟩
     rw [call_eq L70]
     unfold B70
     simp only [EX,reduceIte,Nat.reduceEqDiff,Nat.reduceAdd,Int.reduceEq,Int.reduceLT,Int.reduceLE,reduceCtorEq,Nat.reduceLeDiff,Nat.reduceSub,Nat.reduceLT]
     rw [← e1,en,← e2]
     simp only [EX,reduceIte,Nat.reduceEqDiff,Nat.reduceAdd,Int.reduceEq,Int.reduceLT,Int.reduceLE,reduceCtorEq,Nat.reduceLeDiff,Nat.reduceSub,Nat.reduceLT,a0,a1,a2,a3,a4,a6,b0,b1,b2,b3,b4,b6,ln,s_neq,b_neq,flat_neq,← hu,Int.lt_irrefl,h1,h2,h3]
     exact rfl
  ·refine ⟨?x13,H2,g,fun M hM R k=>?e13⟩
   case e13 =>
    obtain ⟨m,rfl⟩ : ∃ m,M = m + 600:=⟨M - 600,by omega⟩
    rw [call_eq L70]
    unfold B70
    simp only [EX,reduceIte,Nat.reduceEqDiff,Nat.reduceAdd,Int.reduceEq,Int.reduceLT,Int.reduceLE,reduceCtorEq,Nat.reduceLeDiff,Nat.reduceSub,Nat.reduceLT]
    rw [← e1,en,← e2]
    simp only [EX,reduceIte,Nat.reduceEqDiff,Nat.reduceAdd,Int.reduceEq,Int.reduceLT,Int.reduceLE,reduceCtorEq,Nat.reduceLeDiff,Nat.reduceSub,Nat.reduceLT,a0,a1,a2,a3,a4,a6,b0,b1,b2,b3,b4,b6,ln,s_neq,b_neq,flat_neq,← hu,Int.lt_irrefl,h1,h2]
    exact rfl
 ·refine ⟨?x14,H2,g,fun M hM R k=>?e14⟩
  case e14 =>
   obtain ⟨m,rfl⟩ : ∃ m,M = m + 600:=⟨M - 600,by omega⟩
   rw [call_eq L70]
   unfold B70
   simp only [EX,reduceIte,Nat.reduceEqDiff,Nat.reduceAdd,Int.reduceEq,Int.reduceLT,Int.reduceLE,reduceCtorEq,Nat.reduceLeDiff,Nat.reduceSub,Nat.reduceLT]
   rw [← e1,en,← e2]
   simp only [EX,reduceIte,Nat.reduceEqDiff,Nat.reduceAdd,Int.reduceEq,Int.reduceLT,Int.reduceLE,reduceCtorEq,Nat.reduceLeDiff,Nat.reduceSub,Nat.reduceLT,a0,a1,a2,a3,a4,a6,b0,b1,b2,b3,b4,b6,ln,s_neq,b_neq,flat_neq,← hu,Int.lt_irrefl,h1]
   exact rfl
end Go.Proofs.YtmmmjhkgjmbfaaaDoor

/- A set of plain values (chancelref3.Set): some of them,in some order. -/
namespace Go.Proofs.YtmmmjhkgjmbfaaaDoor
open Go Go.Vai
set_option maxRecDepth 100000
set_option maxHeartbeats 1600000
set_option linter.unusedSimpArgs false
/-- Many more,or none. -/
theorem held_appn {H0 H : Heap} {e sz len n bytes : Nat} {x : AV} {l ys : List AV} (h : Held H0 H e sz x len l) (g : Grow H0 H) (hsz : 0 < sz) (hyl : ys.length = n * sz) (hy : ∀ v ∈ ys,oneC v = true) (hr : (len + n) * bytes≤roomN) :
  ∃ H' x',Grow H0 H'∧H.next.toN≤H'.next.toN∧Held H0 H' e sz x' (len + n) (l ++ ys)∧∀ (R : Type) (k : HK R) (y : AV),(∀ f : Nat→List AV→Option R,srcK sz y H f = f n ys)→appendK e sz bytes x y H k = k x' H':=by
 match n,hyl,hr with
 | 0,hyl,hr =>
  have hy0 : ys = []:=List.length_eq_zero_iff.mp (by omega)
  subst hy0
  refine ⟨H,x,g,Nat.le_refl _,by rw [List.append_nil]; exact h,fun R k y hs=>?_⟩
  obtain ⟨rfl,_,_⟩ | ⟨a,rfl,_⟩:=h
  ·exact app_none hs (off:=0) (a:=H.next) (len:=0) (c:=Option.none) (Or.inr rfl)
  ·exact app_none hs (Or.inl rfl)
 | n + 1,hyl,hr =>
  obtain ⟨H',g',n',h',eq⟩:=h.app (bytes:=bytes) (n:=n) (ys:=ys) g hsz hyl hy hr
  exact ⟨H',_,g',Nat.le_of_lt n',h',eq⟩
/-- The first ones of a slice that is held. -/
theorem held_first {H0 H : Heap} {e sz len : Nat} {x : AV} {l : List AV} (h : Held H0 H e sz x len l) {k : Nat} (hk : k≤len) :
  ∃ y,(∀ (R : Type) (c : HK R) (G : Heap),sllC sz x none (some (.i .i64 (k : Int))) none c G = c y G)∧∀ G,Grow H G→∀ (R : Type) (f : Nat→List AV→Option R),srcK sz y G f = f k (l.take (k * sz)):=by
 obtain ⟨rfl,rfl,rfl⟩ | ⟨a,rfl,hl,hr,h0,h1⟩:=h
 ·obtain rfl : k = 0:=by omega
  exact ⟨.ns,fun R c G=>rfl,fun G g R f=>by rw [Nat.zero_mul]; rfl⟩
 ·have hm : k * sz≤len * sz:=Nat.mul_le_mul_right sz hk
  refine ⟨.sl a 0 k none sz,fun R c G=>?_,fun G g R f=>?_⟩
  ·rw [sll_to (by omega) (by omega),Int.toNat_natCast]
  ·rw [src_sl (hr.grow g h1) (by omega),List.drop_zero]
/-- The others. -/
theorem held_rest {H0 H : Heap} {e sz len : Nat} {x : AV} {l : List AV} (h : Held H0 H e sz x len l) {k : Nat} (hk : k≤len) :
  ∃ y,(∀ (R : Type) (c : HK R) (G : Heap),sllC sz x (some (.i .i64 (k : Int))) none none c G = c y G)∧∀ G,Grow H G→∀ (R : Type) (f : Nat→List AV→Option R),srcK sz y G f = f (len - k) (l.drop (k * sz)):=by
 obtain ⟨rfl,rfl,rfl⟩ | ⟨a,rfl,hl,hr,h0,h1⟩:=h
 ·obtain rfl : k = 0:=by omega
  exact ⟨.ns,fun R c G=>rfl,fun G g R f=>by rw [Nat.zero_mul]; rfl⟩
 ·have hm : k * sz≤len * sz:=Nat.mul_le_mul_right sz hk
  refine ⟨.sl a (0 + k * sz) (len - k) none sz,fun R c G=>sll_from hk,fun G g R f=>?_⟩
  rw [src_sl (hr.grow g h1) (by rw [Nat.mul_comm (len - k),Nat.mul_sub_left_distrib,Nat.mul_comm sz,Nat.mul_comm sz]; omega),Nat.zero_add,List.take_of_length_le (by rw [List.length_drop,hl,Nat.mul_comm (len - k),Nat.mul_sub_left_distrib,Nat.mul_comm sz,Nat.mul_comm sz]; omega)]
/-- The cells of plain values. -/
def pcs (l : List Pl) : List AV:=(l.map Pl.cs).flatten
theorem pcs_app (l l' : List Pl) : pcs (l ++ l') = pcs l ++ pcs l':=by unfold pcs; rw [List.map_append,List.flatten_append]
theorem pcs_7 (l : List Pl) : ∀ c ∈ l.map Pl.cs,c.length = 7:=by
 intro c hc
 obtain ⟨p,_,rfl⟩:=List.mem_map.mp hc
 rfl
theorem pcs_len (l : List Pl) : (pcs l).length = l.length * 7:=by
 have:=(flat_at (pcs_7 l)).1
 rw [List.length_map] at this
 exact this
theorem pcs_one (l : List Pl) : ∀ v ∈ pcs l,oneC v = true:=by
 intro v hv
 obtain ⟨c,hc,hv⟩:=List.mem_flatten.mp hv
 obtain ⟨p,_,rfl⟩:=List.mem_map.mp hc
 exact (Pl.one p v hv).1
theorem pcs_take (l : List Pl) (k : Nat) : (pcs l).take (k * 7) = pcs (l.take k):=by
 by_cases hk : k≤l.length
 ·have h : pcs l = pcs (l.take k) ++ pcs (l.drop k):=by rw [← pcs_app,List.take_append_drop]
  have hl : (pcs (l.take k)).length = k * 7:=by rw [pcs_len,List.length_take,Nat.min_eq_left hk]
  rw [h,List.take_append_of_le_length (by omega),List.take_of_length_le (by omega)]
 ·rw [List.take_of_length_le (by rw [pcs_len]; omega),List.take_of_length_le (by omega)]
theorem pcs_drop (l : List Pl) {k : Nat} (hk : k≤l.length) : (pcs l).drop (k * 7) = pcs (l.drop k):=by
 have h : pcs l = pcs (l.take k) ++ pcs (l.drop k):=by rw [← pcs_app,List.take_append_drop]
 have hl : (pcs (l.take k)).length = k * 7:=by rw [pcs_len,List.length_take,Nat.min_eq_left hk]
 rw [h,List.drop_append_of_le_length (by omega),List.drop_of_length_le (by omega),List.nil_append]
/-- Plain values,held. -/
structure Pls (H0 H : Heap) (x : AV) (l : List Pl) : Prop where
 g : Grow H0 H
 h : Held H0 H 85 7 x l.length (pcs l)
 ok : ∀ p ∈ l,p.Ok
theorem Pls.grow {H0 H H' : Heap} {x : AV} {l : List Pl} (h : Pls H0 H x l) (g : Grow H H') : Pls H0 H' x l:=⟨h.g.trans g,h.h.grow g,h.ok⟩
theorem Pls.lst {H0 H : Heap} {x : AV} {l : List Pl} (h : Pls H0 H x l) {S : Pa→Prop} (hS : ∀ a : Pa,H0.next.toN≤a.toN→a.toN < H.next.toN→S a) : Lst 7 PlP S H x l:=by
 obtain ⟨rfl,h1,_⟩ | ⟨a,rfl,hl,⟨c,k1,k2⟩,h0,h1⟩:=h.h
 ·exact Or.inl ⟨rfl,List.length_eq_zero_iff.mp h1⟩
 ·refine Or.inr ⟨a,0,none,_,_,_,_,c,rfl,hS a h0 h1,h1,k1,by omega,fun j r hj=>?_⟩
  have hjl : j < l.length:=(List.getElem?_eq_some_iff.mp hj).1
  refine ⟨h.ok r (List.mem_of_getElem? hj),?_⟩
  rw [getCells_part k2 (by rw [hl]; omega),Nat.zero_add]
  exact flat_part (pcs_7 l) (by rw [List.getElem?_map,hj]; rfl)
/-- One put among the others. -/
theorem ins {H0 H : Heap} {x5 : AV} {lo : List Pl} (hs : Pls H0 H x5 lo) {k : Nat} (hk : k≤lo.length) (h8 : lo.length≤8) {p : Pl} (hp : p.Ok) :
  ∃ y z xA HA HB xB HC xC HD,(∀ (R : Type) (c : HK R) (G : Heap),sllC 7 x5 none (some (.i .i64 (k : Int))) none c G = c y G)∧(∀ (R : Type) (c : HK R),appendK 85 7 96 .ns y H c = c xA HA) ∧
   HB = HA.alloc (.cells false 0 85 7 (setCells p.cs 0 .leaf))∧(∀ (R : Type) (c : HK R),appendK 85 7 96 xA (.sl HA.next 0 1 (some 1) 7) HB c = c xB HC) ∧
   (∀ (R : Type) (c : HK R) (G : Heap),sllC 7 x5 (some (.i .i64 (k : Int))) none none c G = c z G)∧(∀ (R : Type) (c : HK R),appendK 85 7 96 xB z HC c = c xC HD)∧Pls H0 HD xC (lo.take k ++ p :: lo.drop k) ∧
   Grow H HA:=by
 have room : (20 * 96 : Nat)≤roomN:=by decide
 obtain ⟨y,hy,sy⟩:=held_first hs.h hk
 obtain ⟨z,hz,sz⟩:=held_rest hs.h hk
 have htl : (lo.take k).length = k:=by rw [List.length_take,Nat.min_eq_left hk]
 obtain ⟨HA,xA,gA,nA,hA,eA⟩:=held_appn (Held.init H H 85 7) (n:=k) (bytes:=96) (ys:=pcs (lo.take k)) (Grow.refl H) (by decide) (by rw [pcs_len,htl]) (pcs_one _) (by omega)
 rw [List.nil_append,Nat.zero_add] at hA
 obtain ⟨HB,eB⟩ : ∃ HB,HB = HA.alloc (.cells false 0 85 7 (setCells p.cs 0 .leaf)):=⟨_,rfl⟩
 have gB : Grow HA HB:=by rw [eB]; exact Grow.alloc HA _
 have rB : Row HB HA.next 85 p.cs:=by rw [eB]; exact Row.new HA 85 p.cs
 obtain ⟨HC,gC,nC,hC,eC⟩:=(hA.grow gB).app (n:=0) (bytes:=96) (ys:=p.cs) (gA.trans gB) (by decide) rfl (fun v hv=>(Pl.one p v hv).1) (by omega)
 obtain ⟨HD,xD,gD,nD,hD,eD⟩:=held_appn hC (n:=lo.length - k) (bytes:=96) (ys:=pcs (lo.drop k)) gC (by decide) (by rw [pcs_len,List.length_drop]) (pcs_one _) (by omega)
 refine ⟨y,z,xA,HA,HB,_,HC,xD,HD,hy,fun R c=>eA R c y fun f=>?_,eB,fun R c=>eC R c _ fun f=>src_all (n:=0 + 1) rB rfl f,hz,fun R c=>eD R c z fun f=>?_,⟨hs.g.trans gD,?_,?_⟩,gA⟩
 ·rw [sy H (Grow.refl H),pcs_take]
 ·rw [sz HC gC,pcs_drop lo hk]
 ·have e1 : (lo.take k ++ p :: lo.drop k).length = k + (0 + 1) + (lo.length - k):=by
   rw [List.length_append,htl,List.length_cons,List.length_drop]; omega
  have e2 : pcs (lo.take k ++ p :: lo.drop k) = pcs (lo.take k) ++ p.cs ++ pcs (lo.drop k):=by
   rw [pcs_app,List.append_assoc]; rfl
  rw [e1,e2]
  exact hD.back hs.g
 ·intro q hq
  rw [List.mem_append,List.mem_cons] at hq
  rcases hq with hq | rfl | hq
  ·exact hs.ok q (List.mem_of_mem_take hq)
  ·exact hp
  ·exact hs.ok q (List.mem_of_mem_drop hq)
def F55a (x : AV) (b : Pa) (i : Nat) (fr : Tr AV) : Prop:=V fr 0 = x∧V fr 2 = .p b 0∧V fr 4 = .i .i64 (i : Int)
/-- The first walk: all of one kind. -/
theorem loop55a {H0 : Heap} {x : AV} {l : List Pl} (hx : Lst 7 PlP Any H0 x l) {b : Pa} {c : Nat} (hc : ∀ p ∈ l,p.op = c) (hc4 : c≤4) (h8 : l.length≤8) :
  ∀ fr,F55a x b 0 fr→∀ M,200 + l.length≤M→∀ (R : Type) (k : XK R) (res : Option R),(∀ fr',F55a x b l.length fr'→k (.exit 0) fr' H0 = res)→runK tbl M R Lp55a fr H0 k = res:=by
 have G:=loop_gen (Lp:=Lp55a) (ex:=0) (n:=l.length) (c:=200) (St:=Unit) (fun _ H _=>H = H0) (fun i _ fr=>F55a x b i fr) ?hend ?hstep l.length 0 H0 () (by omega) rfl
 case hend =>
  rintro H _ rfl fr ⟨f0,f2,f4⟩
  refine ⟨?fr1,⟨?p0,?p2,?p4⟩,fun M hM R k=>?e⟩
  case e =>
   obtain ⟨m,rfl⟩ : ∃ m,M = m + 100:=⟨M - 100,by omega⟩
   unfold Lp55a
   rw [run_loop]
   simp only [EX,reduceIte,Nat.reduceEqDiff,Nat.reduceAdd,Int.reduceEq,Int.reduceLT,Int.reduceLE,reduceCtorEq,Nat.reduceLeDiff,Nat.reduceSub,Nat.reduceLT,f0,f4,hx.len,Int.lt_irrefl]
   with_reducible rfl
  case p0=>simp only [V_S,Nat.reduceEqDiff,reduceIte]; exact f0
  case p2=>simp only [V_S,Nat.reduceEqDiff,reduceIte]; exact f2
  case p4=>simp only [V_S,Nat.reduceEqDiff,reduceIte]; exact f4
 case hstep =>
  rintro i H _ hi rfl
  refine ⟨H,(),rfl,?_⟩
  rintro fr ⟨f0,f2,f4⟩
  have h0l : 0 < l.length:=by omega
  obtain ⟨a,o,bs,⟨_,rfl⟩,ha,eix,eld,_⟩:=hx.at plP (List.getElem?_eq_getElem hi)
  obtain ⟨a',o',bs',⟨_,rfl⟩,ha',eix',eld',_⟩:=hx.at plP (j:=0) (List.getElem?_eq_getElem h0l)
  have q1:=hc _ (List.getElem_mem hi)
  have q2:=hc _ (List.getElem_mem h0l)
  have ld1:=eld H (Grow.refl H) 0 (.i .i64 (c : Int)) (by rw [← q1]; rfl)
  have ld2:=eld' H (Grow.refl H) 0 (.i .i64 (c : Int)) (by rw [← q2]; rfl)
  rw [Nat.add_zero] at ld1 ld2
  have eix' : ∀ (R : Type) (k : HK R) (G : Heap),ixaC 7 x (.i .i64 0) k G = k (.p a' o') G:=eix'
  have hlt : (i : Int) < (l.length : Int):=by omega
  have hc5 : ¬ (c : Int) = 5:=by omega
  have hw : IntKind.i64.wrap ((i : Int) + 1) = ((i + 1 : Nat) : Int):=by rw [show (i : Int) + 1 = ((i + 1 : Nat) : Int) by omega,wrap_n64 (by omega)]
  refine ⟨?fr1b,⟨?p0b,?p2b,?p4b⟩,fun M hM R k=>?eb⟩
  case eb =>
   obtain ⟨m,rfl⟩ : ∃ m,M = m + 100:=⟨M - 100,by omega⟩
   unfold Lp55a
   rw [run_loop]
   simp only [EX,reduceIte,Nat.reduceEqDiff,Nat.reduceAdd,Int.reduceEq,Int.reduceLT,Int.reduceLE,reduceCtorEq,Nat.reduceLeDiff,Nat.reduceSub,Nat.reduceLT,f0,f4,hx.len,hlt,eix,eix',ld1,ld2,Nat.add_zero,hc5,avEq_i,i_add,hw,i_neq]
   with_reducible rfl
  case p0b=>simp only [V_S,Nat.reduceEqDiff,reduceIte]; exact f0
  case p2b=>simp only [V_S,Nat.reduceEqDiff,reduceIte]; exact f2
  case p4b=>simp only [V_S,Nat.reduceEqDiff,reduceIte]
 obtain ⟨H',_,rfl,e⟩:=G
 exact e
end Go.Proofs.YtmmmjhkgjmbfaaaDoor

/- A set of plain values (chancelref3.Set),the whole. -/
namespace Go.Proofs.YtmmmjhkgjmbfaaaDoor
open Go Go.Vai
set_option maxRecDepth 100000
set_option maxHeartbeats 1600000
set_option linter.unusedSimpArgs false
/-- A loop,by what a round does; all told by what comes behind. -/
theorem loop_cps {Lp : AC} {ex n c : Nat} {St : Type} (Inv : Nat→Heap→St→Prop) (F : Nat→St→Tr AV→Prop)
  (hend : ∀ H st,Inv n H st→∀ fr,F n st fr→∀ M,c≤M→∀ (R : Type) (k : XK R) (res : Option R),(∀ fr',F n st fr'→k (.exit ex) fr' H = res)→runK tbl M R Lp fr H k = res)
  (hstep : ∀ i H st,i < n→Inv i H st→∃ H' st',Inv (i + 1) H' st'∧∀ fr,F i st fr→∀ M,c≤M→∀ (R : Type) (k : XK R) (res : Option R),(∀ fr',F (i + 1) st' fr'→runK tbl M R Lp fr' H' k = res)→runK tbl (M + 1) R Lp fr H k = res) :
  ∀ m i H st,i + m = n→Inv i H st→∃ H' st',Inv n H' st'∧∀ fr,F i st fr→∀ M,c + m≤M→∀ (R : Type) (k : XK R) (res : Option R),(∀ fr',F n st' fr'→k (.exit ex) fr' H' = res)→runK tbl M R Lp fr H k = res:=by
 intro m
 induction m with
 | zero =>
  intro i H st hi inv
  obtain rfl : i = n:=by omega
  exact ⟨H,st,inv,fun fr f M hM R k res hr=>hend H st inv fr f M (by omega) R k res hr⟩
 | succ m ih =>
  intro i H st hi inv
  obtain ⟨H1,st1,inv1,e1⟩:=hstep i H st (by omega) inv
  obtain ⟨H2,st2,inv2,e2⟩:=ih (i + 1) H1 st1 (by omega) inv1
  refine ⟨H2,st2,inv2,fun fr f M hM R k res hr=>?_⟩
  obtain ⟨M,rfl⟩ : ∃ m,M = m + 1:=⟨M - 1,by omega⟩
  exact e1 fr f M (by omega) R k res fun fr' f'=>e2 fr' f' M (by omega) R k res hr
theorem inc_i {i : Nat} (h : i < 1000) : IntKind.i64.wrap ((i : Int) + 1) = ((i + 1 : Nat) : Int):=by rw [show (i : Int) + 1 = ((i + 1 : Nat) : Int) by omega,wrap_n64 (by omega)]
def F55c (x : AV) (b : Pa) (x5 : AV) (i k : Nat) (fr : Tr AV) : Prop:=V fr 0 = x∧V fr 2 = .p b 0∧V fr 5 = x5∧V fr 6 = .i .i64 (i : Int)∧V fr 7 = .i .i64 (k : Int)
theorem loop55c {H0 : Heap} {x : AV} {l : List Pl} (hx : Lst 7 PlP Any H0 x l) {b : Pa} {i : Nat} {p : Pl} (hi : l[i]? = some p) {x5 : AV} {lo : List Pl} (h8 : lo.length≤8) :
  ∀ m k H,k + m = lo.length→Pls H0 H x5 lo→∃ k' H',k'≤lo.length∧Pls H0 H' x5 lo∧∀ fr,F55c x b x5 i k fr→∀ M,1000 + m≤M→∀ (R : Type) (kk : XK R) (res : Option R),(∀ fr',F55c x b x5 i k' fr'→kk (.exit 4) fr' H' = res)→runK tbl M R Lp55c fr H kk = res:=by
 intro m
 induction m with
 | zero =>
  intro k H hk P
  obtain rfl : k = lo.length:=by omega
  have hl:=P.lst (S:=Any) fun _ _ _=>trivial
  refine ⟨lo.length,H,Nat.le_refl _,P,?_⟩
  rintro fr ⟨f0,f2,f5,f6,f7⟩ M hM R kk res hr
  obtain ⟨m,rfl⟩ : ∃ m,M = m + 100:=⟨M - 100,by omega⟩
  unfold Lp55c
  rw [run_loop]
  simp only [EX,reduceIte,Nat.reduceEqDiff,Nat.reduceAdd,Int.reduceEq,Int.reduceLT,Int.reduceLE,reduceCtorEq,Nat.reduceLeDiff,Nat.reduceSub,Nat.reduceLT,f5,f7,hl.len,Int.lt_irrefl]
  exact hr _ ⟨by simp only [V_S,Nat.reduceEqDiff,reduceIte]; exact f0,by simp only [V_S,Nat.reduceEqDiff,reduceIte]; exact f2,by simp only [V_S,Nat.reduceEqDiff,reduceIte]; exact f5,by simp only [V_S,Nat.reduceEqDiff,reduceIte]; exact f6,by simp only [V_S,Nat.reduceEqDiff,reduceIte]; exact f7⟩
 | succ m ih =>
  intro k H hk P
  have hl:=P.lst (S:=Any) fun _ _ _=>trivial
  have hkl : k < lo.length:=by omega
  obtain ⟨a,o,bs,⟨_,rfl⟩,ha,eix,_,eld⟩:=(hx.grow plP P.g).at plP hi
  obtain ⟨a',o',bs',⟨_,rfl⟩,ha',eix',_,eld'⟩:=hl.at plP (List.getElem?_eq_getElem hkl)
  obtain ⟨v,H1,g1,e69⟩:=s69 lo[k] p H
  have ld1 : ∀ (R : Type) (c : HK R),ldC true 7 (.p a o) c H = c (.ag p.cs) H:=eld H (Grow.refl H) 0 7 (by omega)
  have ld2 : ∀ (R : Type) (c : HK R),ldC true 7 (.p a' o') c H = c (.ag lo[k].cs) H:=eld' H (Grow.refl H) 0 7 (by omega)
  have hlt : (k : Int) < (lo.length : Int):=by omega
  have ax1 : avEq (.ag p.cs) (.ag p.cs) = true:=avEq_ag fun v hv=>(Pl.one p v hv).2
  have ax2 : avEq (.ag lo[k].cs) (.ag lo[k].cs) = true:=avEq_ag fun v hv=>(Pl.one _ v hv).2
  cases v with
  | false =>
   refine ⟨k,H1,by omega,P.grow g1,?_⟩
   rintro fr ⟨f0,f2,f5,f6,f7⟩ M hM R kk res hr
   obtain ⟨m,rfl⟩ : ∃ m,M = m + 1000:=⟨M - 1000,by omega⟩
   unfold Lp55c
   rw [run_loop]
   simp only [EX,reduceIte,Nat.reduceEqDiff,Nat.reduceAdd,Int.reduceEq,Int.reduceLT,Int.reduceLE,reduceCtorEq,Nat.reduceLeDiff,Nat.reduceSub,Nat.reduceLT,f0,f5,f6,f7,hl.len,hlt,eix,eix',ld1,ld2,ax1,ax2]
   rw [e69 _ (by omega)]
   simp only [EX,reduceIte,Nat.reduceEqDiff,Nat.reduceAdd,Int.reduceEq,Int.reduceLT,Int.reduceLE,reduceCtorEq,Nat.reduceLeDiff,Nat.reduceSub,Nat.reduceLT]
   exact hr _ ⟨by simp only [V_S,Nat.reduceEqDiff,reduceIte]; exact f0,by simp only [V_S,Nat.reduceEqDiff,reduceIte]; exact f2,by simp only [V_S,Nat.reduceEqDiff,reduceIte]; exact f5,by simp only [V_S,Nat.reduceEqDiff,reduceIte]; exact f6,by simp only [V_S,Nat.reduceEqDiff,reduceIte]; exact f7⟩
  | true =>
   obtain ⟨k',H2,hk',P2,e2⟩:=ih (k + 1) H1 (by omega) (P.grow g1)
   refine ⟨k',H2,hk',P2,?_⟩
   rintro fr ⟨f0,f2,f5,f6,f7⟩ M hM R kk res hr
   obtain ⟨m',rfl⟩ : ∃ m',M = m' + 1001:=⟨M - 1001,by omega⟩
   unfold Lp55c
   rw [run_loop]
   simp only [EX,reduceIte,Nat.reduceEqDiff,Nat.reduceAdd,Int.reduceEq,Int.reduceLT,Int.reduceLE,reduceCtorEq,Nat.reduceLeDiff,Nat.reduceSub,Nat.reduceLT,f0,f5,f6,f7,hl.len,hlt,eix,eix',ld1,ld2,ax1,ax2]
   rw [e69 _ (by omega)]
   simp only [EX,reduceIte,Nat.reduceEqDiff,Nat.reduceAdd,Int.reduceEq,Int.reduceLT,Int.reduceLE,reduceCtorEq,Nat.reduceLeDiff,Nat.reduceSub,Nat.reduceLT,f7,i_add,inc_i (show k < 1000 by omega)]
   exact e2 _ ⟨by simp only [V_S,Nat.reduceEqDiff,reduceIte]; exact f0,by simp only [V_S,Nat.reduceEqDiff,reduceIte]; exact f2,by simp only [V_S,Nat.reduceEqDiff,reduceIte]; exact f5,by simp only [V_S,Nat.reduceEqDiff,reduceIte]; exact f6,by simp only [V_S,Nat.reduceEqDiff,reduceIte]⟩ _ (by omega) R kk res hr
def F55b (x : AV) (b : Pa) (i : Nat) (x5 : AV) (fr : Tr AV) : Prop:=V fr 0 = x∧V fr 2 = .p b 0∧V fr 5 = x5∧V fr 6 = .i .i64 (i : Int)
/-- The second walk. -/
theorem loop55b {H0 : Heap} {x : AV} {l : List Pl} (hx : Lst 7 PlP Any H0 x l) {b : Pa} (h8 : l.length≤8) :
  ∃ H' xo lo,Pls H0 H' xo lo∧lo.length≤l.length∧∀ fr,F55b x b 0 .ns fr→∀ M,1200 + l.length≤M→∀ (R : Type) (k : XK R) (res : Option R),(∀ fr',F55b x b l.length xo fr'→k (.exit 2) fr' H' = res)→runK tbl M R Lp55b fr H0 k = res:=by
 have G:=loop_cps (Lp:=Lp55b) (ex:=2) (n:=l.length) (c:=1200) (St:=AV × List Pl) (fun i H st=>Pls H0 H st.1 st.2∧st.2.length≤i) (fun i st fr=>F55b x b i st.1 fr) ?hend ?hstep l.length 0 H0 (.ns,[]) (by omega) ⟨⟨Grow.refl _,Held.init _ _ _ _,fun p hp=>by cases hp⟩,Nat.zero_le _⟩
 case hend =>
  rintro H ⟨x5,lo⟩ ⟨P,hlo⟩ fr ⟨f0,f2,f5,f6⟩ M hM R k res hr
  obtain ⟨m,rfl⟩ : ∃ m,M = m + 100:=⟨M - 100,by omega⟩
  unfold Lp55b
  rw [run_loop]
  simp only [EX,reduceIte,Nat.reduceEqDiff,Nat.reduceAdd,Int.reduceEq,Int.reduceLT,Int.reduceLE,reduceCtorEq,Nat.reduceLeDiff,Nat.reduceSub,Nat.reduceLT,f0,f6,hx.len,Int.lt_irrefl]
  exact hr _ ⟨by simp only [V_S,Nat.reduceEqDiff,reduceIte]; exact f0,by simp only [V_S,Nat.reduceEqDiff,reduceIte]; exact f2,by simp only [V_S,Nat.reduceEqDiff,reduceIte]; exact f5,by simp only [V_S,Nat.reduceEqDiff,reduceIte]; exact f6⟩
 case hstep =>
  rintro i H ⟨x5,lo⟩ hi ⟨P,hlo⟩
  have P : Pls H0 H x5 lo:=P
  have hlo : lo.length≤i:=hlo
  have hil : l[i]? = some l[i]:=List.getElem?_eq_getElem hi
  obtain ⟨k',H1,hk',P1,ec⟩:=loop55c hx (b:=b) hil (x5:=x5) (lo:=lo) (by omega) lo.length 0 H (by omega) P
  have hl1:=P1.lst (S:=Any) fun _ _ _=>trivial
  obtain ⟨a,o,bs,hPl,ha,eix,_,eld⟩:=hx.at plP hil
  obtain ⟨hok,rfl⟩:=hPl
  have hlt : (i : Int) < (l.length : Int):=by omega
  have hw:=inc_i (show i < 1000 by omega)
  have ld1 : ∀ (R : Type) (c : HK R),ldC true 7 (.p a o) c H1 = c (.ag l[i].cs) H1:=eld H1 P1.g 0 7 (by omega)
  have ax1 : avEq (.ag l[i].cs) (.ag l[i].cs) = true:=avEq_ag fun v hv=>(Pl.one _ v hv).2
  have hlay : lay [.i .i64 0,.b false,.i .i64 0,str [],str [],str [],.ns] 0 l[i].cs = l[i].cs:=lay_all rfl
  by_cases hkl : k' < lo.length
  ·have hlt2 : (k' : Int) < (lo.length : Int):=by omega
   obtain ⟨a',o',bs',⟨_,rfl⟩,ha',eix',_,eld'⟩:=hl1.at plP (List.getElem?_eq_getElem hkl)
   obtain ⟨v,H2,g2,e70⟩:=s70 lo[k'] l[i] H1
   have ld2 : ∀ (R : Type) (c : HK R),ldC true 7 (.p a' o') c H1 = c (.ag lo[k'].cs) H1:=eld' H1 (Grow.refl H1) 0 7 (by omega)
   have ax2 : avEq (.ag lo[k'].cs) (.ag lo[k'].cs) = true:=avEq_ag fun v hv=>(Pl.one _ v hv).2
   cases v with
   | true =>
    refine ⟨H2,(x5,lo),⟨P1.grow g2,by show lo.length≤i + 1; omega⟩,?_⟩
    rintro fr ⟨f0,f2,f5,f6⟩ M hM R k res hr
    obtain ⟨m,rfl⟩ : ∃ m,M = m + 1200:=⟨M - 1200,by omega⟩
    unfold Lp55b
    rw [run_loop]
    simp only [EX,reduceIte,Nat.reduceEqDiff,Nat.reduceAdd,Int.reduceEq,Int.reduceLT,Int.reduceLE,reduceCtorEq,Nat.reduceLeDiff,Nat.reduceSub,Nat.reduceLT,f0,f6,hx.len,hlt]
    refine ec _ ?ff _ ?hm R _ _ ?ee
    case ff=>exact ⟨by simp only [V_S,Nat.reduceEqDiff,reduceIte]; exact f0,by simp only [V_S,Nat.reduceEqDiff,reduceIte]; exact f2,by simp only [V_S,Nat.reduceEqDiff,reduceIte]; exact f5,by simp only [V_S,Nat.reduceEqDiff,reduceIte]; exact f6,by (simp only [V_S,Nat.reduceEqDiff,reduceIte]) <;> rfl⟩
    case hm=>omega
    case ee =>
     rintro fr' ⟨c0,c2,c5,c6,c7⟩
     simp only [EX,reduceIte,Nat.reduceEqDiff,Nat.reduceAdd,Int.reduceEq,Int.reduceLT,Int.reduceLE,reduceCtorEq,Nat.reduceLeDiff,Nat.reduceSub,Nat.reduceLT,c0,c5,c6,c7,hl1.len,hlt2,eix,eix',ld1,ld2,ax1,ax2]
     rw [e70 _ (by omega)]
     simp only [EX,reduceIte,Nat.reduceEqDiff,Nat.reduceAdd,Int.reduceEq,Int.reduceLT,Int.reduceLE,reduceCtorEq,Nat.reduceLeDiff,Nat.reduceSub,Nat.reduceLT,c6,i_add,hw]
     exact hr _ ⟨by simp only [V_S,Nat.reduceEqDiff,reduceIte]; exact c0,by simp only [V_S,Nat.reduceEqDiff,reduceIte]; exact c2,by simp only [V_S,Nat.reduceEqDiff,reduceIte]; exact c5,by simp only [V_S,Nat.reduceEqDiff,reduceIte]⟩
   | false =>
    obtain ⟨y,z,xA,HA,HB,xB,HC,xC,HD,hy,eA,eB,eC,hz,eD,PD,gA⟩:=ins (P1.grow g2) hk' (by omega) hok
    refine ⟨HD,(xC,lo.take k' ++ l[i] :: lo.drop k'),⟨PD,by show (lo.take k' ++ l[i] :: lo.drop k').length≤i + 1; rw [List.length_append,List.length_take,List.length_cons,List.length_drop]; omega⟩,?_⟩
    have ld3 : ∀ (R : Type) (c : HK R) ,ldC true 7 (.p a o) c HA = c (.ag l[i].cs) HA:=eld HA (P1.g.trans (g2.trans gA)) 0 7 (by omega)
    rintro fr ⟨f0,f2,f5,f6⟩ M hM R k res hr
    obtain ⟨m,rfl⟩ : ∃ m,M = m + 1200:=⟨M - 1200,by omega⟩
    unfold Lp55b
    rw [run_loop]
    simp only [EX,reduceIte,Nat.reduceEqDiff,Nat.reduceAdd,Int.reduceEq,Int.reduceLT,Int.reduceLE,reduceCtorEq,Nat.reduceLeDiff,Nat.reduceSub,Nat.reduceLT,f0,f6,hx.len,hlt]
    refine ec _ ?ff2 _ ?hm2 R _ _ ?ee2
    case ff2=>exact ⟨by simp only [V_S,Nat.reduceEqDiff,reduceIte]; exact f0,by simp only [V_S,Nat.reduceEqDiff,reduceIte]; exact f2,by simp only [V_S,Nat.reduceEqDiff,reduceIte]; exact f5,by simp only [V_S,Nat.reduceEqDiff,reduceIte]; exact f6,by (simp only [V_S,Nat.reduceEqDiff,reduceIte]) <;> rfl⟩
    case hm2=>omega
    case ee2 =>
     rintro fr' ⟨c0,c2,c5,c6,c7⟩
     simp only [EX,reduceIte,Nat.reduceEqDiff,Nat.reduceAdd,Int.reduceEq,Int.reduceLT,Int.reduceLE,reduceCtorEq,Nat.reduceLeDiff,Nat.reduceSub,Nat.reduceLT,c0,c5,c6,c7,hl1.len,hlt2,eix,eix',ld1,ld2,ax1,ax2]
     rw [e70 _ (by omega)]
     simp only [EX,reduceIte,Nat.reduceEqDiff,Nat.reduceAdd,Int.reduceEq,Int.reduceLT,Int.reduceLE,reduceCtorEq,Nat.reduceLeDiff,Nat.reduceSub,Nat.reduceLT,c0,c5,c6,c7,hy,eA,eix,ld3]
     rw [fill_agn ?fa ?fb]
     case fa=>rfl
     case fb=>show 7≤7; omega
     simp only [EX,reduceIte,Nat.reduceEqDiff,Nat.reduceAdd,Int.reduceEq,Int.reduceLT,Int.reduceLE,reduceCtorEq,Nat.reduceLeDiff,Nat.reduceSub,Nat.reduceLT]
     rw [hlay,show (Pl.cs l[i]).length = 7 from rfl,← eB]
     simp only [EX,reduceIte,Nat.reduceEqDiff,Nat.reduceAdd,Int.reduceEq,Int.reduceLT,Int.reduceLE,reduceCtorEq,Nat.reduceLeDiff,Nat.reduceSub,Nat.reduceLT,eC,c5,c7,hz,eD,c6,i_add,hw]
     exact hr _ ⟨by simp only [V_S,Nat.reduceEqDiff,reduceIte]; exact c0,by simp only [V_S,Nat.reduceEqDiff,reduceIte]; exact c2,by simp only [V_S,Nat.reduceEqDiff,reduceIte],by simp only [V_S,Nat.reduceEqDiff,reduceIte]⟩
  ·have hlt2 : ¬ (k' : Int) < (lo.length : Int):=by omega
   obtain ⟨y,z,xA,HA,HB,xB,HC,xC,HD,hy,eA,eB,eC,hz,eD,PD,gA⟩:=ins P1 hk' (by omega) hok
   refine ⟨HD,(xC,lo.take k' ++ l[i] :: lo.drop k'),⟨PD,by show (lo.take k' ++ l[i] :: lo.drop k').length≤i + 1; rw [List.length_append,List.length_take,List.length_cons,List.length_drop]; omega⟩,?_⟩
   have ld3 : ∀ (R : Type) (c : HK R) ,ldC true 7 (.p a o) c HA = c (.ag l[i].cs) HA:=eld HA (P1.g.trans gA) 0 7 (by omega)
   rintro fr ⟨f0,f2,f5,f6⟩ M hM R k res hr
   obtain ⟨m,rfl⟩ : ∃ m,M = m + 1200:=⟨M - 1200,by omega⟩
   unfold Lp55b
   rw [run_loop]
   simp only [EX,reduceIte,Nat.reduceEqDiff,Nat.reduceAdd,Int.reduceEq,Int.reduceLT,Int.reduceLE,reduceCtorEq,Nat.reduceLeDiff,Nat.reduceSub,Nat.reduceLT,f0,f6,hx.len,hlt]
   refine ec _ ?ff3 _ ?hm3 R _ _ ?ee3
   case ff3=>exact ⟨by simp only [V_S,Nat.reduceEqDiff,reduceIte]; exact f0,by simp only [V_S,Nat.reduceEqDiff,reduceIte]; exact f2,by simp only [V_S,Nat.reduceEqDiff,reduceIte]; exact f5,by simp only [V_S,Nat.reduceEqDiff,reduceIte]; exact f6,by (simp only [V_S,Nat.reduceEqDiff,reduceIte]) <;> rfl⟩
   case hm3=>omega
   case ee3 =>
    rintro fr' ⟨c0,c2,c5,c6,c7⟩
    simp only [EX,reduceIte,Nat.reduceEqDiff,Nat.reduceAdd,Int.reduceEq,Int.reduceLT,Int.reduceLE,reduceCtorEq,Nat.reduceLeDiff,Nat.reduceSub,Nat.reduceLT,c0,c5,c6,c7,hl1.len,hlt2,hy,eA,eix,ld3]
    rw [fill_agn ?fc ?fd]
    case fc=>rfl
    case fd=>show 7≤7; omega
    simp only [EX,reduceIte,Nat.reduceEqDiff,Nat.reduceAdd,Int.reduceEq,Int.reduceLT,Int.reduceLE,reduceCtorEq,Nat.reduceLeDiff,Nat.reduceSub,Nat.reduceLT]
    rw [hlay,show (Pl.cs l[i]).length = 7 from rfl,← eB]
    simp only [EX,reduceIte,Nat.reduceEqDiff,Nat.reduceAdd,Int.reduceEq,Int.reduceLT,Int.reduceLE,reduceCtorEq,Nat.reduceLeDiff,Nat.reduceSub,Nat.reduceLT,eC,c5,c7,hz,eD,c6,i_add,hw]
    exact hr _ ⟨by simp only [V_S,Nat.reduceEqDiff,reduceIte]; exact c0,by simp only [V_S,Nat.reduceEqDiff,reduceIte]; exact c2,by simp only [V_S,Nat.reduceEqDiff,reduceIte],by simp only [V_S,Nat.reduceEqDiff,reduceIte]⟩
 obtain ⟨H',⟨xo,lo⟩,⟨P,hlo⟩,e⟩:=G
 exact ⟨H',xo,lo,P,hlo,e⟩
end Go.Proofs.YtmmmjhkgjmbfaaaDoor

/- A value such as may be (chancellaw3.Good): a plain one,or a set of some. -/
namespace Go.Proofs.YtmmmjhkgjmbfaaaDoor
open Go Go.Vai
set_option maxRecDepth 100000
set_option maxHeartbeats 1600000
set_option linter.unusedSimpArgs false
theorem res_ct {R : Type} {fr : Tr AV} {H : Heap} {k : HK R} {n m : Nat} {b : Nat} : resC [.cell (toPa n) true m,.tmp (toPa b)] fr H k = ldC true m (V fr n) (fun v _=>k (.tu [v,V fr b]) H) H:=by
 show getK un (toPa n) fr (fun v=>resCell true m v H fun v=>getK un (toPa b) fr fun w=>oneRes [v,w] H k) = _
 rw [getK_eq]
 show resCell true m (V fr n) H (fun v=>getK un (toPa b) fr fun w=>oneRes [v,w] H k) = _
 simp only [getK_eq]
 rfl
theorem Pls.add {Hb H H3 : Heap} {x : AV} {l : List Pl} (P : Pls Hb H x l) (g : Grow H H3) {q : Pa} {p : Pl} (r3 : Row H3 q 85 p.cs) (hp : p.Ok) (h8 : l.length≤8) :
  ∃ H4 x',Pls Hb H4 x' (l ++ [p])∧Grow Hb H4∧∀ (R : Type) (k : HK R),appendK 85 7 96 x (.sl q 0 1 (some 1) 7) H3 k = k x' H4:=by
 have room : (20 * 96 : Nat)≤roomN:=by decide
 obtain ⟨H4,g4,n4,h4,e4⟩:=(P.h.grow g).app (n:=0) (bytes:=96) (ys:=p.cs) (P.g.trans g) (by decide) rfl (fun v hv=>(Pl.one p v hv).1) (by omega)
 refine ⟨H4,_,⟨g4,?_,?_⟩,g4,fun R k=>e4 R k _ fun f=>src_all (n:=0 + 1) r3 rfl f⟩
 ·have e1 : (l ++ [p]).length = l.length + (0 + 1):=by simp
  have e2 : pcs (l ++ [p]) = pcs l ++ p.cs:=by rw [pcs_app]; unfold pcs; simp
  rw [e1,e2]; exact h4
 ·intro q hq
  rw [List.mem_append,List.mem_singleton] at hq
  rcases hq with hq | rfl
  ·exact P.ok q hq
  ·exact hp
/-- chancelref3.Set,of plain values of one kind. -/
theorem s55 {H : Heap} {x : AV} {l : List Pl} (hx : Lst 7 PlP Any H x l) {c : Nat} (hc : ∀ p ∈ l,p.op = c) (hc4 : c≤4) (h8 : l.length≤8) :
  ∃ xo lo H',Pls H H' xo lo∧lo.length≤8∧∀ M,4000≤M→∀ (R : Type) (k : HK R),callK tbl (runK tbl M) R (toPa 55) [x] H k = k (.tu [.ag (ec 5 false 0 [] [] [] xo),.i .i64 0]) H':=by
 obtain ⟨H1,e1⟩ : ∃ H1,H1 = H.alloc (.cells false 0 85 7 (setCells [.i .i64 0,.b false,.i .i64 0,str [],str [],str [],.ns] 0 .leaf)):=⟨_,rfl⟩
 have g1 : Grow H H1:=by rw [e1]; exact Grow.alloc H _
 have n1 : H1.next.toN = H.next.toN + 1:=by rw [e1]; exact next_alloc H _
 have r1 : Row H1 H.next 85 zs7:=by rw [e1]; exact Row.new H 85 zs7
 have hx1:=hx.grow plP g1
 have ea:=loop55a hx1 (b:=H.next) hc hc4 h8
 obtain ⟨H2,xo,lo,P2,hlo,eb⟩:=loop55b hx1 (b:=H.next) h8
 have hl2:=P2.lst (S:=Any) fun _ _ _=>trivial
 have n2:=P2.g.next
 have hoff : Off xo H.next:=P2.h.off (Or.inl (by omega))
 have hcell:=hl2.cell
 obtain ⟨H3,r3,b3,n3,e3⟩:=(r1.grow P2.g (by omega)).st_all (n:=7) (ys:=ec 5 false 0 [] [] [] xo) (by omega) rfl rfl (ec_one hcell.1)
 have la:=r3.la 7 rfl
 refine ⟨xo,lo,H3,⟨b3.of (g1.trans P2.g) (Nat.le_refl _),((P2.h.but b3 hoff).back g1),P2.ok⟩,by omega,fun M hM R k=>?_⟩
 obtain ⟨m,rfl⟩ : ∃ m,M = m + 4000:=⟨M - 4000,by omega⟩
 have hgt : ¬ (8 : Int) < (lo.length : Int):=by omega
 rw [call_eq L55]
 unfold B55
 simp only [EX,reduceIte,Nat.reduceEqDiff,Nat.reduceAdd,Int.reduceEq,Int.reduceLT,Int.reduceLE,reduceCtorEq,Nat.reduceLeDiff,Nat.reduceSub,Nat.reduceLT]
 rw [← e1]
 refine ea _ ?ff _ ?hm R _ _ ?ee
 case ff=>exact ⟨by simp only [V_S,Nat.reduceEqDiff,reduceIte],by simp only [V_S,Nat.reduceEqDiff,reduceIte],by (simp only [V_S,Nat.reduceEqDiff,reduceIte]) <;> rfl⟩
 case hm=>omega
 case ee =>
  rintro fr' ⟨c0,c2,c4⟩
  simp only [EX,reduceIte,Nat.reduceEqDiff,Nat.reduceAdd,Int.reduceEq,Int.reduceLT,Int.reduceLE,reduceCtorEq,Nat.reduceLeDiff,Nat.reduceSub,Nat.reduceLT]
  refine eb _ ?ff2 _ ?hm2 R _ _ ?ee2
  case ff2=>exact ⟨by simp only [V_S,Nat.reduceEqDiff,reduceIte]; exact c0,by simp only [V_S,Nat.reduceEqDiff,reduceIte]; exact c2,by simp only [V_S,Nat.reduceEqDiff,reduceIte],by (simp only [V_S,Nat.reduceEqDiff,reduceIte]) <;> rfl⟩
  case hm2=>omega
  case ee2 =>
   rintro fr2 ⟨d0,d2,d5,d6⟩
   simp only [EX,reduceIte,Nat.reduceEqDiff,Nat.reduceAdd,Int.reduceEq,Int.reduceLT,Int.reduceLE,reduceCtorEq,Nat.reduceLeDiff,Nat.reduceSub,Nat.reduceLT,d5,d2,hl2.len,hgt]
   rw [fill_1 hcell.1 (by decide)]
   simp only [EX,reduceIte,Nat.reduceEqDiff,Nat.reduceAdd,Int.reduceEq,Int.reduceLT,Int.reduceLE,reduceCtorEq,Nat.reduceLeDiff,Nat.reduceSub,Nat.reduceLT,d2]
   refine (e3 _ _).trans ?_
   simp only [EX,reduceIte,Nat.reduceEqDiff,Nat.reduceAdd,Int.reduceEq,Int.reduceLT,Int.reduceLE,reduceCtorEq,Nat.reduceLeDiff,Nat.reduceSub,Nat.reduceLT,res_ct,d2,la]
/-- Numbers as they are given,and where. -/
def IntsP (S : Pa→Prop) (H : Heap) (x : AV) (s : List Int) : Prop:=Ints H x s∧∀ a o l c z,x = .sl a o l c z→S a
theorem IntsP.mv {S S' : Pa→Prop} {H H' : Heap} {x : AV} {s : List Int} (hs : ∀ a,S a→a.toN < H.next.toN→S' a∧H'.get a = H.get a) (hn : H.next.toN≤H'.next.toN) (h : IntsP S H x s) : IntsP S' H' x s:=by
 obtain ⟨h1,h2⟩:=h
 obtain ⟨rfl,rfl⟩ | ⟨a,off,ro,fz,e,size,c,rfl,ha,k1,k2,k3⟩:=h1
 ·exact ⟨Or.inl ⟨rfl,rfl⟩,fun a o l c z q=>by cases q⟩
 ·have:=hs a (h2 _ _ _ _ _ rfl) ha
  exact ⟨Or.inr ⟨a,off,ro,fz,e,size,c,rfl,Nat.lt_of_lt_of_le ha hn,by rw [this.2,k1],k2,k3⟩,fun a' o l c z q=>by cases q; exact this.1⟩
theorem Ints.cell {H : Heap} {x : AV} {s : List Int} (h : Ints H x s) : oneC x = true∧avEq1 x x = true:=by
 obtain ⟨rfl,rfl⟩ | ⟨a,off,ro,fz,e,size,c,rfl,_⟩:=h
 ·exact ⟨rfl,av1_ns⟩
 ·exact ⟨one_sl,av1_sl⟩
/-- A raw value's cells. -/
def R3P : DP Unit:=fun S H bs _=>∃ (op n : Int) (xs xk : AV) (s : List Int),bs = [.i .i64 op,.i .i64 n,xs,xk]∧I64 n∧IntsP S H xs s∧oneC xk = true∧avEq1 xk xk = true
theorem r3P : Mov 4 R3P:=by
 refine ⟨?_,?_,?_⟩
 ·rintro S S' H H' bs _ hs hn ⟨op,n,xs,xk,s,h1,h2,h3,h4⟩
  exact ⟨op,n,xs,xk,s,h1,h2,h3.mv hs hn,h4⟩
 ·rintro S H bs _ ⟨op,n,xs,xk,s,rfl,_⟩; rfl
 ·rintro S H bs _ ⟨op,n,xs,xk,s,rfl,h2,h3,h4,h5⟩ v hv
  simp only [List.mem_cons,List.not_mem_nil,or_false] at hv
  rcases hv with rfl | rfl | rfl | rfl
  ·exact ⟨one_i,av1_i⟩
  ·exact ⟨one_i,av1_i⟩
  ·exact h3.1.cell
  ·exact ⟨h4,h5⟩
def F31 (p q : Pa) (i : Nat) (x : AV) (fr : Tr AV) : Prop:=V fr 1 = .p p 0∧V fr 2 = .p q 0∧V fr 4 = x∧V fr 5 = .i .i64 (i : Int)
theorem loop31 {H0 : Heap} (hf : Fresh H0) {p q : Pa} {op n : Int} {xs xk : AV} {lk : List Unit} (hp : p.toN < H0.next.toN) (hr : Row H0 p 88 [.i .i64 op,.i .i64 n,xs,xk]) (hk : Lst 4 R3P Any H0 xk lk) {c : Nat} (hc : ((c : Nat) : Int) = 1 + (IntKind.i64.wrap (op.tdiv 5)) % 4) :
  ∃ H' xo lo,Pls H0 H' xo lo∧lo.length≤8∧(∀ p ∈ lo,p.op = c)∧∀ fr,F31 p q 0 .ns fr→∀ M,3200 + min lk.length 8≤M→∀ (R : Type) (k : XK R) (res : Option R),(∀ fr',F31 p q (min lk.length 8) xo fr'→k (.exit 0) fr' H' = res)→runK tbl M R Lp31 fr H0 k = res:=by
 have hm0:=Int.emod_nonneg (IntKind.i64.wrap (op.tdiv 5)) (b:=4) (by decide)
 have hm4:=Int.emod_lt_of_pos (IntKind.i64.wrap (op.tdiv 5)) (b:=4) (by decide)
 have G:=loop_cps (Lp:=Lp31) (ex:=0) (n:=min lk.length 8) (c:=3200) (St:=AV × List Pl) (fun i H st=>Pls H0 H st.1 st.2∧st.2.length = i∧∀ p ∈ st.2,p.op = c) (fun i st fr=>F31 p q i st.1 fr) ?hend ?hstep (min lk.length 8) 0 H0 (.ns,[]) (by omega) ⟨⟨Grow.refl _,Held.init _ _ _ _,fun p hp=>by cases hp⟩,rfl,fun p hp=>by cases hp⟩
 case hend =>
  rintro H ⟨x,lo⟩ ⟨P,hlo,hop⟩ fr ⟨f1,f2,f4,f5⟩ M hM R k res hr'
  obtain ⟨m,rfl⟩ : ∃ m,M = m + 100:=⟨M - 100,by omega⟩
  have l3:=(hr.grow P.g hp).l 3 (v:=xk) rfl
  unfold Lp31
  rw [run_loop]
  by_cases h : lk.length≤8
  ·have hn : ¬ ((min lk.length 8 : Nat) : Int) < (lk.length : Int):=by omega
   simp only [EX,reduceIte,Nat.reduceEqDiff,Nat.reduceAdd,Int.reduceEq,Int.reduceLT,Int.reduceLE,reduceCtorEq,Nat.reduceLeDiff,Nat.reduceSub,Nat.reduceLT,f1,f5,l3,hk.len,hn]
   exact hr' _ ⟨by simp only [V_S,Nat.reduceEqDiff,reduceIte]; exact f1,by simp only [V_S,Nat.reduceEqDiff,reduceIte]; exact f2,by simp only [V_S,Nat.reduceEqDiff,reduceIte]; exact f4,by simp only [V_S,Nat.reduceEqDiff,reduceIte]; exact f5⟩
  ·have hn : ((min lk.length 8 : Nat) : Int) < (lk.length : Int):=by omega
   have hn2 : ¬ ((min lk.length 8 : Nat) : Int) < 8:=by omega
   simp only [EX,reduceIte,Nat.reduceEqDiff,Nat.reduceAdd,Int.reduceEq,Int.reduceLT,Int.reduceLE,reduceCtorEq,Nat.reduceLeDiff,Nat.reduceSub,Nat.reduceLT,f1,f5,l3,hk.len,hn,hn2]
   exact hr' _ ⟨by simp only [V_S,Nat.reduceEqDiff,reduceIte]; exact f1,by simp only [V_S,Nat.reduceEqDiff,reduceIte]; exact f2,by simp only [V_S,Nat.reduceEqDiff,reduceIte]; exact f4,by simp only [V_S,Nat.reduceEqDiff,reduceIte]; exact f5⟩
 case hstep =>
  rintro i H ⟨x,lo⟩ hi ⟨P,hlo,hop⟩
  have P : Pls H0 H x lo:=P
  have hlo : lo.length = i:=hlo
  have hop : ∀ p ∈ lo,p.op = c:=hop
  have gb : Grow H (H.bump 1):=Grow.bump 1 H
  have nb : (H.bump 1).next.toN = H.next.toN + 1:=next_bump
  have g0b:=P.g.trans gb
  obtain ⟨a,o,bs,hR,ha,eix,_,eld⟩:=(hk.grow r3P g0b).at r3P (List.getElem?_eq_getElem (show i < lk.length by omega))
  have axb : avEq (.ag bs) (.ag bs) = true:=r3P.av hR
  have ldb : ∀ (R : Type) (c : HK R),ldC true 4 (.p a o) c (H.bump 1) = c (.ag bs) (H.bump 1):=by
   intro R c
   have:=eld (H.bump 1) (Grow.refl _) 0 4 (by omega) R c
   rw [List.drop_zero,List.take_of_length_le (by rw [r3P.len hR]; omega)] at this
   exact this
  obtain ⟨op2,n2,xs2,xk2,s2,rfl,hn2,⟨hs2,_⟩,_⟩:=hR
  obtain ⟨pl,hpl,hplo,H2,g2,e54⟩:=s54 (H:=H.bump 1) (g0b.dead hf) (op:=op2) (n:=n2) (xs:=xs2) (xk:=xk2) hs2 hn2 (kd:=c) (by omega) (by omega)
  have nn2:=g2.next
  obtain ⟨H3,e3⟩ : ∃ H3,H3 = H2.put H.next (.cells false 0 85 7 (setCells pl.cs 0 .leaf)):=⟨_,rfl⟩
  have g3 : Grow H H3:=by rw [e3]; exact (gb.trans g2).put (Nat.le_refl _) (by omega) _
  have r3 : Row H3 H.next 85 pl.cs:=by rw [e3]; exact ⟨_,get_put,fun j _=>cell_at pl.cs j⟩
  obtain ⟨H4,x4,P4,g4,e4⟩:=P.add g3 r3 hpl (by omega)
  have l0:=(hr.grow g0b hp).l 0 (v:=.i .i64 op) rfl
  have l3:=(hr.grow g0b hp).l 3 (v:=xk) rfl
  have k3:=(hr.grow P.g hp).l 3 (v:=xk) rfl
  have axk : avEq xk xk = true:=hk.self
  have hlt : (i : Int) < (lk.length : Int):=by omega
  have hlt8 : (i : Int) < 8:=by omega
  have hw:=inc_i (show i < 1000 by omega)
  have hq : ∀ (R : Type) (k : HK R) (G : Heap),binC .quo .no (.i .i64 op) (.i .i64 5) k G = k (.i .i64 (IntKind.i64.wrap (op.tdiv 5))) G:=fun R k G=>i_quo (show (5 : Int) ≠ 0 by decide)
  have hw1 : IntKind.i64.wrap (1 + IntKind.i64.wrap (op.tdiv 5) % 4) = (c : Int):=by rw [← hc,wrap_n64 (by omega)]
  have hlay : lay [.i .i64 0,.b false,.i .i64 0,str [],str [],str [],.ns] 0 pl.cs = pl.cs:=lay_all rfl
  refine ⟨H4,(x4,lo ++ [pl]),⟨P4,by show (lo ++ [pl]).length = i + 1; rw [List.length_append,hlo]; rfl,?hop⟩,?hrun⟩
  case hop =>
   intro p' hp'
   have hp' : p' ∈ lo ++ [pl]:=hp'
   rw [List.mem_append,List.mem_singleton] at hp'
   rcases hp' with h | rfl
   ·exact hop p' h
   ·exact hplo
  case hrun =>
   rintro fr ⟨f1,f2,f4,f5⟩ M hM R k res hr'
   obtain ⟨m,rfl⟩ : ∃ m,M = m + 3200:=⟨M - 3200,by omega⟩
   have f4 : V fr 4 = x:=f4
   unfold Lp31
   rw [run_loop]
   simp only [EX,reduceIte,Nat.reduceEqDiff,Nat.reduceAdd,Int.reduceEq,Int.reduceLT,Int.reduceLE,reduceCtorEq,Nat.reduceLeDiff,Nat.reduceSub,Nat.reduceLT,f1,f5,k3,hk.len,hlt,hlt8,l0,l3,hq]
   rw [s53 (by decide) (by decide) (by omega)]
   simp only [EX,reduceIte,Nat.reduceEqDiff,Nat.reduceAdd,Int.reduceEq,Int.reduceLT,Int.reduceLE,reduceCtorEq,Nat.reduceLeDiff,Nat.reduceSub,Nat.reduceLT,f1,f5,l0,l3,eix,ldb,axk,axb,avEq_i,i_add,hw1]
   rw [e54 _ (by omega)]
   simp only [EX,reduceIte,Nat.reduceEqDiff,Nat.reduceAdd,Int.reduceEq,Int.reduceLT,Int.reduceLE,reduceCtorEq,Nat.reduceLeDiff,Nat.reduceSub,Nat.reduceLT,f4]
   rw [fill_agn ?fa ?fb]
   case fa=>rfl
   case fb=>show 7≤7; omega
   simp only [EX,reduceIte,Nat.reduceEqDiff,Nat.reduceAdd,Int.reduceEq,Int.reduceLT,Int.reduceLE,reduceCtorEq,Nat.reduceLeDiff,Nat.reduceSub,Nat.reduceLT]
   rw [hlay,show (Pl.cs pl).length = 7 from rfl,← e3,e4]
   simp only [EX,reduceIte,Nat.reduceEqDiff,Nat.reduceAdd,Int.reduceEq,Int.reduceLT,Int.reduceLE,reduceCtorEq,Nat.reduceLeDiff,Nat.reduceSub,Nat.reduceLT,f5,i_add,hw]
   exact hr' _ ⟨by simp only [V_S,Nat.reduceEqDiff,reduceIte]; exact f1,by simp only [V_S,Nat.reduceEqDiff,reduceIte]; exact f2,by simp only [V_S,Nat.reduceEqDiff,reduceIte],by simp only [V_S,Nat.reduceEqDiff,reduceIte]⟩
 obtain ⟨H',⟨xo,lo⟩,⟨P,hlo,hop⟩,e⟩:=G
 have hlo : lo.length = min lk.length 8:=hlo
 exact ⟨H',xo,lo,P,by omega,hop,e⟩
/-- What Good tells: a plain value's cells,or those of a set. -/
def GoodV (H H' : Heap) (cs : List AV) : Prop:=(∃ p : Pl,p.Ok∧cs = p.cs) ∨ ∃ xo lo,cs = ec 5 false 0 [] [] [] xo∧Pls H H' xo lo∧lo.length≤8
/-- chancellaw3.Good -/
theorem s31 {H : Heap} (hf : Fresh H) {op n : Int} {xs xk : AV} {s : List Int} {lk : List Unit} (hx : Ints H xs s) (hn : I64 n) (hk : Lst 4 R3P Any H xk lk) :
  ∃ cs H',Grow H H'∧GoodV H H' cs∧∀ M,8000≤M→∀ (R : Type) (k : HK R),callK tbl (runK tbl M) R (toPa 31) [.ag [.i .i64 op,.i .i64 n,xs,xk]] H k = k (.ag cs) H':=by
 have hm0:=Int.emod_nonneg op (b:=5) (by decide)
 have hm5:=Int.emod_lt_of_pos op (b:=5) (by decide)
 have L:=Lv.make 88 85 zs7 H [.i .i64 op,.i .i64 n,xs,xk]
 obtain ⟨H2,e2⟩ : ∃ H2,H2 = (H.alloc (.cells false 0 88 4 (setCells [.i .i64 op,.i .i64 n,xs,xk] 0 .leaf))).alloc (.cells false 0 85 7 (setCells zs7 0 .leaf)):=⟨_,rfl⟩
 have L : Lv 88 85 zs7 H H2 H.next H.next.succ [.i .i64 op,.i .i64 n,xs,xk]:=by rw [e2]; exact L
 have l0:=L.rp.l 0 (v:=.i .i64 op) rfl
 have la:=L.rp.la 4 rfl
 have e2' : (H.alloc (.cells false 0 88 4 (setCells [.i .i64 op,.i .i64 n,xs,xk] 0 .leaf))).alloc (.cells false 0 85 7 (setCells [.i .i64 0,.b false,.i .i64 0,str [],str [],str [],.ns] 0 .leaf)) = H2:=e2.symm
 obtain ⟨kd,hkd⟩ : ∃ kd : Nat,(kd : Int) = 1 + op % 5:=⟨(1 + op % 5).toNat,by omega⟩
 have hw1 : IntKind.i64.wrap (1 + op % 5) = (kd : Int):=by rw [← hkd,wrap_n64 (by omega)]
 by_cases h5 : kd < 5
 ·obtain ⟨p,hp,_,H3,g3,e54⟩:=s54 (H:=H2) (L.g.dead hf) (op:=op) (n:=n) (xk:=xk) (hx.grow L.g) hn (kd:=kd) (by omega) (by omega)
  obtain ⟨H4,g4,r4,n4,e4⟩:=(L.grow g3).fill (n:=7) (ys:=p.cs) rfl rfl (fun v hv=>(Pl.one p v hv).1)
  have h5' : (kd : Int) < 5:=by omega
  refine ⟨p.cs,H4,g4,Or.inl ⟨p,hp,rfl⟩,fun M hM R k=>?_⟩
  obtain ⟨m,rfl⟩ : ∃ m,M = m + 8000:=⟨M - 8000,by omega⟩
  rw [call_eq L31]
  unfold B31
  simp only [EX,reduceIte,Nat.reduceEqDiff,Nat.reduceAdd,Int.reduceEq,Int.reduceLT,Int.reduceLE,reduceCtorEq,Nat.reduceLeDiff,Nat.reduceSub,Nat.reduceLT]
  rw [e2']
  simp only [EX,reduceIte,Nat.reduceEqDiff,Nat.reduceAdd,Int.reduceEq,Int.reduceLT,Int.reduceLE,reduceCtorEq,Nat.reduceLeDiff,Nat.reduceSub,Nat.reduceLT,l0]
  rw [s53 (by decide) (by decide) (by omega)]
  simp only [EX,reduceIte,Nat.reduceEqDiff,Nat.reduceAdd,Int.reduceEq,Int.reduceLT,Int.reduceLE,reduceCtorEq,Nat.reduceLeDiff,Nat.reduceSub,Nat.reduceLT,i_add,hw1,h5',la]
  rw [e54 _ (by omega)]
  simp only [EX,reduceIte,Nat.reduceEqDiff,Nat.reduceAdd,Int.reduceEq,Int.reduceLT,Int.reduceLE,reduceCtorEq,Nat.reduceLeDiff,Nat.reduceSub,Nat.reduceLT]
  refine (e4 _ _).trans ?_
  simp only [EX,reduceIte,Nat.reduceEqDiff,Nat.reduceAdd,Int.reduceEq,Int.reduceLT,Int.reduceLE,reduceCtorEq,Nat.reduceLeDiff,Nat.reduceSub,Nat.reduceLT]
  rw [r4.lda (n:=7) rfl]
 ·have h5' : ¬ (kd : Int) < 5:=by omega
  have hm4:=Int.emod_nonneg (IntKind.i64.wrap (op.tdiv 5)) (b:=4) (by decide)
  have hm4':=Int.emod_lt_of_pos (IntKind.i64.wrap (op.tdiv 5)) (b:=4) (by decide)
  have hqn:=L.qn
  have hnx:=L.nx
  have hpn:=L.pn
  obtain ⟨c,hc⟩ : ∃ c : Nat,(c : Int) = 1 + IntKind.i64.wrap (op.tdiv 5) % 4:=⟨(1 + IntKind.i64.wrap (op.tdiv 5) % 4).toNat,by omega⟩
  obtain ⟨H3,x3,l3,P3,hl3,hop,e3⟩:=loop31 (p:=H.next) (q:=H.next.succ) (L.g.dead hf) (by omega) L.rp (hk.grow r3P L.g) hc
  obtain ⟨x4,l4,H4,P4,hl4,e4⟩:=s55 (P3.lst (S:=Any) fun _ _ _=>trivial) (c:=c) hop (by omega) hl3
  obtain ⟨H5,e5⟩ : ∃ H5,H5 = H4.alloc (.cells false 0 85 7 (setCells [.i .i64 0,.b false,.i .i64 0,str [],str [],str [],.ns] 0 .leaf)):=⟨_,rfl⟩
  have g5 : Grow H4 H5:=by rw [e5]; exact Grow.alloc H4 _
  have n5 : H5.next.toN = H4.next.toN + 1:=by rw [e5]; exact next_alloc H4 _
  have r5 : Row H5 H4.next 85 zs7:=by rw [e5]; exact Row.new H4 85 zs7
  have hcell:=(P4.lst (S:=Any) fun _ _ _=>trivial).cell
  have n3:=P3.g.next
  have n4:=P4.g.next
  obtain ⟨H6,r6,b6,n6,e6⟩:=r5.st_all (n:=7) (ys:=ec 5 false 0 [] [] [] x4) (by omega) rfl rfl (ec_one hcell.1)
  have g6 : Grow H4 H6:=b6.of g5 (Nat.le_refl _)
  have rq6:=L.rq.grow ((P3.g.trans P4.g).trans g6) hnx
  have n6' : H6.next.toN = H5.next.toN:=by rw [n6]
  obtain ⟨H7,r7,b7,n7,e7⟩:=rq6.st_all (n:=7) (ys:=ec 5 false 0 [] [] [] x4) (by omega) rfl rfl (ec_one hcell.1)
  have la6:=r6.la 7 rfl
  have la7:=r7.la 7 rfl
  have G4 : Grow H H4:=(L.g.trans P3.g).trans P4.g
  refine ⟨ec 5 false 0 [] [] [] x4,H7,b7.of (G4.trans g6) (by omega),Or.inr ⟨x4,l4,rfl,⟨b7.of (G4.trans g6) (by omega),((P4.h.grow g6).but b7 (P4.h.off (Or.inl (by omega)))).back (L.g.trans P3.g),P4.ok⟩,hl4⟩,fun M hM R k=>?_⟩
  obtain ⟨m,rfl⟩ : ∃ m,M = m + 8000:=⟨M - 8000,by omega⟩
  rw [call_eq L31]
  unfold B31
  simp only [EX,reduceIte,Nat.reduceEqDiff,Nat.reduceAdd,Int.reduceEq,Int.reduceLT,Int.reduceLE,reduceCtorEq,Nat.reduceLeDiff,Nat.reduceSub,Nat.reduceLT]
  rw [e2']
  simp only [EX,reduceIte,Nat.reduceEqDiff,Nat.reduceAdd,Int.reduceEq,Int.reduceLT,Int.reduceLE,reduceCtorEq,Nat.reduceLeDiff,Nat.reduceSub,Nat.reduceLT,l0]
  rw [s53 (by decide) (by decide) (by omega)]
  simp only [EX,reduceIte,Nat.reduceEqDiff,Nat.reduceAdd,Int.reduceEq,Int.reduceLT,Int.reduceLE,reduceCtorEq,Nat.reduceLeDiff,Nat.reduceSub,Nat.reduceLT,i_add,hw1,h5']
  refine e3 _ ?ff _ ?hm R _ _ ?ee
  case ff=>exact ⟨by simp only [V_S,Nat.reduceEqDiff,reduceIte],by simp only [V_S,Nat.reduceEqDiff,reduceIte],by simp only [V_S,Nat.reduceEqDiff,reduceIte],by (simp only [V_S,Nat.reduceEqDiff,reduceIte]) <;> rfl⟩
  case hm=>omega
  case ee =>
   rintro fr' ⟨c1,c2,c4,c5⟩
   simp only [EX,reduceIte,Nat.reduceEqDiff,Nat.reduceAdd,Int.reduceEq,Int.reduceLT,Int.reduceLE,reduceCtorEq,Nat.reduceLeDiff,Nat.reduceSub,Nat.reduceLT,c4]
   rw [e4 _ (by omega)]
   simp only [EX,reduceIte,Nat.reduceEqDiff,Nat.reduceAdd,Int.reduceEq,Int.reduceLT,Int.reduceLE,reduceCtorEq,Nat.reduceLeDiff,Nat.reduceSub,Nat.reduceLT,ext_0,ext_1]
   rw [← e5]
   refine (e6 _ _).trans ?_
   simp only [EX,reduceIte,Nat.reduceEqDiff,Nat.reduceAdd,Int.reduceEq,Int.reduceLT,Int.reduceLE,reduceCtorEq,Nat.reduceLeDiff,Nat.reduceSub,Nat.reduceLT,la6,c2]
   refine (e7 _ _).trans ?_
   simp only [EX,reduceIte,Nat.reduceEqDiff,Nat.reduceAdd,Int.reduceEq,Int.reduceLT,Int.reduceLE,reduceCtorEq,Nat.reduceLeDiff,Nat.reduceSub,Nat.reduceLT,c2,la7]
end Go.Proofs.YtmmmjhkgjmbfaaaDoor
