/- A verified interpreter of the model's code, and what the functions that read expressions tell by it: part 10 (Q27, Q28, Q29, Q30, Q31, Q32, Q33, Q34, Q35, Q36, Q37, Q38, Q40). No condition but those that each statement bears. -/
import Derived.Test.YtgnfndhmfgghdaaGreatDoorK09
set_option linter.unusedVariables false
set_option linter.unusedSimpArgs false
set_option linter.unusedSectionVars false
set_option linter.constructorNameAsVariable false
set_option linter.unnecessarySimpa false
/- Members (reader.mem). -/
namespace Go.Proofs.YtgnfndhmfgghdaaGreatDoor
open Go Go.Vai
set_option maxRecDepth 100000
set_option maxHeartbeats 3200000
set_option linter.unusedSimpArgs false
noncomputable def Lp323 : AC:=(.loop (.seq (.seq (.ops [O 7 (.mv (T 0)),O 8 (.call (toPa 125) [(T 7),(K (str [46]))])]) (.cond (T 8) .skip (.exit 0))) (.block 1 (.seq (.ops [O 9 (.mv (T 0)),O 10 (.call (toPa 131) [(T 9)]),O 4 (.mv (T 10))]) (.seq (.seq (.ops [O 11 (.mv (T 0)),O 12 (.call (toPa 125) [(T 11),(K (str [40]))]),O 13 (.not (T 12))]) (.cond (T 13) (.seq (.ops [O 14 (.mv (T 4)),O 15 (.ld true 7 (T 3)),O 16 (.bsl 35 7 1 [(.i .i64 0),(.b false),(.i .i64 0),(str []),(str []),(str []),.ns] [(0,7,(T 15))]),O 17 (.build [(.i .i64 0),(.b false),(.i .i64 0),(str []),(str []),(str []),.ns] [(0,1,(K (.i .i64 7))),(3,1,(T 14)),(6,1,(T 16))]),O_ (.st 7 (T 3) (T 17))]) (.exit 1)) .skip)) (.seq (.ops [O 18 (.mv (T 0)),O 19 (.mv (T 4)),O 20 (.bin .eql .no (T 19) (K (str [99,111,110,116,97,105,110,115]))),O 21 (.call (toPa 73) [(T 18),(T 20)])]) (.seq (.draw 1 [(O 23 (.mv (T 0)),⟨0,0⟩),(O 24 (.call (toPa 56) [(T 23)]),⟨3,0⟩),(O 22 (.ld true 7 (T 3)),⟨1,0⟩),(O 25 (.bsl 35 7 2 [(.i .i64 0),(.b false),(.i .i64 0),(str []),(str []),(str []),.ns,(.i .i64 0),(.b false),(.i .i64 0),(str []),(str []),(str []),.ns] [(0,7,(T 22)),(7,7,(T 24))]),⟨2,1⟩),(O 26 (.build [(.i .i64 0),(.b false),(.i .i64 0),(str []),(str []),(str []),.ns] [(0,1,(K (.i .i64 9))),(6,1,(T 25))]),⟨0,1⟩),(O_ (.st 7 (T 3) (T 26)),⟨3,1⟩)]) (.ops [O 27 (.mv (T 0)),O 28 (.mv (T 0)),O 29 (.call (toPa 125) [(T 28),(K (str [41]))]),O 30 (.call (toPa 73) [(T 27),(T 29)])]))))))))
theorem B323_eq : B323 = (.seq (.ops [O 2 (.new 35 [(.i .i64 0),(.b false),(.i .i64 0),(str []),(str []),(str []),.ns])]) (.seq (.ops [O 5 (.mv (T 0)),O 6 (.call (toPa 326) [(T 5)]),O 3 (.new 35 [(.i .i64 0),(.b false),(.i .i64 0),(str []),(str []),(str []),.ns]),O_ (.st 7 (T 3) (T 6))]) (.seq (.block 0 Lp323) (.seq (.ops [O 31 (.ld true 7 (T 3)),O_ (.st 7 (T 2) (T 31))]) .ret)))):=rfl
section
variable {p : Pa} {x : AV} {ts0 : List Tok} {H H' : Heap} {bad : Bool} {ts : List Tok} {i : Nat}
structure F323 (p q6 q : Pa) (fr : Tr AV) : Prop where
 f0 : V fr 0 = .p p 0
 f2 : V fr 2 = .p q6 0
 f3 : V fr 3 = .p q 0
def memO (r : Rd) (k : Nat) (o : Option (Ex × List Tok)) : Option (Ex × List Tok):=match o with | none=>none | some (e,u)=>memR r k e u
/-- One member more. -/
def mem1 (r : Rd) (e : Ex) (ts : List Tok) : Option (Ex × List Tok) :=
 match ts.drop 1 with
 | []=>none
 | t :: u =>
  if t.k ≠ 1 then none
  else if isT 4 [40] u = true then
   (if t.s = tCont then (match r (u.drop 1) with | none=>none | some (b,q)=>if isT 4 [41] q = true then some (two 9 e b,q.drop 1) else none) else none)
  else some (get1 7 t.s e,u)
theorem memR_1 {r : Rd} {k : Nat} {e : Ex} {ts : List Tok} (h : isT 4 [46] ts = true) : memR r (k + 1) e ts = memO r k (mem1 r e ts):=by
 unfold memO
 conv=>lhs; unfold memR
 rw [if_pos h]
 unfold mem1
 cases ts.drop 1 with
 | nil=>rfl
 | cons t u =>
  dsimp only
  by_cases q1 : t.k ≠ 1
  ·rw [if_pos q1,if_pos q1]
  ·rw [if_neg q1,if_neg q1]
   by_cases q2 : isT 4 [40] u = true
   ·rw [if_pos q2,if_pos q2]
    by_cases q3 : t.s = tCont
    ·rw [if_pos q3,if_pos q3]
     cases r (u.drop 1) with
     | none=>rfl
     | some v =>
      obtain ⟨b,q⟩:=v
      dsimp only
      by_cases q4 : isT 4 [41] q = true
      ·rw [if_pos q4,if_pos q4]
      ·rw [if_neg q4,if_neg q4]
    ·rw [if_neg q3,if_neg q3]
   ·rw [if_neg q2,if_neg q2]
theorem mem1_lt {r : Rd} (hlt : Dn r) {e e' : Ex} {ts u' : List Tok} (h : mem1 r e ts = some (e',u')) : u'.length + 2≤ts.length:=by
 unfold mem1 at h
 cases hd : ts.drop 1 with
 | nil=>rw [hd] at h; cases h
 | cons t u =>
  have hl:=congrArg List.length hd
  rw [List.length_drop,List.length_cons] at hl
  rw [hd] at h
  dsimp only at h
  by_cases q1 : t.k ≠ 1
  ·rw [if_pos q1] at h; cases h
  ·rw [if_neg q1] at h
   by_cases q2 : isT 4 [40] u = true
   ·rw [if_pos q2] at h
    by_cases q3 : t.s = tCont
    ·rw [if_pos q3] at h
     cases hr : r (u.drop 1) with
     | none=>rw [hr] at h; cases h
     | some v =>
      obtain ⟨b,q⟩:=v
      rw [hr] at h
      dsimp only at h
      by_cases q4 : isT 4 [41] q = true
      ·rw [if_pos q4] at h
       cases h
       have:=hlt _ _ _ hr
       have:=isT_lt q2
       have:=isT_lt q4
       omega
      ·rw [if_neg q4] at h; cases h
    ·rw [if_neg q3] at h; cases h
   ·rw [if_neg q2] at h
    cases h
    omega
theorem anyT_some {k : Nat} {ts : List Tok} {t : Tok} {r : List Tok} (h : anyT k ts = some (t,r)) : ts = t :: r∧t.k = k:=by
 match ts,h with
 | t' :: r',h =>
  have h : (if t'.k = k then some (t',r') else none) = some (t,r):=h
  by_cases q : t'.k = k
  ·rw [if_pos q] at h; cases h; exact ⟨rfl,q⟩
  ·rw [if_neg q] at h; cases h
theorem anyT_none {k : Nat} {ts : List Tok} (h : anyT k ts = none) : ts = [] ∨ ∃ t r,ts = t :: r∧t.k ≠ k:=by
 match ts,h with
 | [],_=>exact .inl rfl
 | t' :: r',h =>
  have h : (if t'.k = k then some (t',r') else none) = none:=h
  by_cases q : t'.k = k
  ·rw [if_pos q] at h; cases h
  ·exact .inr ⟨t',r',rfl,q⟩
/-- What is known of where it stands. -/
theorem Res.st {S : Pa→Prop} {H : Heap} {bad : Bool} {cs : List AV} {o : Option (Ex × List Tok)} (h : Res p x ts0 S H bad cs o) : ∃ b t,At p x ts0 H b t∧(o = none→b = true∧t = [])∧∀ e u,o = some (e,u)→b = bad∧t = u∧TreeS S H cs e:=by
 match o,h with
 | none,h=>exact ⟨true,[],h,fun _=>⟨rfl,rfl⟩,fun _ _ q=>by cases q⟩
 | some (e,u),h=>exact ⟨bad,u,h.1,fun q=>by (cases q),fun e' u' q=>by cases q; exact ⟨rfl,rfl,h.2⟩⟩
theorem mem_go {n c : Nat} {r : Rd} (hlt : Dn r) (hnext : ∀ {H bad ts},At p x ts0 H bad ts→8 * ts.length + 8≤n→Reads p x ts0 56 c [.p p 0] (r ts) H bad)
  {H0 : Heap} {b0 : Bool} {t0 : List Tok} {i0 : Nat} (h0 : AtI p x ts0 H0 b0 t0 i0) {q6 q : Pa} (h6 : H0.next.toN≤q6.toN) (h67 : q6.toN < q.toN) :
  ∀ (k : Nat) (o : Option (Ex × List Tok)) (cs : List AV) (G : Heap) (bad : Bool),(∀ e u,o = some (e,u)→u.length≤k∧8 * u.length≤n)→k≤200→GrowBut p H0 G→Res p x ts0 (fun a=>q6.toN < a.toN∧a ≠ q) G bad cs o→Sev cs→Row G q6 35 zs7→Row G q 35 cs→q.toN < G.next.toN →
   ∃ cs' G',GrowBut p H0 G'∧Row G' q6 35 zs7∧Row G' q 35 cs'∧q.toN < G'.next.toN∧Sev cs'∧Res p x ts0 (fun a=>q6.toN < a.toN∧a ≠ q) G' bad cs' (memO r k o) ∧
    ∀ fr,F323 p q6 q fr→∀ M,c + 500 + k≤M→∀ (R : Type) (K : XK R) (res : Option R),(∀ fr',F323 p q6 q fr'→K (.exit 0) fr' G' = res)→runK tbl M R Lp323 fr G K = res:=by
 have hpn:=h0.lt
 have hSp : ∀ a : Pa,(q6.toN < a.toN∧a ≠ q)→a ≠ p:=fun a h e=>by subst e; omega
 -- no more
 have done : ∀ (k : Nat) (o : Option (Ex × List Tok)) (cs : List AV) (G : Heap) (bad : Bool),GrowBut p H0 G→Res p x ts0 (fun a=>q6.toN < a.toN∧a ≠ q) G bad cs o→Sev cs→Row G q6 35 zs7→Row G q 35 cs→q.toN < G.next.toN→(∀ e u,o = some (e,u)→isT 4 [46] u = false)→
   ∃ cs' G',GrowBut p H0 G'∧Row G' q6 35 zs7∧Row G' q 35 cs'∧q.toN < G'.next.toN∧Sev cs'∧Res p x ts0 (fun a=>q6.toN < a.toN∧a ≠ q) G' bad cs' (memO r k o) ∧
    ∀ fr,F323 p q6 q fr→∀ M,c + 500 + k≤M→∀ (R : Type) (K : XK R) (res : Option R),(∀ fr',F323 p q6 q fr'→K (.exit 0) fr' G' = res)→runK tbl M R Lp323 fr G K = res:=by
  intro k o cs G bad g res sv r6 r7 hq hno
  have em : memO r k o = o:=by
   match o,hno with
   | none,_=>rfl
   | some (e,u),hno =>
    show memR r k e u = _
    cases k with
    | zero=>rfl
    | succ k=>unfold memR; rw [if_neg (by rw [hno e u rfl]; decide)]
  obtain ⟨b,t,at_,hn,hs⟩:=res.st
  have hd : isT 4 [46] t = false:=by
   match o,hno,hn,hs with
   | none,_,hn,_=>rw [(hn rfl).2]; rfl
   | some (e,u),hno,_,hs=>rw [(hs e u rfl).2.1]; exact hno e u rfl
  obtain ⟨G1,b1,a1,e1⟩:=s125 at_ [46]
  rw [hd] at e1
  rw [if_neg (by rw [hd]; decide)] at a1
  have n1:=b1.next
  refine ⟨cs,G1,g.trans b1,r6.fr b1 (by omega) (by omega),r7.fr b1 (by omega) (by omega),by omega,sv,?_,fun fr ⟨f0,f2,f3⟩ M hM R K rs hr=>?_⟩
  ·rw [em]
   match o,hn,hs,res with
   | none,hn,_,_=>obtain ⟨rfl,rfl⟩:=hn rfl; exact a1
   | some (e,u),_,hs,res=>obtain ⟨rfl,rfl,tr⟩:=hs e u rfl; exact ⟨a1,tr.move (fun _ h _=>h) n1 fun a h ha=>b1.get a ha (hSp a h)⟩
  ·obtain ⟨m,rfl⟩ : ∃ m,M = (m + c + k) + 500:=⟨M - (c + 500 + k),by omega⟩
   unfold Lp323
   rw [run_loop]
   simp (disch:=first | omega | (simp only [List.length_cons,List.length_nil]; omega)) only [EX,reduceIte,Nat.reduceEqDiff,Nat.reduceAdd,Int.reduceEq,Int.reduceLT,Int.reduceLE,reduceCtorEq,Nat.reduceLeDiff,Nat.reduceSub,Nat.reduceLT,x_callv,clv_fn,x_mkfn,List.nil_append,List.append_nil,res_3,res_ct,res_ctt,f0,e1]
   refine hr _ ⟨?_,?_,?_⟩
   all_goals simp only [V_S,Nat.reduceEqDiff,reduceIte]
   all_goals assumption
 intro k
 induction k with
 | zero =>
  intro o cs G bad ho _ g res sv r6 r7 hq
  refine done 0 o cs G bad g res sv r6 r7 hq fun e u q=>?_
  have hu:=(ho e u q).1
  obtain rfl : u = []:=List.eq_nil_of_length_eq_zero (by omega)
  rfl
 | succ k ih =>
  intro o cs G bad ho hk g res sv r6 r7 hq
  match o,ho,res with
  | none,_,res=>exact done (k + 1) none cs G bad g res sv r6 r7 hq fun e u q=>by cases q
  | some (e,u),ho,res =>
   cases hd : isT 4 [46] u with
   | false=>exact done (k + 1) (some (e,u)) cs G bad g res sv r6 r7 hq fun e u q=>by cases q; exact hd
   | true =>
    obtain ⟨hu1,hu2⟩:=ho e u rfl
    obtain ⟨at_,tr⟩:=res
    have hlt1:=isT_lt hd
    obtain ⟨G1,b1,a1,e1⟩:=s125 at_ [46]
    rw [hd] at e1
    rw [if_pos hd] at a1
    obtain ⟨G2,b2,a2,e2⟩:=s131 a1
    obtain ⟨nm,hnm⟩ : ∃ nm,nm = (tokO (anyT 1 (u.drop 1))).s:=⟨_,rfl⟩
    rw [← hnm] at e2
    obtain ⟨G3,b3,a3,e3⟩:=s125 a2 [40]
    have em : memO r (k + 1) (some (e,u)) = memO r k (mem1 r e u):=memR_1 hd
    rw [em]
    have b13:=b1.trans (b2.trans b3)
    have n13:=b13.next
    have g03:=g.trans b13
    have r63:=r6.fr b13 (by omega) (by omega)
    have r73:=r7.fr b13 (by omega) (by omega)
    have tr3:=tr.move (S':=fun a=>q6.toN < a.toN∧a ≠ q) (H':=G3) (fun _ h _=>h) n13 fun a h ha=>b13.get a ha (hSp a h)
    have c73:=r73.la 7 sv.1.symm
    cases hp : isT 4 [40] (restO (anyT 1 (u.drop 1))) with
    | false =>
     rw [hp] at e3
     rw [if_neg (by rw [hp]; decide)] at a3
     obtain ⟨G4,eG4,g04,g4,rk4,n4⟩:=kids_new g03 sv.1
     have r74:=r73.grow g4 (by omega)
     obtain ⟨G5,g05,b5,n5,r75,e5,_⟩:=room_st (cs:=ec 7 false 0 nm [] [] (.sl G3.next 0 1 (some 1) 7)) g04 r74 (by omega) (by omega) (n:=7) sv.1 rfl (ec_one rfl)
     have n5t : G5.next.toN = G4.next.toN:=by rw [n5]
     have r65:=(r63.grow g4 (by omega)).fr b5 (by omega) (by omega)
     have at5 : ∀ {b t},At p x ts0 G3 b t→At p x ts0 G5 b t:=by
      rintro b t ⟨j,aj⟩
      exact ⟨j,h0.wr (aj.grow g4) b5 (by omega)⟩
     have res5 : Res p x ts0 (fun a=>q6.toN < a.toN∧a ≠ q) G5 bad (ec 7 false 0 nm [] [] (.sl G3.next 0 1 (some 1) 7)) (mem1 r e u):=by
      unfold mem1
      cases hy : anyT 1 (u.drop 1) with
      | none =>
       rw [hy,show (bad || (none : Option (Tok × List Tok)).isNone) = true by cases bad <;> rfl] at a3
       obtain h | ⟨t,w,h,hk⟩:=anyT_none hy
       ·rw [h]; exact at5 a3
       ·rw [h]
        dsimp only
        rw [if_pos hk]
        exact at5 a3
      | some v =>
       obtain ⟨t,w⟩:=v
       rw [hy,show (bad || (some (t,w) : Option (Tok × List Tok)).isNone) = bad by cases bad <;> rfl] at a3
       rw [hy] at hp hnm
       have hp : isT 4 [40] w = false:=hp
       have hnm : nm = t.s:=hnm
       obtain ⟨h,hk⟩:=anyT_some hy
       rw [h]
       dsimp only
       rw [if_neg (by rw [hk]; decide),if_neg (by rw [hp]; decide),hnm]
       refine ⟨at5 a3,?_⟩
       refine TreeS.node1 ⟨by omega,by intro e; have:=congrArg Pa.toN e; omega⟩ (by omega) (rk4.fr b5 (by omega) (by omega)) (tr3.move (fun _ h _=>h) (by omega) fun a h ha=>?_)
       rw [b5.get a (by omega) h.2,g4.get a ha]
     obtain ⟨cs',G',g',r6',r7',hq',sv',res',eq'⟩:=ih (mem1 r e u) _ G5 bad (fun e' u' q=>by
      have:=mem1_lt hlt q
      omega) (by omega) g05 res5 (sev_ec rfl av1_sl) r65 r75 (by omega)
     refine ⟨cs',G',g',r6',r7',hq',sv',res',fun fr ⟨f0,f2,f3⟩ M hM R K rs hr=>?_⟩
     obtain ⟨m,rfl⟩ : ∃ m,M = (m + c + k) + 501:=⟨M - (c + 500 + (k + 1)),by omega⟩
     have hlf:=fun (R : Type) (F : List AV→Option R)=>fillK sv.1 F
     have hl7:=sv.1
     have e5 : ∀ (R : Type) (k : HK R),stC 7 (.p q 0) (.ag [.i .i64 7,.b false,.i .i64 0,str nm,str [],str [],.sl G3.next 0 1 (some 1) 7]) k G4 = k un G5:=e5
     unfold Lp323
     rw [run_loop]
     simp (disch:=first | omega | (simp only [List.length_cons,List.length_nil]; omega)) only [EX,reduceIte,Nat.reduceEqDiff,Nat.reduceAdd,Int.reduceEq,Int.reduceLT,Int.reduceLE,reduceCtorEq,Nat.reduceLeDiff,Nat.reduceSub,Nat.reduceLT,x_callv,clv_fn,x_mkfn,List.nil_append,List.append_nil,res_3,res_ct,res_ctt,f0,f3,e1,e2,e3,c73,hlf]
     rw [hl7,← eG4]
     simp (disch:=first | omega | (simp only [List.length_cons,List.length_nil]; omega)) only [EX,reduceIte,Nat.reduceEqDiff,Nat.reduceAdd,Int.reduceEq,Int.reduceLT,Int.reduceLE,reduceCtorEq,Nat.reduceLeDiff,Nat.reduceSub,Nat.reduceLT,x_callv,clv_fn,x_mkfn,List.nil_append,List.append_nil,res_3,res_ct,res_ctt,f0,f3,e5]
     refine eq' _ ⟨?_,?_,?_⟩ _ (by omega) R K rs hr
     all_goals simp only [V_S,Nat.reduceEqDiff,reduceIte]
     all_goals assumption
    | true =>
     obtain ⟨tk,w,ha,hk⟩ : ∃ t w,u.drop 1 = t :: w∧anyT 1 (u.drop 1) = some (t,w):=by
      cases hy : anyT 1 (u.drop 1) with
      | none=>rw [hy] at hp; cases hp
      | some v=>exact ⟨v.1,v.2,(anyT_some (r:=v.2) hy).1,rfl⟩
     have hk1 : tk.k = 1:=(anyT_some hk).2
     rw [hk] at hp e3 a3 hnm
     have hp : isT 4 [40] w = true:=hp
     have e3 : ∀ M,250≤M→∀ (R : Type) (k : HK R),callK tbl (runK tbl M) R (toPa 125) [.p p 0,str [40]] G2 k = k (.b (isT 4 [40] w)) G3:=e3
     rw [hp] at e3
     have a3 : At p x ts0 G3 (bad || false) (if isT 4 [40] w = true then w.drop 1 else w):=a3
     rw [if_pos hp,Bool.or_false] at a3
     have hnm : nm = tk.s:=hnm
     have hlw:=isT_lt hp
     have hlu:=congrArg List.length ha
     rw [List.length_drop,List.length_cons] at hlu
     obtain ⟨G4,b4,a4,e4⟩:=s73 a3 (decide (nm = [99,111,110,116,97,105,110,115]))
     have n4:=b4.next
     obtain ⟨j4,a4⟩:=a4
     obtain ⟨cs6,G6,b6,sv6,res6,e6⟩:=hnext ⟨j4,a4.grow (Grow.bump 1 G4)⟩ (Nat.le_trans (Nat.add_le_add_right (Nat.mul_le_mul_left 8 (show (if decide (nm = [99,111,110,116,97,105,110,115]) = true then w.drop 1 else []).length≤(w.drop 1).length from by split; exact Nat.le_refl _; exact Nat.zero_le _)) 8) (by omega))
     have nb : (G4.bump 1).next.toN = G4.next.toN + 1:=next_bump
     have n6:=b6.next
     obtain ⟨G7,eG7,g07,b7,n7,rk7,hk7,at7⟩:=kids_ (n:=14) (L:=cs ++ cs6) h0 (g03.trans b4) b6 (by rw [List.length_append,sv.1,sv6.1])
     have n7t : G7.next.toN = G6.next.toN:=by rw [n7]
     have tr4:=tr3.move (S':=fun a=>q6.toN < a.toN∧a ≠ q) (H':=G4) (fun _ h _=>h) n4 fun a h ha=>b4.get a ha (hSp a h)
     have tr7:=over_call tr4 b6 b7 hSp
     have r7b:=(r73.fr b4 (by omega) (by omega)).grow (Grow.bump 1 G4) (by omega)
     have c7b:=r7b.la 7 sv.1.symm
     have r76:=r7b.fr b6 (by omega) (by omega)
     have c76:=r76.la 7 sv.1.symm
     have r77:=r76.fr b7 (by omega) (by omega)
     have r67:=(((r63.fr b4 (by omega) (by omega)).grow (Grow.bump 1 G4) (by omega)).fr b6 (by omega) (by omega)).fr b7 (by omega) (by omega)
     obtain ⟨G8,g08,b8,n8,r78,e8,_⟩:=room_st (cs:=ec 9 false 0 [] [] [] (.sl G4.next 0 2 (some 2) 7)) g07 r77 (by omega) (by omega) (n:=7) sv.1 rfl (ec_one rfl)
     have n8t : G8.next.toN = G7.next.toN:=by rw [n8]
     have r68:=r67.fr b8 (by omega) (by omega)
     have at8 : ∀ {b t},At p x ts0 G6 b t→At p x ts0 G8 b t:=by
      intro b t a
      obtain ⟨j,aj⟩:=at7 a
      exact ⟨j,h0.wr aj b8 (by omega)⟩
     obtain ⟨b9,t9,a8,hN,hS⟩:=res6.st
     obtain ⟨G9,b9',a9,e9⟩:=s125 (at8 a8) [41]
     obtain ⟨G10,b10,a10,e10⟩:=s73 a9 (isT 4 [41] t9)
     have b810:=b9'.trans b10
     have n810:=b810.next
     have res10 : Res p x ts0 (fun a=>q6.toN < a.toN∧a ≠ q) G10 bad (ec 9 false 0 [] [] [] (.sl G4.next 0 2 (some 2) 7)) (mem1 r e u):=by
      unfold mem1
      rw [ha]
      dsimp only
      rw [if_neg (by rw [hk1]; decide),if_pos hp]
      by_cases hc : tk.s = tCont
      ·rw [if_pos hc]
       have hc' : nm = [99,111,110,116,97,105,110,115]:=hnm.trans hc
       have et : (if decide (nm = [99,111,110,116,97,105,110,115]) = true then w.drop 1 else []) = w.drop 1:=if_pos (decide_eq_true hc')
       rw [et] at hN hS
       rw [decide_eq_true hc',show (bad || !true) = bad by cases bad <;> rfl] at hS
       cases hr : r (w.drop 1) with
       | none =>
        obtain ⟨rfl,rfl⟩:=hN hr
        exact a10
       | some v =>
        obtain ⟨b,qq⟩:=v
        obtain ⟨hb9,ht9,trb⟩:=hS b qq hr
        rw [hb9,ht9] at a10
        dsimp only
        cases hq4 : isT 4 [41] qq with
        | false =>
         rw [hq4,if_neg (by decide),show (bad || !false) = true by cases bad <;> rfl] at a10
         rw [if_neg (by decide)]
         exact a10
        | true =>
         rw [hq4,if_pos rfl,if_pos rfl,show (bad || !true) = bad by cases bad <;> rfl] at a10
         rw [if_pos rfl]
         refine ⟨a10,?_⟩
         have tr8:=tr7.move (S':=fun a=>q6.toN < a.toN∧a ≠ q) (H':=G8) (fun _ h _=>h) (by omega) fun a h ha=>b8.get a ha h.2
         have tb8 : TreeS (fun a=>q6.toN < a.toN∧a ≠ q) G8 cs6 b:=trb.move (fun a h _=>⟨by have h : (G4.bump 1).next.toN≤a.toN:=h; omega,by intro e; subst e; have h : (G4.bump 1).next.toN≤a.toN:=h; omega⟩) (by omega) fun a h ha=>by
          have h : (G4.bump 1).next.toN≤a.toN:=h
          rw [b8.get a (by omega) (by intro e; subst e; omega),b7.get a ha (by intro e; subst e; omega)]
         have trn:=TreeS.node2 (op:=9) (b:=false) (n:=0) (s:=[]) (t:=[]) (i:=[]) (c:=some 2) (S:=fun a=>q6.toN < a.toN∧a ≠ q) (a:=G4.next) ⟨by omega,by intro e; have:=congrArg Pa.toN e; omega⟩ (by omega) (rk7.fr b8 (by omega) (by omega)) tr8 tb8
         exact trn.move (fun _ h _=>h) n810 fun a h ha=>b810.get a ha (hSp a h)
      ·rw [if_neg hc]
       have hc' : ¬ nm = [99,111,110,116,97,105,110,115]:=fun q=>hc (hnm.symm.trans q)
       have hb9 : b9 = true:=by
        cases hr : r (if decide (nm = [99,111,110,116,97,105,110,115]) = true then w.drop 1 else []) with
        | none=>exact (hN hr).1
        | some v =>
         rw [(hS v.1 v.2 hr).1,decide_eq_false hc']
         cases bad <;> rfl
       subst hb9
       obtain rfl:=a8.gone
       exact a10
     obtain ⟨cs',G',g',r6',r7',hq',sv',res',eq'⟩:=ih (mem1 r e u) _ G10 bad (fun e' u' q=>by
      have:=mem1_lt hlt q
      omega) (by omega) (g08.trans b810) res10 (sev_ec rfl av1_sl) (r68.fr b810 (by omega) (by omega)) (r78.fr b810 (by omega) (by omega)) (by omega)
     refine ⟨cs',G',g',r6',r7',hq',sv',res',fun fr ⟨f0,f2,f3⟩ M hM R K rs hr=>?_⟩
     obtain ⟨m,rfl⟩ : ∃ m,M = (m + c + k) + 501:=⟨M - (c + 500 + (k + 1)),by omega⟩
     have hlf : ∀ (R : Type) (F : List AV→Option R),fillV [(0,7,.ag cs),(7,7,.ag cs6)] [.i .i64 0,.b false,.i .i64 0,str [],str [],str [],.ns,.i .i64 0,.b false,.i .i64 0,str [],str [],str [],.ns] F = F (cs ++ cs6):=fun R F=>fill7_2 sv.1 sv6.1
     have hl14 : (cs ++ cs6).length = 14:=by rw [List.length_append,sv.1,sv6.1]
     have cav:=sv.2.2
     have e8 : ∀ (R : Type) (k : HK R),stC 7 (.p q 0) (.ag [.i .i64 9,.b false,.i .i64 0,str [],str [],str [],.sl G4.next 0 2 (some 2) 7]) k G7 = k un G8:=e8
     unfold Lp323
     rw [run_loop]
     simp (disch:=first | omega | (simp only [List.length_cons,List.length_nil]; omega)) only [EX,reduceIte,Nat.reduceEqDiff,Nat.reduceAdd,Int.reduceEq,Int.reduceLT,Int.reduceLE,reduceCtorEq,Nat.reduceLeDiff,Nat.reduceSub,Nat.reduceLT,x_callv,clv_fn,x_mkfn,List.nil_append,List.append_nil,res_3,res_ct,res_ctt,f0,f3,e1,e2,e3,s_eql,e4,c7b,e6,c76,cav,hlf]
     rw [hl14,← eG7]
     simp (disch:=first | omega | (simp only [List.length_cons,List.length_nil]; omega)) only [EX,reduceIte,Nat.reduceEqDiff,Nat.reduceAdd,Int.reduceEq,Int.reduceLT,Int.reduceLE,reduceCtorEq,Nat.reduceLeDiff,Nat.reduceSub,Nat.reduceLT,x_callv,clv_fn,x_mkfn,List.nil_append,List.append_nil,res_3,res_ct,res_ctt,f0,f3,e8,e9,e10]
     refine eq' _ ⟨?_,?_,?_⟩ _ (by omega) R K rs hr
     all_goals simp only [V_S,Nat.reduceEqDiff,reduceIte]
     all_goals assumption
end
end Go.Proofs.YtgnfndhmfgghdaaGreatDoor

/- Members,whole (reader.mem); names (reader.named). -/
namespace Go.Proofs.YtgnfndhmfgghdaaGreatDoor
open Go Go.Vai
set_option maxRecDepth 100000
set_option maxHeartbeats 3200000
set_option linter.unusedSimpArgs false
section
variable {p : Pa} {x : AV} {ts0 : List Tok} {H H' : Heap} {bad : Bool} {ts : List Tok} {i : Nat}
def memW (r0 r : Rd) (ts : List Tok) : Option (Ex × List Tok):=match r0 ts with | none=>none | some (e,u)=>memR r u.length e u
theorem memO_len {r : Rd} (o : Option (Ex × List Tok)) {k : Nat} (h : ∀ e u,o = some (e,u)→u.length = k) : memO r k o = (match o with | none=>none | some (e,u)=>memR r u.length e u):=by
 cases o with
 | none=>rfl
 | some v =>
  obtain ⟨e,u⟩:=v
  show memR r k e u = memR r u.length e u
  rw [h e u rfl]
theorem s323 {n c : Nat} {r0 r : Rd} (hlt : Dn r) (hlt0 : Dn r0) (hnext : ∀ {H bad ts},At p x ts0 H bad ts→8 * ts.length + 8≤n→Reads p x ts0 56 c [.p p 0] (r ts) H bad)
  (hprim : ∀ {H},At p x ts0 H bad ts→Reads p x ts0 326 (c + 200) [.p p 0] (r0 ts) H bad) (h : At p x ts0 H bad ts) (hn : 8 * ts.length≤n) : Reads p x ts0 323 (c + 800) [.p p 0] (memW r0 r ts) H bad:=by
 obtain ⟨i,h⟩:=h
 have hpn:=h.lt
 have htl:=h.tsl
 obtain ⟨G1,eG1,g1,r1,n1⟩:=ex_new H
 obtain ⟨cs,G2,b2,sv2,res2,e2⟩:=hprim ⟨i,h.grow g1⟩
 have n2:=b2.next
 obtain ⟨G3,eG3,g3,r33,n3⟩:=ex_new G2
 have g02:=(g1.but p).trans b2
 have g03:=g02.trans (g3.but p)
 have r13:=(r1.fr b2 (by omega) n1).grow g3 (by omega)
 have g3n:=g3.next
 obtain ⟨G4,g04,b4,n4,r34,e4,_⟩:=room_st (cs:=cs) g03 r33 (by omega) n3 (n:=7) rfl sv2.1 sv2.2.1
 have r14:=r13.fr b4 (by omega) (by omega)
 have hn4 : G2.next.toN < G4.next.toN:=by rw [n4]; exact n3
 have at4 : ∀ {b t},At p x ts0 G2 b t→At p x ts0 G4 b t:=by
  rintro b t ⟨j,aj⟩
  exact ⟨j,h.wr (aj.grow g3) b4 (by omega)⟩
 have res4 : Res p x ts0 (fun a=>H.next.toN < a.toN∧a ≠ G2.next) G4 bad cs (r0 ts):=res2.move at4 (fun a h ha=>⟨by have h : G1.next.toN≤a.toN:=h; omega,by intro e; subst e; omega⟩) (by omega) fun a h ha=>by
  rw [b4.get a (by omega) (by intro e; subst e; omega),g3.get a ha]
 obtain ⟨k,hk,hk2,hk3⟩ : ∃ k,k≤200∧(∀ e u,r0 ts = some (e,u)→u.length = k)∧memO r k (r0 ts) = memW r0 r ts:=by
  cases hr : r0 ts with
  | none=>exact ⟨0,by decide,fun _ _ q=>(by cases q),by unfold memW; rw [hr]; rfl⟩
  | some v =>
   obtain ⟨e,u⟩:=v
   have:=hlt0 _ _ _ hr
   exact ⟨u.length,by omega,fun _ _ q=>(by cases q; rfl),by unfold memW; rw [hr]; rfl⟩
 obtain ⟨cs',G5,g05,r15,r35,hq5,sv5,res5,eq5⟩:=mem_go (p:=p) (x:=x) (ts0:=ts0) hlt hnext h (q6:=H.next) (q:=G2.next) (Nat.le_refl _) (by omega) k (r0 ts) cs G4 bad (fun e u q=>by
  have:=hlt0 _ _ _ q
  have:=hk2 e u q
  omega) hk g04 res4 sv2 r14 r34 hn4
 rw [hk3] at res5
 have c5:=r35.la 7 sv5.1.symm
 obtain ⟨G6,g06,res6,e6,ld6⟩:=close_ h g05 r15 rfl (Nat.le_refl _) (by omega) sv5 res5 fun a h _=>⟨Nat.le_of_lt h.1,by intro e; subst e; omega⟩
 refine ⟨cs',G6,g06,sv5,res6,fun M hM R K=>?_⟩
 obtain ⟨m,rfl⟩ : ∃ m,M = (m + c) + 800:=⟨M - (c + 800),by omega⟩
 subst eG1 eG3
 rw [call_eq L323,B323_eq]
 simp (disch:=first | omega | (simp only [List.length_cons,List.length_nil]; omega)) only [EX,reduceIte,Nat.reduceEqDiff,Nat.reduceAdd,Int.reduceEq,Int.reduceLT,Int.reduceLE,reduceCtorEq,Nat.reduceLeDiff,Nat.reduceSub,Nat.reduceLT,x_callv,clv_fn,x_mkfn,List.nil_append,List.append_nil,res_3,res_ct,res_ctt,e2,e4]
 refine eq5 _ ⟨?_,?_,?_⟩ _ (by omega) R _ _ fun fr ⟨f0,f2,f3⟩=>?_
 iterate 3
  ·simp only [V_S,Nat.reduceEqDiff,reduceIte]
 simp (disch:=first | omega | (simp only [List.length_cons,List.length_nil]; omega)) only [EX,reduceIte,Nat.reduceEqDiff,Nat.reduceAdd,Int.reduceEq,Int.reduceLT,Int.reduceLE,reduceCtorEq,Nat.reduceLeDiff,Nat.reduceSub,Nat.reduceLT,x_callv,clv_fn,x_mkfn,List.nil_append,List.append_nil,res_3,res_ct,res_ctt,f2,f3,c5,e6,ld6]
/-- A name that is read: what it makes. -/
def nmR (ts : List Tok) : Option (Ex × List Tok) :=
 match ts with
 | []=>none
 | t :: r =>
  if isT 4 tCC r = true then (match wStr (r.drop 1) with | none=>none | some (i,q)=>some (.mk 4 false 0 [] t.s i [],q))
  else if t.s = tTrue then some (.mk 1 true 0 [] [] [] [],r)
  else if t.s = tFalse then some (.mk 1 false 0 [] [] [] [],r)
  else if t.s = tPri ∨ t.s = tAct ∨ t.s = tRes then some (.mk 5 false 0 t.s [] [] [],r)
  else none
theorem fill_u2 {R : Type} {a b z0 z1 z2 z3 z4 z5 z6 : AV} {f : List AV→Option R} : fillV [(4,2,.ag [a,b])] [z0,z1,z2,z3,z4,z5,z6] f = f [z0,z1,z2,z3,a,b,z6]:=rfl
theorem s327 {t : Tok} {u : List Tok} (h : At p x ts0 H bad (t :: u)) (hk : t.k = 1) : Reads p x ts0 327 900 [.p p 0,str t.s] (nmR (t :: u)) H bad:=by
 obtain ⟨i,h⟩:=h
 have hb : bad = false:=by
  cases bad with
  | true=>exact absurd h.bad_nil (List.cons_ne_nil _ _)
  | false=>rfl
 subst hb
 have hpn:=h.lt
 obtain ⟨G1,eG1,g1,r1,n1⟩:=ex_new H
 obtain ⟨G2,b2,a2,e2⟩:=s117 ⟨i,h.grow g1⟩
 have hpair : pairT (t :: u) = isT 4 tCC u:=by
  show (decide (t.k = 1) && isT 4 tCC u) = _
  rw [decide_eq_true hk,Bool.true_and]
 rw [hpair] at e2
 have n2:=b2.next
 have r2:=r1.fr b2 (by omega) n1
 have g02:=(g1.but p).trans b2
 cases hcc : isT 4 tCC u with
 | true =>
  rw [hcc] at e2
  obtain ⟨G3,b3,a3,e3⟩:=s151 a2
  have n3:=b3.next
  have hw : wUid (t :: u) = match wStr (u.drop 1) with | none=>none | some (i,q)=>some (t.s,i,q):=by
   have h1 : wName (t :: u) = some (t.s,u):=by show (if t.k = 1 then _ else _) = _; rw [if_pos hk]
   unfold wUid
   rw [h1]
   dsimp only
   rw [if_pos hcc]
   rfl
  have res3 : Res p x ts0 (New G1.next.toN) G3 false (ec 4 false 0 [] ((match wUid (t :: u) with | some (n,_,_)=>n | none=>[]) : List UInt8) ((match wUid (t :: u) with | some (_,i,_)=>i | none=>[]) : List UInt8) .ns) (nmR (t :: u)):=by
   unfold nmR
   dsimp only
   rw [if_pos hcc]
   rw [hw] at a3 ⊢
   cases hy : wStr (u.drop 1) with
   | none=>rw [hy] at a3; exact a3
   | some v =>
    obtain ⟨si,q⟩:=v
    rw [hy] at a3
    exact ⟨a3,TreeS.leaf⟩
  obtain ⟨G4,g04,res4,e4,ld4⟩:=close_ h (g02.trans b3) (r2.fr b3 (by omega) (by omega)) rfl (Nat.le_refl _) (by omega) (sev_ec rfl rfl) res3 fun a h _=>⟨by have h : G1.next.toN≤a.toN:=h; omega,by intro e; subst e; have h : G1.next.toN≤H.next.toN:=h; omega⟩
  refine ⟨_,G4,g04,sev_ec rfl rfl,res4,fun M hM R K=>?_⟩
  obtain ⟨m,rfl⟩:=fuel hM
  have e3 : ∀ M,600≤M→∀ (R : Type) (k : HK R),callK tbl (runK tbl M) R (toPa 151) [.p p 0] G2 k = k (.ag [str ((match wUid (t :: u) with | some (n,_,_)=>n | none=>[]) : List UInt8),str ((match wUid (t :: u) with | some (_,i,_)=>i | none=>[]) : List UInt8)]) G3:=by
   intro M hM R k
   rw [e3 M hM R k]
   cases wUid (t :: u) <;> rfl
  obtain ⟨un,hun⟩ : ∃ un,un = ((match wUid (t :: u) with | some (n,_,_)=>n | none=>[]) : List UInt8):=⟨_,rfl⟩
  obtain ⟨ui,hui⟩ : ∃ ui,ui = ((match wUid (t :: u) with | some (_,i,_)=>i | none=>[]) : List UInt8):=⟨_,rfl⟩
  rw [← hun,← hui] at e3 e4 ld4
  rw [← hun,← hui]
  have e4 : ∀ (R : Type) (k : HK R),stC 7 (.p H.next 0) (.ag [.i .i64 4,.b false,.i .i64 0,str [],str un,str ui,.ns]) k G3 = k Go.Vai.un G4:=e4
  subst eG1
  rw [call_eq L327]
  unfold B327
  simp (disch:=first | omega | (simp only [List.length_cons,List.length_nil]; omega)) only [EX,reduceIte,Nat.reduceEqDiff,Nat.reduceAdd,Int.reduceEq,Int.reduceLT,Int.reduceLE,reduceCtorEq,Nat.reduceLeDiff,Nat.reduceSub,Nat.reduceLT,x_callv,clv_fn,x_mkfn,List.nil_append,List.append_nil,res_3,res_ct,res_ctt,e2,e3,fill_u2,e4,ld4]
 | false =>
  rw [hcc] at e2
  obtain ⟨i2,a2⟩:=a2
  have hle:=a2.le
  have hlen:=a2.len
  have l12:=a2.l1
  obtain ⟨hi3,G3,b3,a3,e3⟩:=a2.next rfl
  have n3:=b3.next
  have r3:=r2.fr b3 (by omega) (by omega)
  have ew : nmR (t :: u) = if t.s = tTrue then some (.mk 1 true 0 [] [] [] [],u) else if t.s = tFalse then some (.mk 1 false 0 [] [] [] [],u) else if t.s = tPri ∨ t.s = tAct ∨ t.s = tRes then some (.mk 5 false 0 t.s [] [] [],u) else none:=by
   unfold nmR
   dsimp only
   rw [if_neg (by rw [hcc]; decide)]
  have fin : ∀ (op : Nat) (o : Int) (ho : o = (op : Int)) (b : Bool) (s : List UInt8),nmR (t :: u) = some (.mk op b 0 s [] [] [],u)→(∀ G4,(∀ (R : Type) (k : HK R),stC 7 (.p H.next 0) (.ag [.i .i64 o,.b b,.i .i64 0,str s,str [],str [],.ns]) k G3 = k un G4)→(∀ (R : Type) (k : HK R),ldC true 7 (.p H.next 0) k G4 = k (.ag [.i .i64 o,.b b,.i .i64 0,str s,str [],str [],.ns]) G4)→∀ M,900≤M→∀ (R : Type) (k : HK R),callK tbl (runK tbl M) R (toPa 327) [.p p 0,str t.s] H k = k (.ag [.i .i64 o,.b b,.i .i64 0,str s,str [],str [],.ns]) G4)→Reads p x ts0 327 900 [.p p 0,str t.s] (nmR (t :: u)) H false:=by
   intro op o ho b s hw run
   subst ho
   have res3 : Res p x ts0 (New G1.next.toN) G3 false (ec op b 0 s [] [] .ns) (nmR (t :: u)):=by rw [hw]; exact ⟨⟨_,a3⟩,TreeS.leaf⟩
   obtain ⟨G4,g04,res4,e4,ld4⟩:=close_ h (g02.trans b3) r3 rfl (Nat.le_refl _) (by omega) (sev_ec rfl rfl) res3 fun a h _=>⟨by have h : G1.next.toN≤a.toN:=h; omega,by intro e; subst e; have h : G1.next.toN≤H.next.toN:=h; omega⟩
   exact ⟨_,G4,g04,sev_ec rfl rfl,res4,run G4 e4 ld4⟩
  subst eG1
  by_cases q1 : t.s = tTrue
  ·rw [if_pos q1] at ew
   have q1 : (t.s = [116,114,117,101]) = True:=eq_true q1
   refine fin 1 1 rfl true [] ew fun G4 e4 ld4 M hM R K=>?_
   obtain ⟨m,rfl⟩:=fuel hM
   rw [call_eq L327]
   unfold B327
   simp (disch:=first | omega | (simp only [List.length_cons,List.length_nil]; omega)) only [EX,reduceIte,Nat.reduceEqDiff,Nat.reduceAdd,Int.reduceEq,Int.reduceLT,Int.reduceLE,reduceCtorEq,Nat.reduceLeDiff,Nat.reduceSub,Nat.reduceLT,x_callv,clv_fn,x_mkfn,List.nil_append,List.append_nil,res_3,res_ct,res_ctt,e2,l12,i_add,inc64 (show i2 < 1000000000000 by omega),e3,s_eql,q1,e4,ld4]
  rw [if_neg q1] at ew
  have q1 : ¬ t.s = [116,114,117,101]:=q1
  by_cases q2 : t.s = tFalse
  ·rw [if_pos q2] at ew
   have q2 : (t.s = [102,97,108,115,101]) = True:=eq_true q2
   refine fin 1 1 rfl false [] ew fun G4 e4 ld4 M hM R K=>?_
   obtain ⟨m,rfl⟩:=fuel hM
   rw [call_eq L327]
   unfold B327
   simp (disch:=first | omega | (simp only [List.length_cons,List.length_nil]; omega)) only [EX,reduceIte,Nat.reduceEqDiff,Nat.reduceAdd,Int.reduceEq,Int.reduceLT,Int.reduceLE,reduceCtorEq,Nat.reduceLeDiff,Nat.reduceSub,Nat.reduceLT,x_callv,clv_fn,x_mkfn,List.nil_append,List.append_nil,res_3,res_ct,res_ctt,e2,l12,i_add,inc64 (show i2 < 1000000000000 by omega),e3,s_eql,q1,q2,e4,ld4]
  rw [if_neg q2] at ew
  have q2 : ¬ t.s = [102,97,108,115,101]:=q2
  by_cases q3 : t.s = tPri
  ·rw [if_pos (.inl q3)] at ew
   have q3 : (t.s = [112,114,105,110,99,105,112,97,108]) = True:=eq_true q3
   refine fin 5 5 rfl false t.s ew fun G4 e4 ld4 M hM R K=>?_
   obtain ⟨m,rfl⟩:=fuel hM
   rw [call_eq L327]
   unfold B327
   simp (disch:=first | omega | (simp only [List.length_cons,List.length_nil]; omega)) only [EX,reduceIte,Nat.reduceEqDiff,Nat.reduceAdd,Int.reduceEq,Int.reduceLT,Int.reduceLE,reduceCtorEq,Nat.reduceLeDiff,Nat.reduceSub,Nat.reduceLT,x_callv,clv_fn,x_mkfn,List.nil_append,List.append_nil,res_3,res_ct,res_ctt,e2,l12,i_add,inc64 (show i2 < 1000000000000 by omega),e3,s_eql,q1,q2,q3,e4,ld4]
  by_cases q4 : t.s = tAct
  ·rw [if_pos (.inr (.inl q4))] at ew
   have q3 : ¬ t.s = [112,114,105,110,99,105,112,97,108]:=q3
   have q4 : (t.s = [97,99,116,105,111,110]) = True:=eq_true q4
   refine fin 5 5 rfl false t.s ew fun G4 e4 ld4 M hM R K=>?_
   obtain ⟨m,rfl⟩:=fuel hM
   rw [call_eq L327]
   unfold B327
   simp (disch:=first | omega | (simp only [List.length_cons,List.length_nil]; omega)) only [EX,reduceIte,Nat.reduceEqDiff,Nat.reduceAdd,Int.reduceEq,Int.reduceLT,Int.reduceLE,reduceCtorEq,Nat.reduceLeDiff,Nat.reduceSub,Nat.reduceLT,x_callv,clv_fn,x_mkfn,List.nil_append,List.append_nil,res_3,res_ct,res_ctt,e2,l12,i_add,inc64 (show i2 < 1000000000000 by omega),e3,s_eql,q1,q2,q3,q4,e4,ld4]
  by_cases q5 : t.s = tRes
  ·rw [if_pos (.inr (.inr q5))] at ew
   have q3 : ¬ t.s = [112,114,105,110,99,105,112,97,108]:=q3
   have q4 : ¬ t.s = [97,99,116,105,111,110]:=q4
   have q5 : (t.s = [114,101,115,111,117,114,99,101]) = True:=eq_true q5
   refine fin 5 5 rfl false t.s ew fun G4 e4 ld4 M hM R K=>?_
   obtain ⟨m,rfl⟩:=fuel hM
   rw [call_eq L327]
   unfold B327
   simp (disch:=first | omega | (simp only [List.length_cons,List.length_nil]; omega)) only [EX,reduceIte,Nat.reduceEqDiff,Nat.reduceAdd,Int.reduceEq,Int.reduceLT,Int.reduceLE,reduceCtorEq,Nat.reduceLeDiff,Nat.reduceSub,Nat.reduceLT,x_callv,clv_fn,x_mkfn,List.nil_append,List.append_nil,res_3,res_ct,res_ctt,e2,l12,i_add,inc64 (show i2 < 1000000000000 by omega),e3,s_eql,q1,q2,q3,q4,q5,e4,ld4]
  rw [if_neg (by rintro (q | q | q); exact q3 q; exact q4 q; exact q5 q)] at ew
  have q3 : ¬ t.s = [112,114,105,110,99,105,112,97,108]:=q3
  have q4 : ¬ t.s = [97,99,116,105,111,110]:=q4
  have q5 : ¬ t.s = [114,101,115,111,117,114,99,101]:=q5
  obtain ⟨G4,b4,a4,e4⟩:=a3.spoil
  have n4:=b4.next
  have res4 : Res p x ts0 (New G2.next.toN) G4 false zs7 (nmR (t :: u)):=by rw [ew]; exact ⟨_,a4⟩
  obtain ⟨G5,g05,res5,e5,ld5⟩:=close_ h ((g02.trans b3).trans b4) (r3.fr b4 (by omega) (by omega)) rfl (Nat.le_refl _) (by omega) sev_0 res4 fun a h _=>⟨by have h : G2.next.toN≤a.toN:=h; omega,by intro e; subst e; have h : G2.next.toN≤H.next.toN:=h; omega⟩
  have e5 : ∀ (R : Type) (k : HK R),stC 7 (.p H.next 0) (.ag [.i .i64 0,.b false,.i .i64 0,str [],str [],str [],.ns]) k G4 = k Go.Vai.un G5:=e5
  refine ⟨_,G5,g05,sev_0,res5,fun M hM R K=>?_⟩
  obtain ⟨m,rfl⟩:=fuel hM
  rw [call_eq L327]
  unfold B327
  simp (disch:=first | omega | (simp only [List.length_cons,List.length_nil]; omega)) only [EX,reduceIte,Nat.reduceEqDiff,Nat.reduceAdd,Int.reduceEq,Int.reduceLT,Int.reduceLE,reduceCtorEq,Nat.reduceLeDiff,Nat.reduceSub,Nat.reduceLT,x_callv,clv_fn,x_mkfn,List.nil_append,List.append_nil,res_3,res_ct,res_ctt,e2,l12,i_add,inc64 (show i2 < 1000000000000 by omega),e3,s_eql,q1,q2,q3,q4,q5,e4,e5,ld5]
end
end Go.Proofs.YtgnfndhmfgghdaaGreatDoor

/- What begins a member (reader.prim). -/
namespace Go.Proofs.YtgnfndhmfgghdaaGreatDoor
open Go Go.Vai
set_option maxRecDepth 100000
set_option maxHeartbeats 3200000
set_option linter.unusedSimpArgs false
section
variable {p : Pa} {x : AV} {ts0 : List Tok} {H H' : Heap} {bad : Bool} {ts : List Tok} {i : Nat}
/-- A set,behind its first sign. -/
def sqR (r : Rd) (u : List Tok) : Option (Ex × List Tok) :=
 if isT 4 [93] u = true then some (.mk 6 false 0 [] [] [] [],u.drop 1) else match rowR r (u.length + 1) [] u with | none=>none | some (l,q)=>some (.mk 6 false 0 [] [] [] l,q)
/-- What its reading tells. -/
def Sq (p : Pa) (x : AV) (ts0 : List Tok) (c : Nat) (r : Rd) (H : Heap) (bad : Bool) (u : List Tok) : Prop :=
 ∃ v H',GrowBut p H H'∧oneC v = true∧avEq1 v v = true∧Res p x ts0 (New H.next.toN) H' bad (ec 6 false 0 [] [] [] v) (sqR r u)∧(∀ {R : Type} {F : List AV→Option R},fillV [(0,1,.i .i64 6),(6,1,v)] [.i .i64 0,.b false,.i .i64 0,str [],str [],str [],.ns] F = F (ec 6 false 0 [] [] [] v)) ∧
  ∀ M,c≤M→∀ (R : Type) (k : HK R),callK tbl (runK tbl M) R (toPa 328) [.p p 0] H k = k v H'
theorem prim1_w {r : Rd} {t : Tok} {u : List Tok} : prim1 r (t :: u) = if t.k = 2 then some (.mk 2 false t.n [] [] [] [],u) else if t.k = 3 then some (.mk 3 false 0 t.s [] [] [],u) else if t.k = 1 then nmR (t :: u)
  else if isT 4 [40] (t :: u) = true then (match r u with | none=>none | some (e,q)=>if isT 4 [41] q = true then some (e,q.drop 1) else none) else if isT 4 [91] (t :: u) = true then sqR r u else none:=by
 rfl
theorem s326 {n c : Nat} {r : Rd} (hnext : ∀ {H bad ts},At p x ts0 H bad ts→8 * ts.length + 8≤n→Reads p x ts0 56 c [.p p 0] (r ts) H bad)
  (hsq : isT 4 [91] ts = true→∀ {H},At p x ts0 H bad (ts.drop 1)→Sq p x ts0 (c + 900) r H bad (ts.drop 1))
  (h : At p x ts0 H bad ts) (hn : 8 * ts.length≤n) : Reads p x ts0 326 (c + 1200) [.p p 0] (prim1 r ts) H bad:=by
 obtain ⟨i,h⟩:=h
 have hSp : ∀ a : Pa,H.next.toN≤a.toN→a ≠ p:=fun a q e=>by subst e; have:=h.lt; omega
 have hpn:=h.lt
 obtain ⟨G1,eG1,g1,r1,n1⟩:=ex_new H
 obtain ⟨G2,g2,e2⟩:=s175 (h.grow g1) (j:=0) (J:=0) rfl (by decide)
 obtain ⟨G3,eG3,g3,r3,n3⟩:=tok_new G2
 obtain ⟨G4,g4,r4,n4,e4,_⟩:=tok_st g3 r3 rfl (Nat.le_refl _) n3 (cs:=tcs (at0 ts 0)) rfl (tcs_one _)
 have lk:=r4.l 0 rfl
 have ls:=r4.l 1 rfl
 have g14:=g2.trans g4
 have g04:=g1.trans g14
 have a4:=h.grow g04
 have r14:=r1.grow g14 n1
 have nn4:=g14.next
 subst eG1 eG3
 -- it ends with what is in a room
 have fin : ∀ {G5 : Heap} {cs : List AV},GrowBut p G4 G5→Sev cs→Res p x ts0 (New G4.next.toN) G5 bad cs (prim1 r ts)→(∀ G6,(∀ (R : Type) (k : HK R),stC 7 (.p H.next 0) (.ag cs) k G5 = k un G6)→(∀ (R : Type) (k : HK R),ldC true 7 (.p H.next 0) k G6 = k (.ag cs) G6)→∀ M,c + 1200≤M→∀ (R : Type) (k : HK R),callK tbl (runK tbl M) R (toPa 326) [.p p 0] H k = k (.ag cs) G6)→Reads p x ts0 326 (c + 1200) [.p p 0] (prim1 r ts) H bad:=by
  intro G5 cs b5 sv res run
  have n5:=b5.next
  obtain ⟨G6,g06,res6,e6,ld6⟩:=close_ h ((g04.but p).trans b5) (r14.fr b5 (by omega) (by omega)) rfl (Nat.le_refl _) (by omega) sv res fun a h _=>⟨by have h : G4.next.toN≤a.toN:=h; omega,by intro e; subst e; have h : G4.next.toN≤H.next.toN:=h; omega⟩
  exact ⟨cs,G6,g06,sv,res6,run G6 e6 ld6⟩
 have zero : ∀ {G5 : Heap},GrowBut p G4 G5→At p x ts0 G5 true []→prim1 r ts = none→(∀ G6,(∀ (R : Type) (k : HK R),stC 7 (.p H.next 0) (.ag [.i .i64 0,.b false,.i .i64 0,str [],str [],str [],.ns]) k G5 = k un G6)→(∀ (R : Type) (k : HK R),ldC true 7 (.p H.next 0) k G6 = k (.ag zs7) G6)→∀ M,c + 1200≤M→∀ (R : Type) (k : HK R),callK tbl (runK tbl M) R (toPa 326) [.p p 0] H k = k (.ag zs7) G6)→Reads p x ts0 326 (c + 1200) [.p p 0] (prim1 r ts) H bad :=
  fun b a hw run=>fin (cs:=zs7) b sev_0 (by rw [hw]; exact a) run
 -- none of these kinds
 have none_ : (at0 ts 0).k ≠ 2→(at0 ts 0).k ≠ 3→(at0 ts 0).k ≠ 1→(at0 ts 0).k ≠ 4→Reads p x ts0 326 (c + 1200) [.p p 0] (prim1 r ts) H bad:=by
  intro k2 k3 k1 k4
  obtain ⟨G5,b5,a5,e5⟩:=a4.spoil
  have hw : prim1 r ts = none:=by
   cases ts with
   | nil=>rfl
   | cons t u =>
    have h4 : ∀ s,isT 4 s (t :: u) = false:=fun s=>by rw [isT_at (by decide)]; exact decide_eq_false fun q=>k4 q.1
    have k2 : t.k ≠ 2:=k2
    have k3 : t.k ≠ 3:=k3
    have k1 : t.k ≠ 1:=k1
    rw [prim1_w,if_neg k2,if_neg k3,if_neg k1,h4,h4,if_neg (by decide),if_neg (by decide)]
  refine zero b5 ⟨i,a5⟩ hw fun G6 e6 ld6 M hM R K=>?_
  obtain ⟨m,rfl⟩ : ∃ m,M = (m + c) + 1200:=⟨M - (c + 1200),by omega⟩
  have k2' : ¬ ((at0 ts 0).k : Int) = 2:=by omega
  have k3' : ¬ ((at0 ts 0).k : Int) = 3:=by omega
  have k1' : ¬ ((at0 ts 0).k : Int) = 1:=by omega
  have k4' : ¬ ((at0 ts 0).k : Int) = 4:=by omega
  rw [call_eq L326]
  unfold B326
  simp (disch:=first | omega | (simp only [List.length_cons,List.length_nil]; omega)) only [EX,reduceIte,Nat.reduceEqDiff,Nat.reduceAdd,Int.reduceEq,Int.reduceLT,Int.reduceLE,reduceCtorEq,Nat.reduceLeDiff,Nat.reduceSub,Nat.reduceLT,x_callv,clv_fn,x_mkfn,List.nil_append,List.append_nil,res_3,res_ct,res_ctt,e2,e4,lk,k2',k3',k1',k4',e5,e6,ld6]
 by_cases k2 : (at0 ts 0).k = 2
 ·obtain ⟨t,u,rfl⟩:=at0_ne (ts:=ts) (by omega)
  have k2' : ((at0 (t :: u) 0).k : Int) = 2:=by omega
  obtain ⟨G5,b5,a5,e5⟩:=s242 ⟨i,a4⟩
  have ea : anyT 2 (t :: u) = some (t,u):=if_pos k2
  rw [ea,show (bad || (some (t,u) : Option (Tok × List Tok)).isNone) = bad by cases bad <;> rfl] at a5
  rw [ea] at e5
  have k2t : t.k = 2:=k2
  have hw : prim1 r (t :: u) = some (.mk 2 false t.n [] [] [] [],u):=by rw [prim1_w,if_pos k2t]
  refine fin (cs:=ec 2 false t.n [] [] [] .ns) b5 (sev_ec rfl rfl) (by rw [hw]; exact ⟨a5,TreeS.leaf⟩) fun G6 e6 ld6 M hM R K=>?_
  obtain ⟨m,rfl⟩ : ∃ m,M = (m + c) + 1200:=⟨M - (c + 1200),by omega⟩
  have e6 : ∀ (R : Type) (k : HK R),stC 7 (.p H.next 0) (.ag [.i .i64 2,.b false,.i .i64 ((tokO (some (t,u))).n : Int),str [],str [],str [],.ns]) k G5 = k un G6:=e6
  rw [call_eq L326]
  unfold B326
  simp (disch:=first | omega | (simp only [List.length_cons,List.length_nil]; omega)) only [EX,reduceIte,Nat.reduceEqDiff,Nat.reduceAdd,Int.reduceEq,Int.reduceLT,Int.reduceLE,reduceCtorEq,Nat.reduceLeDiff,Nat.reduceSub,Nat.reduceLT,x_callv,clv_fn,x_mkfn,List.nil_append,List.append_nil,res_3,res_ct,res_ctt,e2,e4,lk,k2',e5,e6,ld6]
 by_cases k3 : (at0 ts 0).k = 3
 ·obtain ⟨t,u,rfl⟩:=at0_ne (ts:=ts) (by omega)
  have k2' : ¬ ((at0 (t :: u) 0).k : Int) = 2:=by omega
  have k3' : ((at0 (t :: u) 0).k : Int) = 3:=by omega
  obtain ⟨G5,b5,a5,e5⟩:=s202 ⟨i,a4⟩
  have ea : anyT 3 (t :: u) = some (t,u):=if_pos k3
  rw [ea,show (bad || (some (t,u) : Option (Tok × List Tok)).isNone) = bad by cases bad <;> rfl] at a5
  rw [ea] at e5
  have k2t : ¬ t.k = 2:=k2
  have k3t : t.k = 3:=k3
  have hw : prim1 r (t :: u) = some (.mk 3 false 0 t.s [] [] [],u):=by rw [prim1_w,if_neg k2t,if_pos k3t]
  refine fin (cs:=ec 3 false 0 t.s [] [] .ns) b5 (sev_ec rfl rfl) (by rw [hw]; exact ⟨a5,TreeS.leaf⟩) fun G6 e6 ld6 M hM R K=>?_
  obtain ⟨m,rfl⟩ : ∃ m,M = (m + c) + 1200:=⟨M - (c + 1200),by omega⟩
  have e6 : ∀ (R : Type) (k : HK R),stC 7 (.p H.next 0) (.ag [.i .i64 3,.b false,.i .i64 0,str (tokO (some (t,u))).s,str [],str [],.ns]) k G5 = k un G6:=e6
  rw [call_eq L326]
  unfold B326
  simp (disch:=first | omega | (simp only [List.length_cons,List.length_nil]; omega)) only [EX,reduceIte,Nat.reduceEqDiff,Nat.reduceAdd,Int.reduceEq,Int.reduceLT,Int.reduceLE,reduceCtorEq,Nat.reduceLeDiff,Nat.reduceSub,Nat.reduceLT,x_callv,clv_fn,x_mkfn,List.nil_append,List.append_nil,res_3,res_ct,res_ctt,e2,e4,lk,k2',k3',e5,e6,ld6]
 by_cases k1 : (at0 ts 0).k = 1
 ·obtain ⟨t,u,rfl⟩:=at0_ne (ts:=ts) (by omega)
  have k2' : ¬ ((at0 (t :: u) 0).k : Int) = 2:=by omega
  have k3' : ¬ ((at0 (t :: u) 0).k : Int) = 3:=by omega
  have k1' : ((at0 (t :: u) 0).k : Int) = 1:=by omega
  have k2t : ¬ t.k = 2:=k2
  have k3t : ¬ t.k = 3:=k3
  have k1t : t.k = 1:=k1
  obtain ⟨cs,G5,b5,sv,res,e5⟩:=s327 ⟨i,a4⟩ k1t
  have ls : ∀ (R : Type) (k : HK R),ldC false 1 (.p G2.next 1) k G4 = k (str t.s) G4:=ls
  have hw : prim1 r (t :: u) = nmR (t :: u):=by rw [prim1_w,if_neg k2t,if_neg k3t,if_pos k1t]
  refine fin (cs:=cs) b5 sv (by rw [hw]; exact res) fun G6 e6 ld6 M hM R K=>?_
  obtain ⟨m,rfl⟩ : ∃ m,M = (m + c) + 1200:=⟨M - (c + 1200),by omega⟩
  rw [call_eq L326]
  unfold B326
  simp (disch:=first | omega | (simp only [List.length_cons,List.length_nil]; omega)) only [EX,reduceIte,Nat.reduceEqDiff,Nat.reduceAdd,Int.reduceEq,Int.reduceLT,Int.reduceLE,reduceCtorEq,Nat.reduceLeDiff,Nat.reduceSub,Nat.reduceLT,x_callv,clv_fn,x_mkfn,List.nil_append,List.append_nil,res_3,res_ct,res_ctt,e2,e4,lk,k2',k3',k1',ls,e5,e6,ld6]
 by_cases k4 : (at0 ts 0).k = 4
 ·obtain ⟨t,u,rfl⟩:=at0_ne (ts:=ts) (by omega)
  have k2' : ¬ ((at0 (t :: u) 0).k : Int) = 2:=by omega
  have k3' : ¬ ((at0 (t :: u) 0).k : Int) = 3:=by omega
  have k1' : ¬ ((at0 (t :: u) 0).k : Int) = 1:=by omega
  have k4' : ((at0 (t :: u) 0).k : Int) = 4:=by omega
  have k2t : ¬ t.k = 2:=k2
  have k3t : ¬ t.k = 3:=k3
  have k1t : ¬ t.k = 1:=k1
  have hw:=prim1_w (r:=r) (t:=t) (u:=u)
  rw [if_neg k2t,if_neg k3t,if_neg k1t] at hw
  have hlu : (t :: u).length = u.length + 1:=rfl
  obtain ⟨G5,b5,a5,e5⟩:=s125 ⟨i,a4⟩ [40]
  have n5:=b5.next
  cases h40 : isT 4 [40] (t :: u) with
  | true =>
   rw [h40,if_pos rfl] at a5
   rw [h40] at e5
   rw [if_pos h40] at hw
   obtain ⟨cs,G6,b6,sv,res,e6⟩:=hnext (ts:=u) a5 (by omega)
   have n6:=b6.next
   obtain ⟨G7,eG7,g7,r7,n7⟩:=ex_new G6
   have g7n:=g7.next
   obtain ⟨G8,g48,b8,n8,r8,e8,_⟩:=room_st (cs:=cs) (((b5.trans b6).trans (g7.but p))) r7 (by omega) n7 (n:=7) rfl sv.1 sv.2.1
   have n8t : G8.next.toN = G7.next.toN:=by rw [n8]
   have at8 : ∀ {b t},At p x ts0 G6 b t→At p x ts0 G8 b t:=by
    rintro b t ⟨j,aj⟩
    exact ⟨j,h.wr (aj.grow g7) b8 (by omega)⟩
   have res8 : Res p x ts0 (New G4.next.toN) G8 bad cs (r u):=res.move at8 (fun a h _=>by have h : G5.next.toN≤a.toN:=h; show G4.next.toN≤a.toN; omega) (by omega) fun a h ha=>by
    rw [b8.get a (by omega) (by intro e; subst e; omega),g7.get a ha]
   obtain ⟨b9,t9,a8,hN,hS⟩:=res8.st
   obtain ⟨G9,b9',a9,e9⟩:=s125 a8 [41]
   obtain ⟨G10,b10,a10,e10⟩:=s73 a9 (isT 4 [41] t9)
   have b810:=b9'.trans b10
   have c10:=(r8.fr b810 (by omega) (by omega)).la 7 sv.1.symm
   have res10 : Res p x ts0 (New G4.next.toN) G10 bad cs (prim1 r (t :: u)):=by
    rw [hw]
    cases hr : r u with
    | none =>
     obtain ⟨rfl,rfl⟩:=hN hr
     exact a10
    | some v =>
     obtain ⟨e,q⟩:=v
     obtain ⟨hb9,ht9,tr⟩:=hS e q hr
     rw [hb9,ht9] at a10
     dsimp only
     cases hq : isT 4 [41] q with
     | false =>
      rw [hq,if_neg (by decide),show (bad || !false) = true by cases bad <;> rfl] at a10
      rw [if_neg (by decide)]
      exact a10
     | true =>
      rw [hq,if_pos rfl,if_pos rfl,show (bad || !true) = bad by cases bad <;> rfl] at a10
      rw [if_pos rfl]
      exact ⟨a10,tr.move (fun _ h _=>h) b810.next fun a h ha=>b810.get a ha (hSp a (by have h : G4.next.toN≤a.toN:=h; omega))⟩
   refine fin (g48.trans b810) sv res10 fun G11 e11 ld11 M hM R K=>?_
   obtain ⟨m,rfl⟩ : ∃ m,M = (m + c) + 1200:=⟨M - (c + 1200),by omega⟩
   subst eG7
   rw [call_eq L326]
   unfold B326
   simp (disch:=first | omega | (simp only [List.length_cons,List.length_nil]; omega)) only [EX,reduceIte,Nat.reduceEqDiff,Nat.reduceAdd,Int.reduceEq,Int.reduceLT,Int.reduceLE,reduceCtorEq,Nat.reduceLeDiff,Nat.reduceSub,Nat.reduceLT,x_callv,clv_fn,x_mkfn,List.nil_append,List.append_nil,res_3,res_ct,res_ctt,e2,e4,lk,k2',k3',k1',k4',e5,e6,e8,e9,e10,c10,e11,ld11]
  | false =>
   rw [if_neg (by rw [h40]; decide)] at a5 hw
   rw [h40] at e5
   obtain ⟨G6,b6,a6,e6⟩:=s125 a5 [91]
   have n6:=b6.next
   cases h91 : isT 4 [91] (t :: u) with
   | true =>
    rw [h91,if_pos rfl] at a6
    rw [h91] at e6
    rw [if_pos h91] at hw
    obtain ⟨v,G7,b7,hv1,hv2,res7,hfill,e7⟩:=hsq h91 a6
    refine fin (cs:=ec 6 false 0 [] [] [] v) ((b5.trans b6).trans b7) (sev_ec hv1 hv2) (by
     rw [hw]
     exact res7.move id (fun a h _=>by have h : G6.next.toN≤a.toN:=h; show G4.next.toN≤a.toN; omega) (Nat.le_refl _) fun _ _ _=>rfl) fun G8 e8 ld8 M hM R K=>?_
    obtain ⟨m,rfl⟩ : ∃ m,M = (m + c) + 1200:=⟨M - (c + 1200),by omega⟩
    rw [call_eq L326]
    unfold B326
    simp (disch:=first | omega | (simp only [List.length_cons,List.length_nil]; omega)) only [EX,reduceIte,Nat.reduceEqDiff,Nat.reduceAdd,Int.reduceEq,Int.reduceLT,Int.reduceLE,reduceCtorEq,Nat.reduceLeDiff,Nat.reduceSub,Nat.reduceLT,x_callv,clv_fn,x_mkfn,List.nil_append,List.append_nil,res_3,res_ct,res_ctt,e2,e4,lk,k2',k3',k1',k4',e5,e6,e7,hfill,e8,ld8]
   | false =>
    rw [if_neg (by rw [h91]; decide)] at a6 hw
    rw [h91] at e6
    obtain ⟨j6,a6⟩:=a6
    obtain ⟨G7,b7,a7,e7⟩:=a6.spoil
    refine zero ((b5.trans b6).trans b7) ⟨_,a7⟩ hw fun G8 e8 ld8 M hM R K=>?_
    obtain ⟨m,rfl⟩ : ∃ m,M = (m + c) + 1200:=⟨M - (c + 1200),by omega⟩
    rw [call_eq L326]
    unfold B326
    simp (disch:=first | omega | (simp only [List.length_cons,List.length_nil]; omega)) only [EX,reduceIte,Nat.reduceEqDiff,Nat.reduceAdd,Int.reduceEq,Int.reduceLT,Int.reduceLE,reduceCtorEq,Nat.reduceLeDiff,Nat.reduceSub,Nat.reduceLT,x_callv,clv_fn,x_mkfn,List.nil_append,List.append_nil,res_3,res_ct,res_ctt,e2,e4,lk,k2',k3',k1',k4',e5,e6,e7,e8,ld8]
 exact none_ k2 k3 k1 k4
end
end Go.Proofs.YtgnfndhmfgghdaaGreatDoor

/- A whole expression (reader.expr). -/
namespace Go.Proofs.YtgnfndhmfgghdaaGreatDoor
open Go Go.Vai
set_option maxRecDepth 100000
set_option maxHeartbeats 3200000
set_option linter.unusedSimpArgs false
section
variable {p : Pa} {x : AV} {ts0 : List Tok} {H H' : Heap} {bad : Bool} {ts : List Tok} {i : Nat}
def exW (r7 r6 : Rd) (ts : List Tok) : Option (Ex × List Tok):=if isT 1 tIf ts = true∧¬ isT 4 tCC (ts.drop 1) = true then if1 r7 (ts.drop 1) else r6 ts
/-- A reading into a new room. -/
theorem Reads.room {f c : Nat} {r : Option (Ex × List Tok)} {H0 G : Heap} {b0 : Bool} {t0 : List Tok} {i0 : Nat} {n0 : Nat} (h0 : AtI p x ts0 H0 b0 t0 i0) (g0 : GrowBut p H0 G) (hn0 : n0≤G.next.toN) (hp0 : p.toN < n0) (h : Reads p x ts0 f c [.p p 0] r G bad) :
  ∃ cs G2 G3 G4,GrowBut p G G2∧G3 = G2.alloc (.cells false 0 35 7 (setCells [.i .i64 0,.b false,.i .i64 0,str [],str [],str [],.ns] 0 .leaf))∧GrowBut p G G4∧G2.next.toN < G4.next.toN∧Row G4 G2.next 35 cs∧Sev cs∧Res p x ts0 (fun a=>n0≤a.toN∧a ≠ G2.next) G4 bad cs r∧G.next.toN≤G2.next.toN ∧
   (∀ M,c≤M→∀ (R : Type) (k : HK R),callK tbl (runK tbl M) R (toPa f) [.p p 0] G k = k (.ag cs) G2)∧(∀ (R : Type) (k : HK R),stC 7 (.p G2.next 0) (.ag cs) k G3 = k un G4):=by
 obtain ⟨cs,G2,b2,sv,res,e⟩:=h
 have n2:=b2.next
 have hg:=g0.next
 have hpn:=h0.lt
 obtain ⟨G3,eG3,g3,r3,n3⟩:=ex_new G2
 have g3n:=g3.next
 obtain ⟨G4,g4,b4,n4,r4,e4,_⟩:=room_st (cs:=cs) (b2.trans (g3.but p)) r3 n2 n3 (n:=7) rfl sv.1 sv.2.1
 have n4t : G4.next.toN = G3.next.toN:=by rw [n4]
 refine ⟨cs,G2,G3,G4,b2,eG3,g4,by omega,r4,sv,res.move ?_ (fun a h ha=>⟨by have h : G.next.toN≤a.toN:=h; omega,by intro e; subst e; omega⟩) (by omega) (fun a h ha=>?_),n2,e,e4⟩
 ·rintro b t ⟨j,aj⟩
  exact ⟨j,h0.wr (aj.grow g3) b4 (by omega)⟩
 ·rw [b4.get a (by omega) (by intro e; subst e; omega),g3.get a ha]
theorem Res.wrong {S : Pa→Prop} {H : Heap} {cs : List AV} {o : Option (Ex × List Tok)} (h : Res p x ts0 S H true cs o) : At p x ts0 H true []:=by
 match o,h with
 | none,h=>exact h
 | some (e,q),h =>
  have:=h.1.gone
  rw [this] at h
  exact h.1
theorem bad_on {S : Pa→Prop} {H : Heap} {cs : List AV} {o : Option (Ex × List Tok)} {b : Bool} {t : List Tok} (hN : o = none→b = true∧t = []) (hS : ∀ e u,o = some (e,u)→b = bad∧t = u∧TreeS S H cs e) (h : bad = true) : b = true:=by
 cases o with
 | none=>exact (hN rfl).1
 | some v=>rw [(hS v.1 v.2 rfl).1,h]
theorem s56 {n c : Nat} {r7 r6 : Rd} (hlt : Dn r7) (h7 : ∀ {H bad ts},At p x ts0 H bad ts→8 * ts.length + 8≤n→Reads p x ts0 56 c [.p p 0] (r7 ts) H bad) (h6 : ∀ {H},At p x ts0 H bad ts→Reads p x ts0 118 c [.p p 0] (r6 ts) H bad)
  (h : At p x ts0 H bad ts) (hn : 8 * ts.length≤n) : Reads p x ts0 56 (c + 1500) [.p p 0] (exW r7 r6 ts) H bad:=by
 obtain ⟨i,h⟩:=h
 have hSp : ∀ a : Pa,H.next.toN≤a.toN→a ≠ p:=fun a q e=>by subst e; have:=h.lt; omega
 have hpn:=h.lt
 obtain ⟨G1,eG1,g1,q1,n1⟩:=ex_new H
 obtain ⟨G2,b2,a2,e2⟩:=s117 ⟨i,h.grow g1⟩
 have n2:=b2.next
 have q2:=q1.fr b2 (by omega) n1
 have g02:=(g1.but p).trans b2
 have hpair : pairT ts = true→isT 1 tIf ts = true→isT 4 tCC (ts.drop 1) = true:=fun h1 h2=>by
  unfold pairT at h1
  rw [Bool.and_eq_true] at h1
  exact h1.2
 subst eG1
 have orr : ∀ {G3 : Heap},GrowBut p G2 G3→At p x ts0 G3 bad ts→exW r7 r6 ts = r6 ts→(∀ (cs : List AV) (G4 G5 : Heap),(∀ M,c≤M→∀ (R : Type) (k : HK R),callK tbl (runK tbl M) R (toPa 118) [.p p 0] G3 k = k (.ag cs) G4)→(∀ (R : Type) (k : HK R),stC 7 (.p H.next 0) (.ag cs) k G4 = k un G5)→(∀ (R : Type) (k : HK R),ldC true 7 (.p H.next 0) k G5 = k (.ag cs) G5)→∀ M,c + 1500≤M→∀ (R : Type) (k : HK R),callK tbl (runK tbl M) R (toPa 56) [.p p 0] H k = k (.ag cs) G5)→Reads p x ts0 56 (c + 1500) [.p p 0] (exW r7 r6 ts) H bad:=by
  intro G3 b3 a3 ew run
  have n3:=b3.next
  obtain ⟨cs,G4,b4,sv,res,e4⟩:=h6 a3
  have n4:=b4.next
  rw [ew]
  obtain ⟨G5,g05,res5,e5,ld5⟩:=close_ h ((g02.trans b3).trans b4) ((q2.fr b3 (by omega) (by omega)).fr b4 (by omega) (by omega)) rfl (Nat.le_refl _) (by omega) sv res fun a h _=>⟨by have h : G3.next.toN≤a.toN:=h; omega,by intro e; subst e; have h : G3.next.toN≤H.next.toN:=h; omega⟩
  exact ⟨cs,G5,g05,sv,res5,run cs G4 G5 e4 e5 ld5⟩
 cases hpp : pairT ts with
 | true =>
  rw [hpp] at e2
  refine orr (GrowBut.refl p G2) a2 (by unfold exW; rw [if_neg (fun q=>q.2 (hpair hpp q.1))]) fun cs G4 G5 e4 e5 ld5 M hM R K=>?_
  obtain ⟨m,rfl⟩ : ∃ m,M = (m + c) + 1500:=⟨M - (c + 1500),by omega⟩
  rw [call_eq L56]
  unfold B56
  simp (disch:=first | omega | (simp only [List.length_cons,List.length_nil]; omega)) only [EX,reduceIte,Nat.reduceEqDiff,Nat.reduceAdd,Int.reduceEq,Int.reduceLT,Int.reduceLE,reduceCtorEq,Nat.reduceLeDiff,Nat.reduceSub,Nat.reduceLT,x_callv,clv_fn,x_mkfn,List.nil_append,List.append_nil,res_3,res_ct,res_ctt,e2,e4,e5,ld5]
 | false =>
  rw [hpp] at e2
  obtain ⟨G3,b3,a3,e3⟩:=s71 a2 [105,102]
  have n3:=b3.next
  cases hif : isT 1 [105,102] ts with
  | false =>
   rw [hif] at e3
   rw [if_neg (by rw [hif]; decide)] at a3
   refine orr b3 a3 (by unfold exW; rw [if_neg (fun q=>by have q1 : isT 1 [105,102] ts = true:=q.1; rw [hif] at q1; cases q1)]) fun cs G4 G5 e4 e5 ld5 M hM R K=>?_
   obtain ⟨m,rfl⟩ : ∃ m,M = (m + c) + 1500:=⟨M - (c + 1500),by omega⟩
   rw [call_eq L56]
   unfold B56
   simp (disch:=first | omega | (simp only [List.length_cons,List.length_nil]; omega)) only [EX,reduceIte,Nat.reduceEqDiff,Nat.reduceAdd,Int.reduceEq,Int.reduceLT,Int.reduceLE,reduceCtorEq,Nat.reduceLeDiff,Nat.reduceSub,Nat.reduceLT,x_callv,clv_fn,x_mkfn,List.nil_append,List.append_nil,res_3,res_ct,res_ctt,e2,e3,e4,e5,ld5]
  | true =>
   rw [hif] at e3
   rw [if_pos hif] at a3
   have hlt1:=isT_lt hif
   have hcc : ¬ isT 4 tCC (ts.drop 1) = true:=fun q=>by
    have : pairT ts = true:=by
     unfold pairT
     rw [q,Bool.and_true]
     obtain ⟨t,r,rfl,hk,_⟩:=isT_ne hif
     exact decide_eq_true hk
    rw [hpp] at this; cases this
   have ew : exW r7 r6 ts = if1 r7 (ts.drop 1):=by unfold exW; rw [if_pos ⟨hif,hcc⟩]
   have q3:=q2.fr b3 (by omega) (by omega)
   -- the first
   obtain ⟨c1,A2,A3,A4,bA,eA3,gA,nA,rA,svA,resA,nA2,eA,stA⟩:=Reads.room (n0:=H.next.toN + 1) h (g02.trans b3) (by omega) (by omega) (h7 a3 (by omega))
   have g04:=(g02.trans b3).trans gA
   have q4:=q3.fr gA (by omega) (by omega)
   obtain ⟨bX,tX,atA,hN1,hS1⟩:=resA.st
   have htX : tX.length≤(ts.drop 1).length:=by
    cases hr : r7 (ts.drop 1) with
    | none=>rw [(hN1 hr).2]; exact Nat.zero_le _
    | some v=>rw [(hS1 v.1 v.2 hr).2.1]; exact Nat.le_of_lt (hlt _ _ _ hr)
   obtain ⟨G5,b5,a5,e5⟩:=s71 atA [116,104,101,110]
   obtain ⟨G6,b6,a6,e6⟩:=s73 a5 (isT 1 [116,104,101,110] tX)
   have b46:=b5.trans b6
   have n46:=b46.next
   have htY : (if isT 1 [116,104,101,110] tX = true then (if isT 1 [116,104,101,110] tX = true then tX.drop 1 else tX) else []).length≤tX.length:=by
    split
    ·rw [List.length_drop]; omega
    ·exact Nat.zero_le _
   obtain ⟨tY,etY⟩ : ∃ tY,tY = (if isT 1 [116,104,101,110] tX = true then (if isT 1 [116,104,101,110] tX = true then tX.drop 1 else tX) else []):=⟨_,rfl⟩
   obtain ⟨bY,ebY⟩ : ∃ bY,bY = (bX || !isT 1 [116,104,101,110] tX):=⟨_,rfl⟩
   rw [← etY] at a6 htY
   rw [← ebY] at a6
   have rA6:=rA.fr b46 (by omega) nA
   have q6:=q4.fr b46 (by omega) (by omega)
   -- the second
   obtain ⟨c2,B2,B3,B4,bB,eB3,gB,nB,rB,svB,resB,nB2,eB,stB⟩:=Reads.room (n0:=H.next.toN + 1) h (g04.trans b46) (by omega) (by omega) (h7 a6 (by omega))
   have g08:=(g04.trans b46).trans gB
   have q8:=q6.fr gB (by omega) (by omega)
   have rA8:=rA6.fr gB (by omega) (by omega)
   obtain ⟨bU,tU,atB,hN2,hS2⟩:=resB.st
   have htU : tU.length≤tY.length:=by
    cases hr : r7 tY with
    | none=>rw [(hN2 hr).2]; exact Nat.zero_le _
    | some v=>rw [(hS2 v.1 v.2 hr).2.1]; exact Nat.le_of_lt (hlt _ _ _ hr)
   obtain ⟨G9,b9,a9,e9⟩:=s71 atB [101,108,115,101]
   obtain ⟨G10,b10,a10,e10⟩:=s73 a9 (isT 1 [101,108,115,101] tU)
   have b810:=b9.trans b10
   have n810:=b810.next
   have htV : (if isT 1 [101,108,115,101] tU = true then (if isT 1 [101,108,115,101] tU = true then tU.drop 1 else tU) else []).length≤tU.length:=by
    split
    ·rw [List.length_drop]; omega
    ·exact Nat.zero_le _
   obtain ⟨tV,etV⟩ : ∃ tV,tV = (if isT 1 [101,108,115,101] tU = true then (if isT 1 [101,108,115,101] tU = true then tU.drop 1 else tU) else []):=⟨_,rfl⟩
   obtain ⟨bV,ebV⟩ : ∃ bV,bV = (bU || !isT 1 [101,108,115,101] tU):=⟨_,rfl⟩
   rw [← etV] at a10 htV
   rw [← ebV] at a10
   have rA10:=rA8.fr b810 (by omega) (by omega)
   have rB10:=rB.fr b810 (by omega) (by omega)
   have q10:=q8.fr b810 (by omega) (by omega)
   -- the third
   obtain ⟨j10,a10⟩:=a10
   obtain ⟨c3,G11,b11,svC,resC,eC⟩:=h7 ⟨j10,a10.grow (Grow.bump 1 G10)⟩ (by omega)
   have nb : (G10.bump 1).next.toN = G10.next.toN + 1:=next_bump
   have n11:=b11.next
   obtain ⟨G12,eG12,g12,b12,n12,rk12,hk12,at12⟩:=kids_ (n:=21) (L:=c1 ++ (c2 ++ c3)) h (g08.trans b810) b11 (by rw [List.length_append,List.length_append,svA.1,svB.1,svC.1])
   have n12t : G12.next.toN = G11.next.toN:=by rw [n12]
   have cA10:=(rA10.grow (Grow.bump 1 G10) (by omega)).la 7 svA.1.symm
   have cB10:=(rB10.grow (Grow.bump 1 G10) (by omega)).la 7 svB.1.symm
   have rA11:=(rA10.grow (Grow.bump 1 G10) (by omega)).fr b11 (by omega) (by omega)
   have rB11:=(rB10.grow (Grow.bump 1 G10) (by omega)).fr b11 (by omega) (by omega)
   have cA11:=rA11.la 7 svA.1.symm
   have cB11:=rB11.la 7 svB.1.symm
   have q12:=((q10.grow (Grow.bump 1 G10) (by omega)).fr b11 (by omega) (by omega)).fr b12 (by omega) (by omega)
   have res12 : Res p x ts0 (fun a=>H.next.toN + 1≤a.toN) G12 bad (ec 25 false 0 [] [] [] (.sl G10.next 0 3 (some 3) 7)) (exW r7 r6 ts):=by
    rw [ew]
    unfold if1
    have badV : bV = true→At p x ts0 G12 true []:=fun q=>at12 (Res.wrong (cs:=c3) (o:=r7 tV) (by rw [← q]; exact resC))
    have badU : bU = true→bV = true:=fun q=>by rw [ebV,q]; rfl
    have badY : bY = true→bU = true:=bad_on hN2 hS2
    have badX : bX = true→bY = true:=fun q=>by rw [ebY,q]; rfl
    cases hr1 : r7 (ts.drop 1) with
    | none=>exact badV (badU (badY (badX (hN1 hr1).1)))
    | some v1 =>
     obtain ⟨ea,u1⟩:=v1
     obtain ⟨hb1,ht1,trA⟩:=hS1 ea u1 hr1
     subst ht1
     dsimp only
     cases hth : isT 1 tThen tX with
     | false =>
      have hth' : isT 1 [116,104,101,110] tX = false:=hth
      rw [if_neg (by decide)]
      exact badV (badU (badY (by rw [ebY,hth']; cases bX <;> rfl)))
     | true =>
      have hth' : isT 1 [116,104,101,110] tX = true:=hth
      rw [if_pos rfl]
      have etY : tY = tX.drop 1:=by rw [etY,if_pos hth',if_pos hth']
      have ebY : bY = bad:=by rw [ebY,hth',hb1]; cases bad <;> rfl
      rw [← etY]
      cases hr2 : r7 tY with
      | none=>exact badV (badU (hN2 hr2).1)
      | some v2 =>
       obtain ⟨eb,u2⟩:=v2
       obtain ⟨hb2,ht2,trB⟩:=hS2 eb u2 hr2
       subst ht2
       dsimp only
       cases hel : isT 1 tElse tU with
       | false =>
        have hel' : isT 1 [101,108,115,101] tU = false:=hel
        rw [if_neg (by decide)]
        exact badV (by rw [ebV,hel']; cases bU <;> rfl)
       | true =>
        have hel' : isT 1 [101,108,115,101] tU = true:=hel
        rw [if_pos rfl]
        have etV : tV = tU.drop 1:=by rw [etV,if_pos hel',if_pos hel']
        have ebV : bV = bad:=by rw [ebV,hel',hb2,ebY]; cases bad <;> rfl
        rw [← etV]
        cases hr3 : r7 tV with
        | none=>rw [hr3] at resC; exact at12 resC
        | some v3 =>
         obtain ⟨ec3,u3⟩:=v3
         rw [hr3,ebV] at resC
         obtain ⟨aC,trC⟩:=resC
         have bA:=b46.trans (gB.trans b810)
         have trA':=over_call ((trA.move (S':=fun a=>H.next.toN + 1≤a.toN) (fun _ h _=>h.1) bA.next fun a h ha=>bA.get a ha (hSp a (by omega)))) b11 b12 (fun a h=>hSp a (by omega))
         have trB':=over_call ((trB.move (S':=fun a=>H.next.toN + 1≤a.toN) (fun _ h _=>h.1) b810.next fun a h ha=>b810.get a ha (hSp a (by omega)))) b11 b12 (fun a h=>hSp a (by omega))
         have trC':=trC.move (S':=fun a=>H.next.toN + 1≤a.toN) (H':=G12) (fun a h _=>by have h : (G10.bump 1).next.toN≤a.toN:=h; omega) (by omega) fun a h ha=>b12.get a ha (by intro e; subst e; have h : (G10.bump 1).next.toN≤G10.next.toN:=h; omega)
         exact ⟨at12 aC,TreeS.node3 (show H.next.toN + 1≤G10.next.toN by omega) (by omega) rk12 trA' trB' trC'⟩
   obtain ⟨G13,g13,res13,e13,ld13⟩:=close_ h g12 q12 rfl (Nat.le_refl _) (by omega) (sev_ec rfl av1_sl) res12 fun a h _=>⟨by omega,by intro e; subst e; omega⟩
   refine ⟨_,G13,g13,sev_ec rfl av1_sl,res13,fun M hM R K=>?_⟩
   obtain ⟨m,rfl⟩ : ∃ m,M = (m + c) + 1500:=⟨M - (c + 1500),by omega⟩
   have hlf : ∀ (R : Type) (F : List AV→Option R),fillV [(0,7,.ag c1),(7,7,.ag c2),(14,7,.ag c3)] [.i .i64 0,.b false,.i .i64 0,str [],str [],str [],.ns,.i .i64 0,.b false,.i .i64 0,str [],str [],str [],.ns,.i .i64 0,.b false,.i .i64 0,str [],str [],str [],.ns] F = F (c1 ++ (c2 ++ c3)):=fun R F=>fill7_3 svA.1 svB.1 svC.1
   have hl21 : (c1 ++ (c2 ++ c3)).length = 21:=by rw [List.length_append,List.length_append,svA.1,svB.1,svC.1]
   have av1:=svA.2.2
   have av2:=svB.2.2
   have e13 : ∀ (R : Type) (k : HK R),stC 7 (.p H.next 0) (.ag [.i .i64 25,.b false,.i .i64 0,str [],str [],str [],.sl G10.next 0 3 (some 3) 7]) k G12 = k un G13:=e13
   subst eA3 eB3
   rw [call_eq L56]
   unfold B56
   simp (disch:=first | omega | (simp only [List.length_cons,List.length_nil]; omega)) only [EX,reduceIte,Nat.reduceEqDiff,Nat.reduceAdd,Int.reduceEq,Int.reduceLT,Int.reduceLE,reduceCtorEq,Nat.reduceLeDiff,Nat.reduceSub,Nat.reduceLT,x_callv,clv_fn,x_mkfn,List.nil_append,List.append_nil,res_3,res_ct,res_ctt,e2,e3,eA,stA,e5,e6,eB,stB,e9,e10,cA10,cB10,eC,cA11,cB11,av1,av2,hlf]
   rw [hl21,← eG12]
   simp (disch:=first | omega | (simp only [List.length_cons,List.length_nil]; omega)) only [EX,reduceIte,Nat.reduceEqDiff,Nat.reduceAdd,Int.reduceEq,Int.reduceLT,Int.reduceLE,reduceCtorEq,Nat.reduceLeDiff,Nat.reduceSub,Nat.reduceLT,x_callv,clv_fn,x_mkfn,List.nil_append,List.append_nil,res_3,res_ct,res_ctt,e13,ld13]
end
end Go.Proofs.YtgnfndhmfgghdaaGreatDoor

/- All levels of an expression,by what is left to read. -/
namespace Go.Proofs.YtgnfndhmfgghdaaGreatDoor
open Go Go.Vai
set_option maxRecDepth 100000
set_option maxHeartbeats 3200000
set_option linter.unusedSimpArgs false
section
variable {p : Pa} {x : AV} {ts0 : List Tok} {H H' : Heap} {bad : Bool} {ts : List Tok} {i : Nat}
theorem Reads.mono {f c c' : Nat} {args : List AV} {r : Option (Ex × List Tok)} (h : Reads p x ts0 f c args r H bad) (hc : c≤c') : Reads p x ts0 f c' args r H bad:=by
 obtain ⟨cs,H',g,sv,res,e⟩:=h
 exact ⟨cs,H',g,sv,res,fun M hM=>e M (by omega)⟩
/-- A level reads as it should. -/
def Lvl (p : Pa) (x : AV) (ts0 : List Tok) (n l f : Nat) : Prop:=∀ {H : Heap} {bad : Bool} {ts : List Tok},At p x ts0 H bad ts→8 * ts.length + l + 1≤n→Reads p x ts0 f (3000 * (n + 1)) [.p p 0] (P n l ts) H bad
/-- What is asked of sets. -/
def SqAll (p : Pa) (x : AV) (ts0 : List Tok) : Prop:=∀ n,Lvl p x ts0 n 7 56→∀ {H0 : Heap} {bad : Bool} {ts : List Tok},At p x ts0 H0 bad ts→isT 4 [91] ts = true→8 * ts.length≤n→∀ {H : Heap},At p x ts0 H bad (ts.drop 1)→Sq p x ts0 (3000 * (n + 1) + 900) (P n 7) H bad (ts.drop 1)
theorem P_7 (n : Nat) (ts : List Tok) : P (n + 1) 7 ts = exW (P n 7) (P n 6) ts:=by
 conv=>lhs; unfold P
 rw [if_pos rfl]; rfl
theorem P_6 (n : Nat) (ts : List Tok) : P (n + 1) 6 ts = lftW (P n 5) 6 ts:=by
 conv=>lhs; unfold P
 rw [if_neg (by decide),if_neg (by decide),if_neg (by decide),if_neg (by decide)]; rfl
theorem P_5 (n : Nat) (ts : List Tok) : P (n + 1) 5 ts = lftW (P n 4) 5 ts:=by
 conv=>lhs; unfold P
 rw [if_neg (by decide),if_neg (by decide),if_neg (by decide),if_neg (by decide)]; rfl
theorem P_4 (n : Nat) (ts : List Tok) : P (n + 1) 4 ts = relW (P n 3) ts:=by
 conv=>lhs; unfold P
 rw [if_neg (by decide),if_pos rfl]; rfl
theorem P_3 (n : Nat) (ts : List Tok) : P (n + 1) 3 ts = lftW (P n 2) 3 ts:=by
 conv=>lhs; unfold P
 rw [if_neg (by decide),if_neg (by decide),if_neg (by decide),if_neg (by decide)]; rfl
theorem P_2 (n : Nat) (ts : List Tok) : P (n + 1) 2 ts = lftW (P n 1) 2 ts:=by
 conv=>lhs; unfold P
 rw [if_neg (by decide),if_neg (by decide),if_neg (by decide),if_neg (by decide)]; rfl
theorem P_1 (n : Nat) (ts : List Tok) : P (n + 1) 1 ts = unW (P n 1) (P n 0) ts:=by
 conv=>lhs; unfold P
 rw [if_neg (by decide),if_neg (by decide),if_pos rfl]; rfl
theorem P_0 (n : Nat) (ts : List Tok) : P (n + 1) 0 ts = memW (prim1 (P n 7)) (P n 7) ts:=by
 conv=>lhs; unfold P
 rw [if_neg (by decide),if_neg (by decide),if_neg (by decide),if_pos rfl]; rfl
/-- All levels. -/
theorem levels (hsq : SqAll p x ts0) : ∀ n,Lvl p x ts0 n 7 56∧Lvl p x ts0 n 6 118∧Lvl p x ts0 n 5 177∧Lvl p x ts0 n 4 230∧Lvl p x ts0 n 3 269∧Lvl p x ts0 n 2 299∧Lvl p x ts0 n 1 314∧Lvl p x ts0 n 0 323
 | 0=>⟨fun _ h=>absurd h (by omega),fun _ h=>absurd h (by omega),fun _ h=>absurd h (by omega),fun _ h=>absurd h (by omega),fun _ h=>absurd h (by omega),fun _ h=>absurd h (by omega),fun _ h=>absurd h (by omega),fun _ h=>absurd h (by omega)⟩
 | n + 1=>by
  obtain ⟨h7,h6,h5,h4,h3,h2,h1,h0⟩:=levels hsq n
  refine ⟨fun {H bad ts} a hn=>?_,fun {H bad ts} a hn=>?_,fun {H bad ts} a hn=>?_,fun {H bad ts} a hn=>?_,fun {H bad ts} a hn=>?_,fun {H bad ts} a hn=>?_,fun {H bad ts} a hn=>?_,fun {H bad ts} a hn=>?_⟩
  ·rw [P_7]
   exact (s56 (n:=n) (P_lt n 7) (fun a hn=>h7 a (by omega)) (fun a=>h6 a (by omega)) a (by omega)).mono (by omega)
  ·rw [P_6]
   exact (s118 (n:=n) (P_lt n 5) (fun a hn=>h5 a (by omega)) a (by omega)).mono (by omega)
  ·rw [P_5]
   exact (s177 (n:=n) (P_lt n 4) (fun a hn=>h4 a (by omega)) a (by omega)).mono (by omega)
  ·rw [P_4]
   exact (s230 (n:=n) (P_lt n 3) (fun a hn=>h3 a (by omega)) a (by omega)).mono (by omega)
  ·rw [P_3]
   exact (s269 (n:=n) (P_lt n 2) (fun a hn=>h2 a (by omega)) a (by omega)).mono (by omega)
  ·rw [P_2]
   exact (s299 (n:=n) (P_lt n 1) (fun a hn=>h1 a (by omega)) a (by omega)).mono (by omega)
  ·rw [P_1]
   exact (s314 (n:=n) (fun a hn=>h1 a (by omega)) (fun a hn=>h0 a (by omega)) a (by omega)).mono (by omega)
  ·rw [P_0]
   refine (s323 (n:=n) (c:=3000 * (n + 1) + 1000) (P_lt n 7) (fun _ _ _ h=>prim1_lt (P_lt n 7) h) (fun a hn=>(h7 a (by omega)).mono (by omega)) (fun {H1} a1=>?_) a (by omega)).mono (by omega)
   exact (s326 (n:=n) (c:=3000 * (n + 1)) (fun a hn=>h7 a (by omega)) (fun hh H2 a2=>hsq n h7 a1 hh (by omega) a2) a1 (by omega)).mono (by omega)
end
end Go.Proofs.YtgnfndhmfgghdaaGreatDoor

/- One node of a tree is well made (parse.one),where it holds no texts. -/
namespace Go.Proofs.YtgnfndhmfgghdaaGreatDoor
open Go Go.Vai
set_option maxRecDepth 100000
set_option maxHeartbeats 3200000
set_option linter.unusedSimpArgs false
theorem flat_neq {R : Type} {k : HK R} {H : Heap} {a b c d : List UInt8} : binC .neq (.flat [2,2]) (.ag [str a,str b]) (.ag [str c,str d]) k H = k (.b (!(decide (a = c) && decide (b = d)))) H:=by
 show forceB (sEq a.length (pk a) c.length (pk c)) (fun r=>forceB (sEq b.length (pk b) d.length (pk d)) fun s=>notK (Bool.casesOn r false (Bool.casesOn s false true)) fun v=>k v H) = _
 rw [forceB_eq,forceB_eq,sEq_str,sEq_str,notK_eq]
 cases decide (a = c) <;> cases decide (b = d) <;> rfl
def kidsI (op : Nat) : Int:=if op = 6 then -1 else if op≤5 then 0 else if op = 11 ∨ op = 12 then 1 else if op = 25 then 3 else 2
theorem s168 {op : Nat} (h : op ∈ [1,2,6,9,11,12,13,14,15,16,17,18,19,20,21,22,23,24,25]) {J : Int} (hJ : J = (op : Int)) : Told 168 80 [.i .i64 J] (.i .i64 (kidsI op)):=by
 intro M hM R k H
 obtain ⟨m,rfl⟩:=fuel hM
 rw [call_eq L168]
 unfold B168
 simp only [List.mem_cons,List.not_mem_nil,or_false] at h
 rcases h with rfl | rfl | rfl | rfl | rfl | rfl | rfl | rfl | rfl | rfl | rfl | rfl | rfl | rfl | rfl | rfl | rfl | rfl | rfl
 all_goals
  simp at hJ
  subst hJ
  simp only [EX,reduceIte,Nat.reduceEqDiff,Nat.reduceAdd,Int.reduceEq,Int.reduceLT,Int.reduceLE,reduceCtorEq,Nat.reduceLeDiff,Nat.reduceSub,Nat.reduceLT,x_callv,clv_fn,x_mkfn,List.nil_append,List.append_nil,res_3,res_ct,res_ctt]
  first | done | rfl
end Go.Proofs.YtgnfndhmfgghdaaGreatDoor

/- A node that holds no texts: nothing is wrong with it but too many kids. -/
namespace Go.Proofs.YtgnfndhmfgghdaaGreatDoor
open Go Go.Vai
set_option maxRecDepth 100000
set_option maxHeartbeats 3200000
set_option linter.unusedSimpArgs false
structure PlN (op : Nat) (b : Bool) (n : Int) (k : Nat) : Prop where
 op_ : op ∈ [1,2,6,9,11,12,13,14,15,16,17,18,19,20,21,22,23,24,25]
 b_ : op ≠ 1→b = false
 n_ : op ≠ 2→n = 0
 n0 : 0≤n
 k_ : op ≠ 6→kidsI op = (k : Int)
theorem box35 (H : Heap) (cs : List AV) (h : cs.length = 7) : ∃ G,G = H.alloc (.cells false 0 35 cs.length (setCells cs 0 .leaf))∧Grow H G∧Row G H.next 35 cs∧H.next.toN < G.next.toN :=
 ⟨_,rfl,Grow.alloc H _,Row.new H 35 cs,by have:=next_alloc H (.cells false 0 35 cs.length (setCells cs 0 .leaf)); omega⟩
theorem _root_.Go.Vai.Row.ag2 {G : Heap} {a : Pa} {e : Nat} {op : Nat} {b : Bool} {n : Int} {s t i : List UInt8} {xk : AV} (r : Row G a e (ec op b n s t i xk)) : ∀ (R : Type) (k : HK R),ldC true 2 (.p a 4) k G = k (.ag [str t,str i]) G:=fun R k=>by
 rw [r.lds (by show 4 + 2≤7; decide)]; rfl
theorem s169 {op k : Nat} {b : Bool} {n : Int} {xk : AV} (h : PlN op b n k) (hx : oneC xk = true) (H : Heap) : Tells 169 150 [.ag (ec op b n [] [] [] xk)] H (.b false):=by
 obtain ⟨G1,eG1,g1,r1,n1⟩:=box35 H (ec op b n [] [] [] xk) rfl
 have l0:=r1.l 0 (v:=.i .i64 (op : Int)) rfl
 have l1:=r1.l 1 (v:=.b b) rfl
 have l2:=r1.l 2 (v:=.i .i64 n) rfl
 have l3:=r1.l 3 (v:=str []) rfl
 have l4:=r1.ag2
 obtain ⟨h1,h2,h3,h4,h5⟩:=h
 have hop:=h1
 simp only [List.mem_cons,List.not_mem_nil,or_false] at h1
 have eG1 : G1 = H.alloc (.cells false 0 35 7 (setCells [.i .i64 (op : Int),.b b,.i .i64 n,str [],str [],str [],xk] 0 .leaf)):=eG1
 by_cases q1 : op = 1
 ·have n0:=h3 (by omega)
  subst n0
  obtain ⟨G2,r2,b2,n2,e2⟩:=r1.st_one (off:=1) (v:=.b false) n1 (show 1 < 7 by decide) one_b
  have r2 : Row G2 H.next 35 (ec op false 0 [] [] [] xk):=r2
  have m1:=r2.l 1 (v:=.b false) rfl
  have m2:=r2.l 2 (v:=.i .i64 0) rfl
  have m3:=r2.l 3 (v:=str []) rfl
  have m4:=r2.ag2
  refine ⟨G2,b2.of g1 (Nat.le_refl _),fun M hM R K=>?_⟩
  obtain ⟨m,rfl⟩:=fuel hM
  have q1' : ((op : Int) = 1) = True:=eq_true (by omega)
  subst eG1
  rw [call_eq L169]
  unfold B169 ec
  simp only [EX,reduceIte,Nat.reduceEqDiff,Nat.reduceAdd,Int.reduceEq,Int.reduceLT,Int.reduceLE,reduceCtorEq,Nat.reduceLeDiff,Nat.reduceSub,Nat.reduceLT,x_callv,clv_fn,x_mkfn,List.nil_append,List.append_nil,res_3,res_ct,res_ctt,l0,q1',e2,m1,m2,m3,m4,s_neq,flat_neq]
 ·by_cases q2 : op = 2
  ·have b0:=h2 (by omega)
   obtain ⟨G2,r2,b2,n2,e2⟩:=r1.st_one (off:=2) (v:=.i .i64 0) n1 (show 2 < 7 by decide) one_i
   have r2 : Row G2 H.next 35 (ec op b 0 [] [] [] xk):=r2
   have m1:=r2.l 1 (v:=.b b) rfl
   have m2:=r2.l 2 (v:=.i .i64 0) rfl
   have m3:=r2.l 3 (v:=str []) rfl
   have m4:=r2.ag2
   refine ⟨G2,b2.of g1 (Nat.le_refl _),fun M hM R K=>?_⟩
   obtain ⟨m,rfl⟩:=fuel hM
   have q1' : ((op : Int) = 1) = False:=eq_false (by omega)
   have q2' : ((op : Int) = 2) = True:=eq_true (by omega)
   have q3' : (n < 0) = False:=eq_false (by omega)
   subst eG1 b0
   rw [call_eq L169]
   unfold B169 ec
   simp only [EX,reduceIte,Nat.reduceEqDiff,Nat.reduceAdd,Int.reduceEq,Int.reduceLT,Int.reduceLE,reduceCtorEq,Nat.reduceLeDiff,Nat.reduceSub,Nat.reduceLT,x_callv,clv_fn,x_mkfn,List.nil_append,List.append_nil,res_3,res_ct,res_ctt,l0,l2,q1',q2',q3',e2,m1,m2,m3,m4,s_neq,flat_neq]
  ·have b0:=h2 q1
   have n0:=h3 q2
   refine ⟨G1,g1,fun M hM R K=>?_⟩
   obtain ⟨m,rfl⟩:=fuel hM
   have q1' : ((op : Int) = 1) = False:=eq_false (by omega)
   have q2' : ((op : Int) = 2) = False:=eq_false (by omega)
   have q3' : ((op : Int) = 3) = False:=eq_false (by omega)
   have q4' : ((op : Int) = 4) = False:=eq_false (by omega)
   have q5' : ((op : Int) = 5) = False:=eq_false (by omega)
   have q7' : ((op : Int) = 7) = False:=eq_false (by omega)
   have q8' : ((op : Int) = 8) = False:=eq_false (by omega)
   have q10' : ((op : Int) = 10) = False:=eq_false (by omega)
   subst eG1 b0 n0
   rw [call_eq L169]
   unfold B169 ec
   simp only [EX,reduceIte,Nat.reduceEqDiff,Nat.reduceAdd,Int.reduceEq,Int.reduceLT,Int.reduceLE,reduceCtorEq,Nat.reduceLeDiff,Nat.reduceSub,Nat.reduceLT,x_callv,clv_fn,x_mkfn,List.nil_append,List.append_nil,res_3,res_ct,res_ctt,l0,l1,l2,l3,l4,q1',q2',q3',q4',q5',q7',q8',q10',s_neq,flat_neq]
theorem s115 {op k : Nat} {b : Bool} {n : Int} {xk : AV} (h : PlN op b n k) (hx : oneC xk = true) (hl : ∀ (R : Type) (K : HK R) (H : Heap),lenC false xk K H = K (.i .i64 (k : Int)) H) (H : Heap) : Tells 115 400 [.ag (ec op b n [] [] [] xk)] H (.i .i64 (if op = 6∧8 < k then 4 else 0)):=by
 obtain ⟨G1,eG1,g1,r1,n1⟩:=box35 H (ec op b n [] [] [] xk) rfl
 obtain ⟨G2,g2,e169⟩:=s169 h hx G1
 have r2:=r1.grow g2 n1
 have l0:=r1.l 0 (v:=.i .i64 (op : Int)) rfl
 have l6:=r1.l 6 (v:=xk) rfl
 have la:=r1.la 7 rfl
 have m0:=r2.l 0 (v:=.i .i64 (op : Int)) rfl
 have m6:=r2.l 6 (v:=xk) rfl
 have e168:=s168 h.op_ (J:=(op : Int)) rfl
 obtain ⟨h1,h2,h3,h4,h5⟩:=h
 simp only [List.mem_cons,List.not_mem_nil,or_false] at h1
 have eG1 : G1 = H.alloc (.cells false 0 35 7 (setCells [.i .i64 (op : Int),.b b,.i .i64 n,str [],str [],str [],xk] 0 .leaf)):=eG1
 have la : ∀ (R : Type) (K : HK R),ldC true 7 (.p H.next 0) K G1 = K (.ag [.i .i64 (op : Int),.b b,.i .i64 n,str [],str [],str [],xk]) G1:=la
 have e169 : ∀ M,150≤M→∀ (R : Type) (K : HK R),callK tbl (runK tbl M) R (toPa 169) [.ag [.i .i64 (op : Int),.b b,.i .i64 n,str [],str [],str [],xk]] G1 K = K (.b false) G2:=e169
 refine ⟨G2,g1.trans g2,fun M hM R K=>?_⟩
 obtain ⟨m,rfl⟩:=fuel hM
 have q3' : ((op : Int) = 3) = False:=eq_false (by omega)
 have q4' : ((op : Int) = 4) = False:=eq_false (by omega)
 have q5' : ((op : Int) = 5) = False:=eq_false (by omega)
 have q7' : ((op : Int) = 7) = False:=eq_false (by omega)
 have q8' : ((op : Int) = 8) = False:=eq_false (by omega)
 have q10' : ((op : Int) = 10) = False:=eq_false (by omega)
 by_cases q6 : op = 6
 ·have ek : kidsI op = -1:=by rw [q6]; rfl
  have q6' : ((op : Int) = 6) = True:=eq_true (by omega)
  by_cases q9 : 8 < k
  ·have q9' : ((8 : Int) < (k : Int)) = True:=eq_true (by omega)
   rw [if_pos ⟨q6,q9⟩]
   subst eG1
   rw [call_eq L115]
   unfold B115 ec
   simp (maxSteps:=1000000) (disch:=first | omega | (simp only [List.length_cons,List.length_nil]; omega)) only [EX,reduceIte,Nat.reduceEqDiff,Nat.reduceAdd,Int.reduceEq,Int.reduceLT,Int.reduceLE,reduceCtorEq,Nat.reduceLeDiff,Nat.reduceSub,Nat.reduceLT,x_callv,clv_fn,x_mkfn,List.nil_append,List.append_nil,res_3,res_ct,res_ctt,l0,l6,la,m0,m6,e168,ek,e169,hl,q3',q4',q5',q6',q7',q8',q10',q9',Int.reduceNeg]
  ·have q9' : ((8 : Int) < (k : Int)) = False:=eq_false (by omega)
   rw [if_neg (fun q=>q9 q.2)]
   subst eG1
   rw [call_eq L115]
   unfold B115 ec
   simp (maxSteps:=1000000) (disch:=first | omega | (simp only [List.length_cons,List.length_nil]; omega)) only [EX,reduceIte,Nat.reduceEqDiff,Nat.reduceAdd,Int.reduceEq,Int.reduceLT,Int.reduceLE,reduceCtorEq,Nat.reduceLeDiff,Nat.reduceSub,Nat.reduceLT,x_callv,clv_fn,x_mkfn,List.nil_append,List.append_nil,res_3,res_ct,res_ctt,l0,l6,la,m0,m6,e168,ek,e169,hl,q3',q4',q5',q6',q7',q8',q10',q9',Int.reduceNeg]
 ·have ek:=h5 q6
  have q6' : ((op : Int) = 6) = False:=eq_false (by omega)
  have k1 : ((k : Int) < -1) = False:=eq_false (by omega)
  have k2 : ((0 : Int)≤(k : Int)) = True:=eq_true (by omega)
  rw [if_neg (fun q=>q6 q.1)]
  subst eG1
  rw [call_eq L115]
  unfold B115 ec
  simp (maxSteps:=1000000) (disch:=first | omega | (simp only [List.length_cons,List.length_nil]; omega)) only [EX,reduceIte,Nat.reduceEqDiff,Nat.reduceAdd,Int.reduceEq,Int.reduceLT,Int.reduceLE,reduceCtorEq,Nat.reduceLeDiff,Nat.reduceSub,Nat.reduceLT,x_callv,clv_fn,x_mkfn,List.nil_append,List.append_nil,res_3,res_ct,res_ctt,l0,l6,la,m0,m6,e168,ek,e169,hl,q3',q4',q5',q6',q7',q8',q10',k1,k2,Int.reduceNeg]
end Go.Proofs.YtgnfndhmfgghdaaGreatDoor

/- A tree that holds no texts: what is wrong with it,how deep it is. -/
namespace Go.Proofs.YtgnfndhmfgghdaaGreatDoor
open Go Go.Vai
set_option maxRecDepth 100000
set_option maxHeartbeats 3200000
set_option linter.unusedSimpArgs false
mutual
/-- A tree without texts. -/
def plE : Ex→Bool
 | .mk op b n s t d ks=>decide (s = []∧t = []∧d = []∧op ∈ [1,2,6,9,11,12,13,14,15,16,17,18,19,20,21,22,23,24,25]∧(op ≠ 1→b = false)∧(op ≠ 2→n = 0)∧0≤n∧(op ≠ 6→kidsI op = (ks.length : Int))∧ks.length≤400) && plK ks
def plK : List Ex→Bool
 | []=>true
 | k :: ks=>plE k && plK ks
end
noncomputable def Lp54 : AC:=(.loop (.seq (.ops [O 16 (.bin .lss .no (T 15) (T 14))]) (.seq (.cond (T 16) .skip (.exit 0)) (.seq (.block 1 (.seq (.ops [O 17 (.ixa 7 (T 13) (T 15)),O 18 (.ld true 7 (T 17)),O 5 (.new 35 [(.i .i64 0),(.b false),(.i .i64 0),(str []),(str []),(str []),.ns]),O_ (.st 7 (T 5) (T 18))]) (.seq (.ops [O 19 (.ld true 7 (T 5)),O 20 (.call (toPa 54) [(T 19)]),O 6 (.mv (T 20))]) (.seq (.ops [O 21 (.mv (T 6)),O 22 (.bin .neq .no (T 21) (K (.i .i64 0)))]) (.cond (T 22) (.seq (.ops [O 23 (.mv (T 6)),O 2 (.mv (T 23))]) .ret) .skip))))) (.ops [O 24 (.bin .add .no (T 15) (K (.i .i64 1))),O 15 (.mv (T 24))])))))
theorem B54_eq : B54 = (.seq (.ops [O 1 (.box 35 (T 0)),O 2 (.mv (K (.i .i64 0)))]) (.seq (.seq (.ops [O 7 (.ld true 7 (T 1)),O 8 (.call (toPa 115) [(T 7)]),O 3 (.mv (T 8))]) (.seq (.ops [O 9 (.mv (T 3)),O 10 (.bin .neq .no (T 9) (K (.i .i64 0)))]) (.cond (T 10) (.seq (.ops [O 11 (.mv (T 3)),O 2 (.mv (T 11))]) .ret) .skip))) (.seq (.seq (.ops [O 12 (.fa 6 (T 1)),O 13 (.ld false 1 (T 12)),O 14 (.len false (T 13)),O 15 (.mv (K (.i .i64 0)))]) (.block 0 Lp54)) (.seq (.ops [O 2 (.mv (K (.i .i64 0)))]) .ret)))):=rfl
/-- Where kids lie. -/
structure Kd (S : Pa→Prop) (d : Nat) (H : Heap) (xk : AV) (ks : List Ex) : Prop where
 one : oneC xk = true
 len : ∀ (R : Type) (K : HK R) (G : Heap),lenC false xk K G = K (.i .i64 (ks.length : Int)) G
 at_ : ∀ (j : Nat) (e : Ex),ks[j]? = some e→∃ a cs,(∀ (R : Type) (K : HK R) (G : Heap),ixaC 7 xk (.i .i64 (j : Int)) K G = K (.p a (j * 7)) G)∧ExIn S H d cs e∧∀ (R : Type) (K : HK R),ldC true 7 (.p a (j * 7)) K H = K (.ag cs) H
theorem Kd.of {S : Pa→Prop} {d : Nat} {H : Heap} {xk : AV} {ks : List Ex} (h : KidsE S (ExIn S H d) H xk ks) : Kd S d H xk ks:=by
 obtain ⟨rfl,rfl⟩ | ⟨a,c,L,rfl,_,_,hr,hL,hk⟩:=h
 ·exact ⟨rfl,fun _ _ _=>rfl,fun j e q=>by cases q⟩
 ·refine ⟨rfl,fun _ _ _=>rfl,fun j e q=>⟨a,_,fun R K G=>?_,hk j e q,fun R K=>?_⟩⟩
  ·have hj : j < ks.length:=(List.getElem?_eq_some_iff.mp q).1
   rw [ixa_sl (by omega) (by omega),Int.toNat_natCast,Nat.zero_add]
  ·have hj : j < ks.length:=(List.getElem?_eq_some_iff.mp q).1
   exact hr.lds (by rw [hL]; omega)
theorem Kd.grow {S : Pa→Prop} {d : Nat} {H H' : Heap} {xk : AV} {ks : List Ex} (h : KidsE S (ExIn S H d) H xk ks) (g : Grow H H') : KidsE S (ExIn S H' d) H' xk ks:=by
 obtain h | ⟨a,c,L,rfl,hs,ha,hr,hL,hk⟩:=h
 ·exact .inl h
 ·exact .inr ⟨a,c,L,rfl,hs,Nat.lt_of_lt_of_le ha g.next,hr.grow g ha,hL,fun j e q=>ExIn.move (fun _ h _=>h) g.next (fun a _ h=>g.get a h) _ _ _ (hk j e q)⟩
theorem plK_at : ∀ {ks : List Ex} {j : Nat} {e : Ex},plK ks = true→ks[j]? = some e→plE e = true
 | [],_,_,_,q=>by cases q
 | k :: ks,0,e,h,q=>by
  cases q
  unfold plK at h
  rw [Bool.and_eq_true] at h
  exact h.1
 | k :: ks,j + 1,e,h,q=>by
  have q : ks[j]? = some e:=q
  unfold plK at h
  rw [Bool.and_eq_true] at h
  exact plK_at h.2 q
theorem wides_cut : ∀ {ks : List Ex} {j : Nat} {e : Ex},ks[j]? = some e→wides (ks.drop j) = (wide e || wides (ks.drop (j + 1)))
 | [],_,_,q=>by cases q
 | k :: ks,0,e,q=>by
  cases q
  rfl
 | k :: ks,j + 1,e,q=>wides_cut (ks:=ks) q
structure F54 (xk : AV) (len j : Nat) (fr : Tr AV) : Prop where
 f13 : V fr 13 = xk
 f14 : V fr 14 = .i .i64 (len : Int)
 f15 : V fr 15 = .i .i64 (j : Int)
def AllOk (S : Pa→Prop) (d : Nat) : Prop:=∀ (H : Heap) (cs : List AV) (e : Ex),ExIn S H d cs e→plE e = true→Tells 54 (1000 * (d + 1)) [.ag cs] H (.i .i64 (if wide e = true then 4 else 0))
theorem all_go {S : Pa→Prop} {d : Nat} (ih : AllOk S d) {xk : AV} {ks : List Ex} (hp : plK ks = true) (hl : ks.length≤400) : ∀ (n j : Nat) (G : Heap),j + n = ks.length→KidsE S (ExIn S G d) G xk ks →
  ∃ G',Grow G G'∧∀ fr,F54 xk ks.length j fr→∀ M,1000 * (d + 1) + 100 + n≤M→∀ (R : Type) (K : XK R) (res : Option R),(wides (ks.drop j) = false→∀ fr',K (.exit 0) fr' G' = res)→(wides (ks.drop j) = true→∀ fr',V fr' 2 = .i .i64 4→K .ret fr' G' = res)→runK tbl M R Lp54 fr G K = res
 | 0,j,G,hj,hk=>by
  refine ⟨G,Grow.refl G,fun fr ⟨f13,f14,f15⟩ M hM R K res hx _=>?_⟩
  obtain ⟨m,rfl⟩ : ∃ m,M = m + (1000 * (d + 1) + 100):=⟨M - (1000 * (d + 1) + 100),by omega⟩
  have hlt : ¬ (j : Int) < (ks.length : Int):=by omega
  unfold Lp54
  rw [show m + (1000 * (d + 1) + 100) = (m + 1000 * (d + 1)) + 100 by omega,run_loop]
  simp (disch:=first | omega | (simp only [List.length_cons,List.length_nil]; omega)) only [EX,reduceIte,Nat.reduceEqDiff,Nat.reduceAdd,Int.reduceEq,Int.reduceLT,Int.reduceLE,reduceCtorEq,Nat.reduceLeDiff,Nat.reduceSub,Nat.reduceLT,x_callv,clv_fn,x_mkfn,List.nil_append,List.append_nil,res_3,res_ct,res_ctt,f14,f15,hlt]
  exact hx (by rw [List.drop_of_length_le (by omega)]; rfl) _
 | n + 1,j,G,hj,hk=>by
  have hjl : j < ks.length:=by omega
  have hke : ks[j]? = some ks[j]:=List.getElem?_eq_getElem hjl
  obtain ⟨a,cs,eix,hin,eld⟩:=(Kd.of hk).at_ j _ hke
  have sv:=hin.sev
  obtain ⟨G1,eG1,g1,r1,n1⟩:=ex_new G
  obtain ⟨G2,r2,b2,n2,e2⟩:=r1.st_all (n:=7) n1 sv.1 rfl sv.2.1
  have g02:=b2.of g1 (Nat.le_refl _)
  have ld2:=r2.la 7 sv.1.symm
  obtain ⟨G3,g3,e3⟩:=ih G2 cs ks[j] (ExIn.move (fun _ h _=>h) g02.next (fun a _ h=>g02.get a h) _ _ _ hin) (plK_at hp hke)
  have hw:=wides_cut hke
  obtain ⟨G4,g4,e4⟩:=all_go ih hp hl n (j + 1) G3 (by omega) (Kd.grow hk (g02.trans g3))
  have hlt : (j : Int) < (ks.length : Int):=by omega
  cases hwe : wide ks[j] with
  | true =>
   rw [hwe] at e3 hw
   refine ⟨G3,g02.trans g3,fun fr ⟨f13,f14,f15⟩ M hM R K res _ hr=>?_⟩
   obtain ⟨m,rfl⟩ : ∃ m,M = (m + 1000 * (d + 1) + n) + 101:=⟨M - (1000 * (d + 1) + 100 + (n + 1)),by omega⟩
   have e3 : ∀ M,1000 * (d + 1)≤M→∀ (R : Type) (K : HK R),callK tbl (runK tbl M) R (toPa 54) [.ag cs] G2 K = K (.i .i64 4) G3:=e3
   subst eG1
   unfold Lp54
   rw [run_loop]
   simp (disch:=first | omega | (simp only [List.length_cons,List.length_nil]; omega)) only [EX,reduceIte,Nat.reduceEqDiff,Nat.reduceAdd,Int.reduceEq,Int.reduceLT,Int.reduceLE,reduceCtorEq,Nat.reduceLeDiff,Nat.reduceSub,Nat.reduceLT,x_callv,clv_fn,x_mkfn,List.nil_append,List.append_nil,res_3,res_ct,res_ctt,f13,f14,f15,hlt,eix,eld,e2,ld2,e3]
   refine hr (by rw [hw]; rfl) _ ?_
   simp only [V_S,Nat.reduceEqDiff,reduceIte]
  | false =>
   rw [hwe] at e3 hw
   refine ⟨G4,(g02.trans g3).trans g4,fun fr ⟨f13,f14,f15⟩ M hM R K res hx hr=>?_⟩
   obtain ⟨m,rfl⟩ : ∃ m,M = (m + 1000 * (d + 1) + n) + 101:=⟨M - (1000 * (d + 1) + 100 + (n + 1)),by omega⟩
   have e3 : ∀ M,1000 * (d + 1)≤M→∀ (R : Type) (K : HK R),callK tbl (runK tbl M) R (toPa 54) [.ag cs] G2 K = K (.i .i64 0) G3:=e3
   rw [Bool.false_or] at hw
   rw [hw] at hx hr
   subst eG1
   unfold Lp54
   rw [run_loop]
   simp (disch:=first | omega | (simp only [List.length_cons,List.length_nil]; omega)) only [EX,reduceIte,Nat.reduceEqDiff,Nat.reduceAdd,Int.reduceEq,Int.reduceLT,Int.reduceLE,reduceCtorEq,Nat.reduceLeDiff,Nat.reduceSub,Nat.reduceLT,x_callv,clv_fn,x_mkfn,List.nil_append,List.append_nil,res_3,res_ct,res_ctt,f13,f14,f15,hlt,eix,eld,e2,ld2,e3,i_add,inc64 (show j < 1000000000000 by omega)]
   refine e4 _ ⟨?_,?_,?_⟩ _ (by omega) R K res hx hr
   all_goals simp only [V_S,Nat.reduceEqDiff,reduceIte]
   all_goals first | assumption | rfl
theorem s54 (S : Pa→Prop) : ∀ d,AllOk S d
 | 0=>fun _ _ _ h=>h.elim
 | d + 1=>by
  intro H cs e h hp
  match e,h,hp with
  | .mk op b n s t i ks,h,hp =>
   obtain ⟨xk,rfl,hk⟩:=h
   unfold plE at hp
   rw [Bool.and_eq_true,decide_eq_true_eq] at hp
   obtain ⟨⟨rfl,rfl,rfl,p1,p2,p3,p4,p5,p6⟩,hpk⟩:=hp
   have kd:=Kd.of hk
   obtain ⟨G1,eG1,g1,r1,n1⟩:=box35 H (ec op b n [] [] [] xk) rfl
   obtain ⟨G2,g2,e2⟩:=s115 ⟨p1,p2,p3,p4,p5⟩ kd.one kd.len G1
   have r2:=r1.grow g2 n1
   have la:=r1.la 7 rfl
   have l6:=r2.l 6 (v:=xk) rfl
   have hl:=kd.len
   obtain ⟨G3,g3,e3⟩:=all_go (s54 S d) hpk p6 ks.length 0 G2 (Nat.zero_add _) (Kd.grow hk (g1.trans g2))
   have eG1 : G1 = H.alloc (.cells false 0 35 7 (setCells [.i .i64 (op : Int),.b b,.i .i64 n,str [],str [],str [],xk] 0 .leaf)):=eG1
   have la : ∀ (R : Type) (K : HK R),ldC true 7 (.p H.next 0) K G1 = K (.ag [.i .i64 (op : Int),.b b,.i .i64 n,str [],str [],str [],xk]) G1:=la
   have ew : wide (.mk op b n [] [] [] ks) = (decide (op = 6∧8 < ks.length) || wides ks):=by unfold wide; rfl
   by_cases q : op = 6∧8 < ks.length
   ·rw [if_pos q] at e2
    rw [ew,decide_eq_true q]
    have e2 : ∀ M,400≤M→∀ (R : Type) (K : HK R),callK tbl (runK tbl M) R (toPa 115) [.ag [.i .i64 (op : Int),.b b,.i .i64 n,str [],str [],str [],xk]] G1 K = K (.i .i64 4) G2:=e2
    refine ⟨G2,g1.trans g2,fun M hM R K=>?_⟩
    obtain ⟨m,rfl⟩ : ∃ m,M = (m + 1000 * (d + 1)) + 1000:=⟨M - (1000 * (d + 1 + 1)),by omega⟩
    subst eG1
    rw [call_eq L54,B54_eq]
    unfold ec
    simp (disch:=first | omega | (simp only [List.length_cons,List.length_nil]; omega)) only [EX,reduceIte,Nat.reduceEqDiff,Nat.reduceAdd,Int.reduceEq,Int.reduceLT,Int.reduceLE,reduceCtorEq,Nat.reduceLeDiff,Nat.reduceSub,Nat.reduceLT,x_callv,clv_fn,x_mkfn,List.nil_append,List.append_nil,res_3,res_ct,res_ctt,la,e2,Bool.true_or]
   ·rw [if_neg q] at e2
    rw [ew,decide_eq_false q,Bool.false_or]
    have e2 : ∀ M,400≤M→∀ (R : Type) (K : HK R),callK tbl (runK tbl M) R (toPa 115) [.ag [.i .i64 (op : Int),.b b,.i .i64 n,str [],str [],str [],xk]] G1 K = K (.i .i64 0) G2:=e2
    refine ⟨G3,(g1.trans g2).trans g3,fun M hM R K=>?_⟩
    obtain ⟨m,rfl⟩ : ∃ m,M = (m + 1000 * (d + 1)) + 1000:=⟨M - (1000 * (d + 1 + 1)),by omega⟩
    subst eG1
    rw [call_eq L54,B54_eq]
    unfold ec
    simp (disch:=first | omega | (simp only [List.length_cons,List.length_nil]; omega)) only [EX,reduceIte,Nat.reduceEqDiff,Nat.reduceAdd,Int.reduceEq,Int.reduceLT,Int.reduceLE,reduceCtorEq,Nat.reduceLeDiff,Nat.reduceSub,Nat.reduceLT,x_callv,clv_fn,x_mkfn,List.nil_append,List.append_nil,res_3,res_ct,res_ctt,la,e2,l6,hl]
    refine e3 _ ⟨?_,?_,?_⟩ _ (by omega) R _ _ (fun hw fr=>?_) (fun hw fr f2=>?_)
    ·simp only [V_S,Nat.reduceEqDiff,reduceIte]
    ·simp only [V_S,Nat.reduceEqDiff,reduceIte]
    ·simp only [V_S,Nat.reduceEqDiff,reduceIte]; rfl
    ·rw [List.drop_zero] at hw
     rw [hw]
     simp (disch:=first | omega | (simp only [List.length_cons,List.length_nil]; omega)) only [EX,reduceIte,Nat.reduceEqDiff,Nat.reduceAdd,Int.reduceEq,Int.reduceLT,Int.reduceLE,reduceCtorEq,Nat.reduceLeDiff,Nat.reduceSub,Nat.reduceLT,x_callv,clv_fn,x_mkfn,List.nil_append,List.append_nil,res_3,res_ct,res_ctt]
    ·rw [List.drop_zero] at hw
     rw [hw]
     simp (disch:=first | omega | (simp only [List.length_cons,List.length_nil]; omega)) only [EX,reduceIte,Nat.reduceEqDiff,Nat.reduceAdd,Int.reduceEq,Int.reduceLT,Int.reduceLE,reduceCtorEq,Nat.reduceLeDiff,Nat.reduceSub,Nat.reduceLT,x_callv,clv_fn,x_mkfn,List.nil_append,List.append_nil,res_3,res_ct,res_ctt,f2]
end Go.Proofs.YtgnfndhmfgghdaaGreatDoor

/- How deep a tree is; a tree's check. -/
namespace Go.Proofs.YtgnfndhmfgghdaaGreatDoor
open Go Go.Vai
set_option maxRecDepth 100000
set_option maxHeartbeats 3200000
set_option linter.unusedSimpArgs false
theorem max_i {R : Type} {k : HK R} {H : Heap} {kd : IntKind} {a b : Int} : mmC true (.i kd a) (.i kd b) k H = k (.i kd (max a b)) H:=by
 show guardK (Nat.beq (kix kd) (kix kd)) (Bool.casesOn (iLt a b) (k (.i kd a) H) (k (.i kd b) H)) = _
 rw [Nat.beq_refl,iLt_eq]
 show (Bool.casesOn (decide (a < b)) (k (.i kd a) H) (k (.i kd b) H) : Option R) = _
 by_cases h : a < b
 ·rw [decide_eq_true h,Int.max_def,if_pos (by omega)]
 ·rw [decide_eq_false h,Int.max_def]
  by_cases h2 : a = b
  ·subst h2; rw [if_pos (Int.le_refl _)]
  ·rw [if_neg (by omega)]
noncomputable def Lp23 : AC:=(.loop (.seq (.ops [O 10 (.bin .lss .no (T 9) (T 8))]) (.seq (.cond (T 10) .skip (.exit 0)) (.seq (.block 1 (.seq (.ops [O 11 (.ixa 7 (T 7) (T 9)),O 12 (.ld true 7 (T 11)),O 5 (.new 35 [(.i .i64 0),(.b false),(.i .i64 0),(str []),(str []),(str []),.ns]),O_ (.st 7 (T 5) (T 12))]) (.ops [O 13 (.mv (T 3)),O 14 (.ld true 7 (T 5)),O 15 (.call (toPa 23) [(T 14)]),O 16 (.mm true (T 13) (T 15)),O 3 (.mv (T 16))]))) (.ops [O 17 (.bin .add .no (T 9) (K (.i .i64 1))),O 9 (.mv (T 17))])))))
theorem B23_eq : B23 = (.seq (.ops [O 1 (.box 35 (T 0)),O 2 (.mv (K (.i .i64 0)))]) (.seq (.ops [O 3 (.mv (K (.i .i64 0)))]) (.seq (.seq (.ops [O 6 (.fa 6 (T 1)),O 7 (.ld false 1 (T 6)),O 8 (.len false (T 7)),O 9 (.mv (K (.i .i64 0)))]) (.block 0 Lp23)) (.seq (.ops [O 18 (.mv (T 3)),O 19 (.bin .add .no (T 18) (K (.i .i64 1))),O 2 (.mv (T 19))]) .ret)))):=rfl
theorem deps_cut : ∀ {ks : List Ex} {j : Nat} {e : Ex},ks[j]? = some e→deps (ks.drop j) = max (dep e) (deps (ks.drop (j + 1)))
 | [],_,_,q=>by cases q
 | k :: ks,0,e,q=>by
  cases q
  show deps (k :: ks) = max (dep k) (deps ks)
  conv=>lhs; unfold deps
 | k :: ks,j + 1,e,q=>deps_cut (ks:=ks) q
structure F23 (xk : AV) (len j a : Nat) (fr : Tr AV) : Prop where
 f3 : V fr 3 = .i .i64 (a : Int)
 f7 : V fr 7 = xk
 f8 : V fr 8 = .i .i64 (len : Int)
 f9 : V fr 9 = .i .i64 (j : Int)
def DepOk (S : Pa→Prop) (d : Nat) : Prop:=∀ (H : Heap) (cs : List AV) (e : Ex),ExIn S H d cs e→plE e = true→dep e≤1000000→Tells 23 (1000 * (d + 1)) [.ag cs] H (.i .i64 (dep e : Int))
theorem dep_go {S : Pa→Prop} {d : Nat} (ih : DepOk S d) {xk : AV} {ks : List Ex} (hp : plK ks = true) (hl : ks.length≤400) (hd : deps ks≤1000000) : ∀ (n j a : Nat) (G : Heap),j + n = ks.length→KidsE S (ExIn S G d) G xk ks →
  ∃ G',Grow G G'∧∀ fr,F23 xk ks.length j a fr→∀ M,1000 * (d + 1) + 100 + n≤M→∀ (R : Type) (K : XK R) (res : Option R),(∀ fr',V fr' 3 = .i .i64 ((max a (deps (ks.drop j)) : Nat) : Int)→K (.exit 0) fr' G' = res)→runK tbl M R Lp23 fr G K = res
 | 0,j,a,G,hj,hk=>by
  refine ⟨G,Grow.refl G,fun fr ⟨f3,f7,f8,f9⟩ M hM R K res hx=>?_⟩
  obtain ⟨m,rfl⟩ : ∃ m,M = (m + 1000 * (d + 1)) + 100:=⟨M - (1000 * (d + 1) + 100),by omega⟩
  have hlt : ¬ (j : Int) < (ks.length : Int):=by omega
  unfold Lp23
  rw [run_loop]
  simp (disch:=first | omega | (simp only [List.length_cons,List.length_nil]; omega)) only [EX,reduceIte,Nat.reduceEqDiff,Nat.reduceAdd,Int.reduceEq,Int.reduceLT,Int.reduceLE,reduceCtorEq,Nat.reduceLeDiff,Nat.reduceSub,Nat.reduceLT,x_callv,clv_fn,x_mkfn,List.nil_append,List.append_nil,res_3,res_ct,res_ctt,f8,f9,hlt]
  refine hx _ ?_
  simp only [V_S,Nat.reduceEqDiff,reduceIte]
  rw [List.drop_of_length_le (by omega),f3]
  show _ = AV.i .i64 ((max a 0 : Nat) : Int)
  rw [Nat.max_zero]
 | n + 1,j,a,G,hj,hk=>by
  have hjl : j < ks.length:=by omega
  have hke : ks[j]? = some ks[j]:=List.getElem?_eq_getElem hjl
  obtain ⟨b,cs,eix,hin,eld⟩:=(Kd.of hk).at_ j _ hke
  have sv:=hin.sev
  obtain ⟨G1,eG1,g1,r1,n1⟩:=ex_new G
  obtain ⟨G2,r2,b2,n2,e2⟩:=r1.st_all (n:=7) n1 sv.1 rfl sv.2.1
  have g02:=b2.of g1 (Nat.le_refl _)
  have ld2:=r2.la 7 sv.1.symm
  have hdj:=dep_le hke
  obtain ⟨G3,g3,e3⟩:=ih G2 cs ks[j] (ExIn.move (fun _ h _=>h) g02.next (fun a _ h=>g02.get a h) _ _ _ hin) (plK_at hp hke) (by omega)
  have hw:=deps_cut hke
  obtain ⟨G4,g4,e4⟩:=dep_go ih hp hl hd n (j + 1) (max a (dep ks[j])) G3 (by omega) (Kd.grow hk (g02.trans g3))
  have hlt : (j : Int) < (ks.length : Int):=by omega
  have hmx : max (a : Int) (dep ks[j] : Int) = ((max a (dep ks[j]) : Nat) : Int):=by omega
  refine ⟨G4,(g02.trans g3).trans g4,fun fr ⟨f3,f7,f8,f9⟩ M hM R K res hx=>?_⟩
  obtain ⟨m,rfl⟩ : ∃ m,M = (m + 1000 * (d + 1) + n) + 101:=⟨M - (1000 * (d + 1) + 100 + (n + 1)),by omega⟩
  rw [show max a (deps (ks.drop j)) = max (max a (dep ks[j])) (deps (ks.drop (j + 1))) by rw [hw]; omega] at hx
  subst eG1
  unfold Lp23
  rw [run_loop]
  simp (disch:=first | omega | (simp only [List.length_cons,List.length_nil]; omega)) only [EX,reduceIte,Nat.reduceEqDiff,Nat.reduceAdd,Int.reduceEq,Int.reduceLT,Int.reduceLE,reduceCtorEq,Nat.reduceLeDiff,Nat.reduceSub,Nat.reduceLT,x_callv,clv_fn,x_mkfn,List.nil_append,List.append_nil,res_3,res_ct,res_ctt,f3,f7,f8,f9,hlt,eix,eld,e2,ld2,e3,max_i,hmx,i_add,inc64 (show j < 1000000000000 by omega)]
  refine e4 _ ⟨?_,?_,?_,?_⟩ _ (by omega) R K res hx
  all_goals simp only [V_S,Nat.reduceEqDiff,reduceIte]
  all_goals first | assumption | rfl
theorem s23 (S : Pa→Prop) : ∀ d,DepOk S d
 | 0=>fun _ _ _ h=>h.elim
 | d + 1=>by
  intro H cs e h hp hd
  match e,h,hp,hd with
  | .mk op b n s t i ks,h,hp,hd =>
   obtain ⟨xk,rfl,hk⟩:=h
   unfold plE at hp
   rw [Bool.and_eq_true,decide_eq_true_eq] at hp
   obtain ⟨⟨rfl,rfl,rfl,p1,p2,p3,p4,p5,p6⟩,hpk⟩:=hp
   have kd:=Kd.of hk
   have hl:=kd.len
   obtain ⟨G1,eG1,g1,r1,n1⟩:=box35 H (ec op b n [] [] [] xk) rfl
   have l6:=r1.l 6 (v:=xk) rfl
   have edp : dep (.mk op b n [] [] [] ks) = deps ks + 1:=by unfold dep; rfl
   rw [edp] at hd ⊢
   obtain ⟨G3,g3,e3⟩:=dep_go (s23 S d) hpk p6 (by omega) ks.length 0 0 G1 (Nat.zero_add _) (Kd.grow hk g1)
   have eG1 : G1 = H.alloc (.cells false 0 35 7 (setCells [.i .i64 (op : Int),.b b,.i .i64 n,str [],str [],str [],xk] 0 .leaf)):=eG1
   refine ⟨G3,g1.trans g3,fun M hM R K=>?_⟩
   obtain ⟨m,rfl⟩ : ∃ m,M = (m + 1000 * (d + 1)) + 1000:=⟨M - (1000 * (d + 1 + 1)),by omega⟩
   subst eG1
   rw [call_eq L23,B23_eq]
   unfold ec
   simp (disch:=first | omega | (simp only [List.length_cons,List.length_nil]; omega)) only [EX,reduceIte,Nat.reduceEqDiff,Nat.reduceAdd,Int.reduceEq,Int.reduceLT,Int.reduceLE,reduceCtorEq,Nat.reduceLeDiff,Nat.reduceSub,Nat.reduceLT,x_callv,clv_fn,x_mkfn,List.nil_append,List.append_nil,res_3,res_ct,res_ctt,l6,hl]
   refine e3 _ ⟨?_,?_,?_,?_⟩ _ (by omega) R _ _ (fun fr f3=>?_)
   ·simp only [V_S,Nat.reduceEqDiff,reduceIte]; rfl
   ·simp only [V_S,Nat.reduceEqDiff,reduceIte]
   ·simp only [V_S,Nat.reduceEqDiff,reduceIte]
   ·simp only [V_S,Nat.reduceEqDiff,reduceIte]; rfl
   ·rw [List.drop_zero,Nat.zero_max] at f3
    simp (disch:=first | omega | (simp only [List.length_cons,List.length_nil]; omega)) only [EX,reduceIte,Nat.reduceEqDiff,Nat.reduceAdd,Int.reduceEq,Int.reduceLT,Int.reduceLE,reduceCtorEq,Nat.reduceLeDiff,Nat.reduceSub,Nat.reduceLT,x_callv,clv_fn,x_mkfn,List.nil_append,List.append_nil,res_3,res_ct,res_ctt,f3,i_add,inc64 (show deps ks < 1000000000000 by omega)]
/-- A tree's check. -/
theorem s18 {S : Pa→Prop} {H : Heap} {cs : List AV} {e : Ex} (h : TreeS S H cs e) (hp : plE e = true) (hd : dep e≤1000000) : Tells 18 (1000 * (dep e + 1) + 500) [.ag cs] H (.i .i64 (chk e : Int)):=by
 have sv:=h.sev
 obtain ⟨G1,eG1,g1,r1,n1⟩:=box35 H cs sv.1
 obtain ⟨G2,g2,e2⟩:=s54 S _ G1 cs e (h.move (fun _ h _=>h) g1.next fun a _ h=>g1.get a h) hp
 have g02:=g1.trans g2
 obtain ⟨G3,g3,e3⟩:=s23 S _ G2 cs e (h.move (fun _ h _=>h) g02.next fun a _ h=>g02.get a h) hp hd
 have la:=r1.la 7 sv.1.symm
 have la2:=(r1.grow g2 n1).la 7 sv.1.symm
 rw [sv.1] at eG1
 have ebox : ∀ (R : Type) (k : HK R),boxC 35 (.ag cs) k H = k (.p H.next 0) (H.alloc (.cells false 0 35 7 (setCells cs 0 .leaf))):=fun R k=>by
  rw [box_ag,sv.1]
 by_cases hw : wide e = true
 ·have hc : chk e = 4:=by unfold chk; rw [if_pos hw]
  rw [hw] at e2
  have e2 : ∀ M,1000 * (dep e + 1)≤M→∀ (R : Type) (K : HK R),callK tbl (runK tbl M) R (toPa 54) [.ag cs] G1 K = K (.i .i64 4) G2:=e2
  refine ⟨G2,g02,fun M hM R K=>?_⟩
  obtain ⟨m,rfl⟩ : ∃ m,M = (m + 1000 * (dep e + 1)) + 500:=⟨M - (1000 * (dep e + 1) + 500),by omega⟩
  subst eG1
  rw [call_eq L18,hc]
  unfold B18
  simp (disch:=first | omega | (simp only [List.length_cons,List.length_nil]; omega)) only [EX,reduceIte,Nat.reduceEqDiff,Nat.reduceAdd,Int.reduceEq,Int.reduceLT,Int.reduceLE,reduceCtorEq,Nat.reduceLeDiff,Nat.reduceSub,Nat.reduceLT,x_callv,clv_fn,x_mkfn,List.nil_append,List.append_nil,res_3,res_ct,res_ctt,sv.1,la,e2]
  rfl
 ·have hw : wide e = false:=Bool.eq_false_iff.mpr hw
  rw [hw] at e2
  have e2 : ∀ M,1000 * (dep e + 1)≤M→∀ (R : Type) (K : HK R),callK tbl (runK tbl M) R (toPa 54) [.ag cs] G1 K = K (.i .i64 0) G2:=e2
  by_cases hq : 10 < dep e
  ·have hc : chk e = 14:=by unfold chk; rw [if_neg (by rw [hw]; decide),if_pos hq]
   have hq' : (10 : Int) < (dep e : Int):=by omega
   refine ⟨G3,g02.trans g3,fun M hM R K=>?_⟩
   obtain ⟨m,rfl⟩ : ∃ m,M = (m + 1000 * (dep e + 1)) + 500:=⟨M - (1000 * (dep e + 1) + 500),by omega⟩
   subst eG1
   rw [call_eq L18,hc]
   unfold B18
   simp (disch:=first | omega | (simp only [List.length_cons,List.length_nil]; omega)) only [EX,reduceIte,Nat.reduceEqDiff,Nat.reduceAdd,Int.reduceEq,Int.reduceLT,Int.reduceLE,reduceCtorEq,Nat.reduceLeDiff,Nat.reduceSub,Nat.reduceLT,x_callv,clv_fn,x_mkfn,List.nil_append,List.append_nil,res_3,res_ct,res_ctt,sv.1,la,e2,la2,e3,hq']
   rfl
  ·have hc : chk e = 0:=by unfold chk; rw [if_neg (by rw [hw]; decide),if_neg hq]
   have hq' : ¬ (10 : Int) < (dep e : Int):=by omega
   refine ⟨G3,g02.trans g3,fun M hM R K=>?_⟩
   obtain ⟨m,rfl⟩ : ∃ m,M = (m + 1000 * (dep e + 1)) + 500:=⟨M - (1000 * (dep e + 1) + 500),by omega⟩
   subst eG1
   rw [call_eq L18,hc]
   unfold B18
   simp (disch:=first | omega | (simp only [List.length_cons,List.length_nil]; omega)) only [EX,reduceIte,Nat.reduceEqDiff,Nat.reduceAdd,Int.reduceEq,Int.reduceLT,Int.reduceLE,reduceCtorEq,Nat.reduceLeDiff,Nat.reduceSub,Nat.reduceLT,x_callv,clv_fn,x_mkfn,List.nil_append,List.append_nil,res_3,res_ct,res_ctt,sv.1,la,e2,la2,e3,hq']
   rfl
end Go.Proofs.YtgnfndhmfgghdaaGreatDoor

/- A text as an expression (parse.Expr). -/
namespace Go.Proofs.YtgnfndhmfgghdaaGreatDoor
open Go Go.Vai
set_option maxRecDepth 100000
set_option maxHeartbeats 3200000
set_option linter.unusedSimpArgs false
/-- A reader that begins. -/
theorem s55 {s : List UInt8} {H : Heap} (T : GlS H) (hchk : s.length≤600→ChkAt s H)
  (hstr : ∀ (H : Heap) (s' : List UInt8) (b : UInt8),(∃ a,s' = s.drop a)→s.length≤600→s'.head? = some b→GlS H→b = 34→isL b = false→isD b = false→TellsW 228 (s'.length + 3000) [str s'] H (word 0 s')) :
  ∃ H' p x e,Grow H H'∧H.next.toN≤p.toN∧(∀ l,words s = .ok l→e = 0∧At p x l H' false l)∧(∀ e',words s = .error e'→e = (e' : Int))∧∀ M,9000≤M→∀ (R : Type) (k : HK R),callK tbl (runK tbl M) R (toPa 55) [str s] H k = k (.tu [.p p 0,.i .i64 e]) H':=by
 obtain ⟨G,x,e,g,hok,herr,e116⟩:=s116 T hchk hstr
 have r1:=Row.new G 144 [x,.i .i64 0,.b false]
 have g1:=Grow.alloc G (.cells false 0 144 3 (setCells [x,.i .i64 0,.b false] 0 .leaf))
 have n1:=next_alloc G (.cells false 0 144 3 (setCells [x,.i .i64 0,.b false] 0 .leaf))
 refine ⟨_,G.next,x,e,g.trans g1,g.next,fun l hl=>?_,fun e' he=>(herr e' he).2,fun M hM R k=>?_⟩
 ·obtain ⟨he,hl2,hh⟩:=hok l hl
  refine ⟨he,0,r1,by omega,?_,Nat.zero_le _,rfl,hl2⟩
  obtain ⟨rfl,h1,h2⟩ | ⟨a,rfl,h1,h2,h3,h4⟩:=hh
  ·exact .inl ⟨rfl,List.eq_nil_of_length_eq_zero h1⟩
  ·exact .inr ⟨a,rfl,by intro q; subst q; omega,by omega,h2.grow g1 h4⟩
 ·obtain ⟨m,rfl⟩:=fuel hM
  have hone : oneC x = true∧True:=⟨by
   cases hw : words s with
   | ok l =>
    obtain ⟨_,_,hh⟩:=hok l hw
    obtain ⟨rfl,_⟩ | ⟨a,rfl,_⟩:=hh
    ·rfl
    ·rfl
   | error e'=>rw [(herr e' hw).1]; rfl,trivial⟩
  have hfill : ∀ {R : Type} {F : List AV→Option R},fillV [(0,1,x)] [.ns,.i .i64 0,.b false] F = F [x,.i .i64 0,.b false]:=by
   intro R F
   cases hw : words s with
   | ok l =>
    obtain ⟨_,_,hh⟩:=hok l hw
    obtain ⟨rfl,_⟩ | ⟨a,rfl,_⟩:=hh
    ·rfl
    ·rfl
   | error e'=>rw [(herr e' hw).1]; rfl
  rw [call_eq L55]
  unfold B55
  simp (disch:=first | omega | (simp only [List.length_cons,List.length_nil]; omega)) only [EX,reduceIte,Nat.reduceEqDiff,Nat.reduceAdd,Int.reduceEq,Int.reduceLT,Int.reduceLE,reduceCtorEq,Nat.reduceLeDiff,Nat.reduceSub,Nat.reduceLT,x_callv,clv_fn,x_mkfn,List.nil_append,List.append_nil,res_3,res_ct,res_ctt,e116,hfill]
end Go.Proofs.YtgnfndhmfgghdaaGreatDoor

/- A text as an expression,whole (parse.Expr). -/
namespace Go.Proofs.YtgnfndhmfgghdaaGreatDoor
open Go Go.Vai
set_option maxRecDepth 100000
set_option maxHeartbeats 3200000
set_option linter.unusedSimpArgs false
theorem s19 {s : List UInt8} {H : Heap} (T : GlS H) (hchk : ∀ {H},GlS H→s.length≤600→ChkAt s H)
  (hstr : ∀ (H : Heap) (s' : List UInt8) (b : UInt8),(∃ a,s' = s.drop a)→s.length≤600→s'.head? = some b→GlS H→b = 34→isL b = false→isD b = false→TellsW 228 (s'.length + 3000) [str s'] H (word 0 s'))
  (hw0 : ∀ e',words s = .error e'→e' ≠ 0) (hsq : ∀ l p x,words s = .ok l→SqAll p x l) (hpl : ∀ l e r,words s = .ok l→P (8 * l.length + 9) 7 l = some (e,r)→plE e = true∧dep e≤1000) :
  ∃ H' cs,Grow H H'∧Sev cs∧((exprS s).2 = 0→TreeS (New H.next.toN) H' cs (exprS s).1)∧∀ M,10000000≤M→∀ (R : Type) (k : HK R),callK tbl (runK tbl M) R (toPa 19) [str s] H k = k (.tu [.ag cs,.i .i64 ((exprS s).2 : Int)]) H':=by
 obtain ⟨G1,eG1,g1,r1,n1⟩:=ex_new H
 obtain ⟨G2,p,x,e,g2,hp2,hok,herr,e55⟩:=s55 (T.grow g1) (hchk (T.grow g1)) hstr
 have g02:=g1.trans g2
 have r2:=r1.grow g2 n1
 have hg2:=g2.next
 -- with nothing but an error
 have zero : ∀ {G : Heap} {er : Nat},Grow G2 G→exprS s = (zeroE,er)→er ≠ 0→(∀ G',(∀ (R : Type) (k : HK R),stC 7 (.p H.next 0) (.ag [.i .i64 0,.b false,.i .i64 0,str [],str [],str [],.ns]) k G = k un G')→(∀ (R : Type) (k : HK R),ldC true 7 (.p H.next 0) k G' = k (.ag zs7) G')→∀ M,10000000≤M→∀ (R : Type) (k : HK R),callK tbl (runK tbl M) R (toPa 19) [str s] H k = k (.tu [.ag zs7,.i .i64 (er : Int)]) G') →
   ∃ H' cs,Grow H H'∧Sev cs∧((exprS s).2 = 0→TreeS (New H.next.toN) H' cs (exprS s).1)∧∀ M,10000000≤M→∀ (R : Type) (k : HK R),callK tbl (runK tbl M) R (toPa 19) [str s] H k = k (.tu [.ag cs,.i .i64 ((exprS s).2 : Int)]) H':=by
  intro G er g ew hne run
  have r:=r2.grow g (by omega)
  have hn : H.next.toN < G.next.toN:=by have:=g.next; omega
  obtain ⟨G',r',b',n',e'⟩:=r.st_all (n:=7) (ys:=zs7) hn rfl rfl sev_0.2.1
  refine ⟨G',zs7,b'.of (g02.trans g) (Nat.le_refl _),sev_0,fun q=>absurd q (by rw [ew]; exact hne),?_⟩
  rw [ew]
  exact run G' e' (r'.la 7 rfl)
 cases hw : words s with
 | error e' =>
  have he:=herr e' hw
  have he0:=hw0 e' hw
  have ew : exprS s = (zeroE,e'):=by unfold exprS; rw [hw]
  refine zero (Grow.refl G2) ew he0 fun G' e7 ld7 M hM R k=>?_
  obtain ⟨m,rfl⟩:=fuel hM
  have hne : ¬ e = 0:=by omega
  subst eG1
  rw [call_eq L19]
  unfold B19
  simp (maxSteps:=1000000) (disch:=first | omega | (simp only [List.length_cons,List.length_nil]; omega)) only [EX,reduceIte,Nat.reduceEqDiff,Nat.reduceAdd,Int.reduceEq,Int.reduceLT,Int.reduceLE,reduceCtorEq,Nat.reduceLeDiff,Nat.reduceSub,Nat.reduceLT,x_callv,clv_fn,x_mkfn,List.nil_append,List.append_nil,res_3,res_ct,res_ctt,e55,ext_2,hne,e7,ld7,with_ap]
  rw [he]
 | ok l =>
  obtain ⟨he,at2⟩:=hok l hw
  subst he
  have hl2 : l.length≤200:=at2.elim fun _ a=>a.len
  obtain ⟨cs,G3,b3,sv,res,e56⟩:=(levels (hsq l p x hw) (8 * l.length + 9)).1 at2 (by omega)
  have n3:=b3.next
  have g13 : Grow G1 G3:=b3.of g2 hp2
  have g03:=g1.trans g13
  have r3:=r1.grow g13 n1
  obtain ⟨b3',t3,at3,hN,hS⟩:=res.st
  obtain ⟨G4,eG4,g4,r64,n4⟩:=ex_new G3
  obtain ⟨G5,g5,b5,n5,r65,e5,ld5⟩:=room_st (cs:=cs) (p:=p) (g4.but p) r64 (Nat.le_refl _) n4 (n:=7) rfl sv.1 sv.2.1
  have g35 : Grow G3 G5:=b5.of g4 (Nat.le_refl _)
  have at5 : At p x l G5 b3' t3:=at3.elim fun j aj=>⟨j,aj.grow g35⟩
  have g05:=g03.trans g35
  have g15:=g13.trans g35
  have r15:=r1.grow g15 n1
  have hn5 : G3.next.toN < G5.next.toN:=by rw [n5]; exact n4
  have zero5 : ∀ {G : Heap} {er : Nat},Grow G5 G→exprS s = (zeroE,er)→er ≠ 0→(∀ G',(∀ (R : Type) (k : HK R),stC 7 (.p H.next 0) (.ag [.i .i64 0,.b false,.i .i64 0,str [],str [],str [],.ns]) k G = k un G')→(∀ (R : Type) (k : HK R),ldC true 7 (.p H.next 0) k G' = k (.ag zs7) G')→∀ M,10000000≤M→∀ (R : Type) (k : HK R),callK tbl (runK tbl M) R (toPa 19) [str s] H k = k (.tu [.ag zs7,.i .i64 (er : Int)]) G') →
   ∃ H' cs,Grow H H'∧Sev cs∧((exprS s).2 = 0→TreeS (New H.next.toN) H' cs (exprS s).1)∧∀ M,10000000≤M→∀ (R : Type) (k : HK R),callK tbl (runK tbl M) R (toPa 19) [str s] H k = k (.tu [.ag cs,.i .i64 ((exprS s).2 : Int)]) H':=by
   intro G er g ew hne run
   have r:=r15.grow g (by have:=g15.next; omega)
   have hn : H.next.toN < G.next.toN:=by have:=g.next; have:=g15.next; omega
   obtain ⟨G',r',b',n',e'⟩:=r.st_all (n:=7) (ys:=zs7) hn rfl rfl sev_0.2.1
   refine ⟨G',zs7,b'.of (g05.trans g) (Nat.le_refl _),sev_0,fun q=>absurd q (by rw [ew]; exact hne),?_⟩
   rw [ew]
   exact run G' e' (r'.la 7 rfl)
  have e57:=fun {R : Type} {k : HK R} {M : Nat} (hM : 50≤M)=>s57 (k:=k) (M:=M) at5 hM
  by_cases hbad : b3' = true ∨ t3 ≠ []
  ·have ew : exprS s = (zeroE,13):=by
    unfold exprS
    rw [hw]
    dsimp only
    cases hP : P (8 * l.length + 9) 7 l with
    | none=>rfl
    | some v =>
     obtain ⟨e,r⟩:=v
     obtain ⟨hb,ht,_⟩:=hS e r hP
     dsimp only
     rw [if_pos]
     rw [← ht]
     rcases hbad with q | q
     ·rw [hb] at q; cases q
     ·exact q
   refine zero5 (Grow.refl G5) ew (by decide) fun G' e7 ld7 M hM R k=>?_
   obtain ⟨m,rfl⟩:=fuel hM
   rw [if_pos hbad] at e57
   subst eG1 eG4
   rw [call_eq L19]
   unfold B19
   simp (maxSteps:=1000000) (disch:=first | omega | (simp only [List.length_cons,List.length_nil]; omega)) only [EX,reduceIte,Nat.reduceEqDiff,Nat.reduceAdd,Int.reduceEq,Int.reduceLT,Int.reduceLE,reduceCtorEq,Nat.reduceLeDiff,Nat.reduceSub,Nat.reduceLT,x_callv,clv_fn,x_mkfn,List.nil_append,List.append_nil,res_3,res_ct,res_ctt,e55,ext_2,e56,e5,e57,e7,ld7,with_ap]
   rfl
  ·obtain ⟨ev,r,hP⟩ : ∃ ev r,P (8 * l.length + 9) 7 l = some (ev,r):=by
    cases hP : P (8 * l.length + 9) 7 l with
    | none=>exact absurd (.inl (hN hP).1) hbad
    | some v=>exact ⟨v.1,v.2,rfl⟩
   obtain ⟨hb,ht,tr⟩:=hS ev r hP
   have hr : r = []:=by
    by_cases q : t3 = []
    ·rw [← ht]; exact q
    ·exact absurd (.inr q) hbad
   obtain ⟨hp1,hp2⟩:=hpl l ev r hw hP
   have tr5:=tr.move (S':=New H.next.toN) (H':=G5) (fun a h _=>by have h : G2.next.toN≤a.toN:=h; have:=g02.next; show H.next.toN≤a.toN; omega) g35.next fun a h ha=>g35.get a ha
   obtain ⟨G6,g6,e18⟩:=s18 tr5 hp1 (by omega)
   have ld6:=(r65.grow g6 hn5).la 7 sv.1.symm
   rw [if_neg hbad] at e57
   by_cases hc : chk ev = 0
   ·have ew : exprS s = (ev,0):=by
     unfold exprS
     rw [hw]
     dsimp only
     rw [hP]
     dsimp only
     rw [if_neg (fun q=>q hr),if_pos hc]
    have r6:=r15.grow g6 (by have:=g15.next; omega)
    have hn6 : H.next.toN < G6.next.toN:=by have:=g6.next; have:=g15.next; omega
    obtain ⟨G7,r7,b7,n7,e7⟩:=r6.st_all (n:=7) (ys:=cs) hn6 sv.1 rfl sv.2.1
    have ld7:=r7.la 7 sv.1.symm
    rw [ew]
    refine ⟨G7,cs,b7.of (g05.trans g6) (Nat.le_refl _),sv,fun _=>?_,fun M hM R k=>?_⟩
    ·refine tr.move (fun a h _=>by have h : G2.next.toN≤a.toN:=h; have:=g02.next; show H.next.toN≤a.toN; omega) (by have:=(g35.trans g6).next; rw [n7]; exact this) fun a h ha=>?_
     have h : G2.next.toN≤a.toN:=h
     have hg:=(g35.trans g6).next
     rw [b7.get a (by omega) (by intro q; subst q; omega),(g35.trans g6).get a ha]
    ·obtain ⟨m,rfl⟩:=fuel hM
     rw [hc] at e18
     have e18 : ∀ M,1000 * (dep ev + 1) + 500≤M→∀ (R : Type) (K : HK R),callK tbl (runK tbl M) R (toPa 18) [.ag cs] G5 K = K (.i .i64 0) G6:=e18
     subst eG1 eG4
     rw [call_eq L19]
     unfold B19
     simp (maxSteps:=1000000) (disch:=first | omega | (simp only [List.length_cons,List.length_nil]; omega)) only [EX,reduceIte,Nat.reduceEqDiff,Nat.reduceAdd,Int.reduceEq,Int.reduceLT,Int.reduceLE,reduceCtorEq,Nat.reduceLeDiff,Nat.reduceSub,Nat.reduceLT,x_callv,clv_fn,x_mkfn,List.nil_append,List.append_nil,res_3,res_ct,res_ctt,e55,ext_2,e56,e5,e57,ld5,e18,ld6,e7,ld7,with_ap]
     rfl
   ·have ew : exprS s = (zeroE,chk ev):=by
     unfold exprS
     rw [hw]
     dsimp only
     rw [hP]
     dsimp only
     rw [if_neg (fun q=>q hr),if_neg hc]
    refine zero5 g6 ew hc fun G' e7 ld7 M hM R k=>?_
    obtain ⟨m,rfl⟩:=fuel hM
    have hc' : ¬ ((chk ev : Nat) : Int) = 0:=by omega
    subst eG1 eG4
    rw [call_eq L19]
    unfold B19
    simp (maxSteps:=1000000) (disch:=first | omega | (simp only [List.length_cons,List.length_nil]; omega)) only [EX,reduceIte,Nat.reduceEqDiff,Nat.reduceAdd,Int.reduceEq,Int.reduceLT,Int.reduceLE,reduceCtorEq,Nat.reduceLeDiff,Nat.reduceSub,Nat.reduceLT,x_callv,clv_fn,x_mkfn,List.nil_append,List.append_nil,res_3,res_ct,res_ctt,e55,ext_2,e56,e5,e57,ld5,e18,hc',e7,ld7,with_ap]
end Go.Proofs.YtgnfndhmfgghdaaGreatDoor

/- Two trees that are the same (store.SameExpr). -/
namespace Go.Proofs.YtgnfndhmfgghdaaGreatDoor
open Go Go.Vai
set_option maxRecDepth 100000
set_option maxHeartbeats 3200000
set_option linter.unusedSimpArgs false
noncomputable def Lp21 : AC:=(.loop (.seq (.seq (.ops [O 48 (.mv (T 5)),O 49 (.fa 6 (T 2)),O 50 (.ld false 1 (T 49)),O 51 (.len false (T 50)),O 52 (.bin .lss .no (T 48) (T 51))]) (.cond (T 52) .skip (.exit 0))) (.seq (.block 1 (.seq (.draw 0 [(O 55 (.fa 6 (T 2)),⟨0,0⟩),(O 56 (.ld false 1 (T 55)),⟨1,0⟩),(O 57 (.mv (T 5)),⟨0,0⟩),(O 58 (.ixa 7 (T 56) (T 57)),⟨0,0⟩),(O 59 (.ld true 7 (T 58)),⟨1,0⟩),(O 60 (.fa 6 (T 3)),⟨0,0⟩),(O 61 (.ld false 1 (T 60)),⟨1,0⟩),(O 62 (.mv (T 5)),⟨0,0⟩),(O 63 (.ixa 7 (T 61) (T 62)),⟨0,0⟩),(O 64 (.ld true 7 (T 63)),⟨1,0⟩),(O 65 (.call (toPa 21) [(T 59),(T 64)]),⟨3,0⟩),(O 66 (.not (T 65)),⟨0,1⟩)]) (.cond (T 66) (.seq (.ops [O 4 (.mv (K (.b false)))]) .ret) .skip))) (.ops [O 53 (.mv (T 5)),O 54 (.bin .add .no (T 53) (K (.i .i64 1))),O 5 (.mv (T 54))]))))
theorem B21_eq : B21 = (.seq (.ops [O 2 (.box 35 (T 0)),O 3 (.box 35 (T 1)),O 4 (.mv (K (.b false)))]) (.seq (.seq (.ops [O 6 (.fa 0 (T 2)),O 7 (.ld false 1 (T 6)),O 8 (.fa 0 (T 3)),O 9 (.ld false 1 (T 8)),O 10 (.bin .neq .no (T 7) (T 9)),O 11 (.mv (T 10)),G 12 11 false (.fa 1 (T 2)),G 13 11 false (.ld false 1 (T 12)),G 14 11 false (.fa 1 (T 3)),G 15 11 false (.ld false 1 (T 14)),G 16 11 false (.bin .neq .bool (T 13) (T 15)),O 17 (.pick (T 11) (K (.b true)) (T 16)),O 18 (.mv (T 17)),G 19 18 false (.fa 2 (T 2)),G 20 18 false (.ld false 1 (T 19)),G 21 18 false (.fa 2 (T 3)),G 22 18 false (.ld false 1 (T 21)),G 23 18 false (.bin .neq .no (T 20) (T 22)),O 24 (.pick (T 18) (K (.b true)) (T 23)),O 25 (.mv (T 24)),G 26 25 false (.fa 3 (T 2)),G 27 25 false (.ld false 1 (T 26)),G 28 25 false (.fa 3 (T 3)),G 29 25 false (.ld false 1 (T 28)),G 30 25 false (.bin .neq .no (T 27) (T 29)),O 31 (.pick (T 25) (K (.b true)) (T 30)),O 32 (.mv (T 31)),G 33 32 false (.fa 4 (T 2)),G 34 32 false (.ld true 2 (T 33)),G 35 32 false (.fa 4 (T 3)),G 36 32 false (.ld true 2 (T 35)),G 37 32 false (.bin .neq (.flat [2,2]) (T 34) (T 36)),O 38 (.pick (T 32) (K (.b true)) (T 37)),O 39 (.mv (T 38)),G 40 39 false (.fa 6 (T 2)),G 41 39 false (.ld false 1 (T 40)),G 42 39 false (.len false (T 41)),G 43 39 false (.fa 6 (T 3)),G 44 39 false (.ld false 1 (T 43)),G 45 39 false (.len false (T 44)),G 46 39 false (.bin .neq .no (T 42) (T 45)),O 47 (.pick (T 39) (K (.b true)) (T 46))]) (.cond (T 47) (.seq (.ops [O 4 (.mv (K (.b false)))]) .ret) .skip)) (.seq (.seq (.ops [O 5 (.mv (K (.i .i64 0)))]) (.block 0 Lp21)) (.seq (.ops [O 4 (.mv (K (.b true)))]) .ret)))):=rfl
structure F21 (q2 q3 : Pa) (j : Nat) (fr : Tr AV) : Prop where
 f2 : V fr 2 = .p q2 0
 f3 : V fr 3 = .p q3 0
 f5 : V fr 5 = .i .i64 (j : Int)
def SameOk (S S' : Pa→Prop) (d : Nat) : Prop:=∀ (H : Heap) (c1 c2 : List AV) (e : Ex),ExIn S H d c1 e→ExIn S' H d c2 e→plE e = true→Tells 21 (1000 * (d + 1)) [.ag c1,.ag c2] H (.b true)
theorem KidsE.av {S : Pa→Prop} {d : Nat} {H : Heap} {xk : AV} {ks : List Ex} (h : KidsE S (ExIn S H d) H xk ks) : avEq xk xk = true:=by
 obtain ⟨rfl,_⟩ | ⟨a,c,L,rfl,_⟩:=h
 ·exact avEq_ns
 ·exact avEq_sl
theorem kid_at {S : Pa→Prop} {d : Nat} {H : Heap} {xk : AV} {ks : List Ex} (h : KidsE S (ExIn S H d) H xk ks) {j : Nat} {e : Ex} (q : ks[j]? = some e) : ∃ a cs,(∀ (R : Type) (K : HK R) (G : Heap),ixaC 7 xk (.i .i64 (j : Int)) K G = K (.p a (j * 7)) G)∧ExIn S H d cs e∧∀ {H' : Heap},Grow H H'→∀ (R : Type) (K : HK R),ldC true 7 (.p a (j * 7)) K H' = K (.ag cs) H':=by
 obtain ⟨rfl,rfl⟩ | ⟨a,c,L,rfl,_,ha,hr,hL,hk⟩:=h
 ·cases q
 ·have hj : j < ks.length:=(List.getElem?_eq_some_iff.mp q).1
  refine ⟨a,_,fun R K G=>?_,hk j e q,fun g R K=>(hr.grow g ha).lds (by rw [hL]; omega)⟩
  rw [ixa_sl (by omega) (by omega),Int.toNat_natCast,Nat.zero_add]
theorem same_go {S S' : Pa→Prop} {d : Nat} (ih : SameOk S S' d) {x1 x2 : AV} {ks : List Ex} (hp : plK ks = true) (hl : ks.length≤400) {q2 q3 : Pa} {op : Nat} {b : Bool} {v : Int} : ∀ (n j : Nat) (G : Heap),j + n = ks.length→KidsE S (ExIn S G d) G x1 ks→KidsE S' (ExIn S' G d) G x2 ks →
   q2.toN < G.next.toN→q3.toN < G.next.toN→Row G q2 35 (ec op b v [] [] [] x1)→Row G q3 35 (ec op b v [] [] [] x2) →
  ∃ G',Grow G G'∧∀ fr,F21 q2 q3 j fr→∀ M,1000 * (d + 1) + 100 + n≤M→∀ (R : Type) (K : XK R) (res : Option R),(∀ fr',K (.exit 0) fr' G' = res)→runK tbl M R Lp21 fr G K = res
 | 0,j,G,hj,k1,k2,n2,n3,r2,r3=>by
  refine ⟨G,Grow.refl G,fun fr ⟨f2,f3,f5⟩ M hM R K res hx=>?_⟩
  obtain ⟨m,rfl⟩ : ∃ m,M = (m + 1000 * (d + 1)) + 100:=⟨M - (1000 * (d + 1) + 100),by omega⟩
  have hlt : ¬ (j : Int) < (ks.length : Int):=by omega
  have l2:=r2.l 6 (v:=x1) rfl
  have hl1:=(Kd.of k1).len
  unfold Lp21
  rw [run_loop]
  simp (disch:=first | omega | (simp only [List.length_cons,List.length_nil]; omega)) only [EX,reduceIte,Nat.reduceEqDiff,Nat.reduceAdd,Int.reduceEq,Int.reduceLT,Int.reduceLE,reduceCtorEq,Nat.reduceLeDiff,Nat.reduceSub,Nat.reduceLT,x_callv,clv_fn,x_mkfn,List.nil_append,List.append_nil,res_3,res_ct,res_ctt,f2,f3,f5,l2,hl1,hlt]
  exact hx _
 | n + 1,j,G,hj,k1,k2,n2,n3,r2,r3=>by
  have hjl : j < ks.length:=by omega
  have hke : ks[j]? = some ks[j]:=List.getElem?_eq_getElem hjl
  obtain ⟨a1,c1,ix1,in1,ld1⟩:=kid_at k1 hke
  obtain ⟨a2,c2,ix2,in2,ld2⟩:=kid_at k2 hke
  obtain ⟨G3,g3,e3⟩:=ih G c1 c2 ks[j] in1 in2 (plK_at hp hke)
  have r2':=r2.grow g3 n2
  have r3':=r3.grow g3 n3
  have hn3:=g3.next
  obtain ⟨G4,g4,e4⟩:=same_go ih hp hl n (j + 1) G3 (by omega) (Kd.grow k1 g3) (Kd.grow k2 g3) (by omega) (by omega) r2' r3'
  have hlt : (j : Int) < (ks.length : Int):=by omega
  have l2:=r2.l 6 (v:=x1) rfl
  have l3:=r3.l 6 (v:=x2) rfl
  have l2':=r2'.l 6 (v:=x1) rfl
  have l3':=r3'.l 6 (v:=x2) rfl
  have hl1:=(Kd.of k1).len
  have v1:=KidsE.av k1
  have v2:=KidsE.av k2
  have w1:=in1.sev.2.2
  have w2:=in2.sev.2.2
  have d1:=ld1 (Grow.refl G)
  have d2:=ld2 (Grow.refl G)
  have d1':=ld1 g3
  have d2':=ld2 g3
  refine ⟨G4,g3.trans g4,fun fr ⟨f2,f3,f5⟩ M hM R K res hx=>?_⟩
  obtain ⟨m,rfl⟩ : ∃ m,M = (m + 1000 * (d + 1) + n) + 101:=⟨M - (1000 * (d + 1) + 100 + (n + 1)),by omega⟩
  unfold Lp21
  rw [run_loop]
  simp (disch:=first | omega | (simp only [List.length_cons,List.length_nil]; omega)) only [EX,reduceIte,Nat.reduceEqDiff,Nat.reduceAdd,Int.reduceEq,Int.reduceLT,Int.reduceLE,reduceCtorEq,Nat.reduceLeDiff,Nat.reduceSub,Nat.reduceLT,x_callv,clv_fn,x_mkfn,List.nil_append,List.append_nil,res_3,res_ct,res_ctt,f2,f3,f5,l2,l3,l2',l3',hl1,hlt,ix1,ix2,d1,d2,d1',d2',v1,v2,w1,w2,e3,i_add,inc64 (show j < 1000000000000 by omega)]
  refine e4 _ ⟨?_,?_,?_⟩ _ (by omega) R K res hx
  all_goals simp only [V_S,Nat.reduceEqDiff,reduceIte]
  all_goals first | assumption | rfl
theorem s21 (S S' : Pa→Prop) : ∀ d,SameOk S S' d
 | 0=>fun _ _ _ _ h=>h.elim
 | d + 1=>by
  intro H c1 c2 e h1 h2 hp
  match e,h1,h2,hp with
  | .mk op b n s t i ks,h1,h2,hp =>
   obtain ⟨x1,rfl,k1⟩:=h1
   obtain ⟨x2,rfl,k2⟩:=h2
   unfold plE at hp
   rw [Bool.and_eq_true,decide_eq_true_eq] at hp
   obtain ⟨⟨rfl,rfl,rfl,p1,p2,p3,p4,p5,p6⟩,hpk⟩:=hp
   have hl1:=(Kd.of k1).len
   have hl2:=(Kd.of k2).len
   obtain ⟨G1,eG1,g1,r1,n1⟩:=box35 H (ec op b n [] [] [] x1) rfl
   obtain ⟨G2,eG2,g2,r2,n2⟩:=box35 G1 (ec op b n [] [] [] x2) rfl
   have g02:=g1.trans g2
   have r12:=r1.grow g2 n1
   have hg2:=g2.next
   have hg1:=g1.next
   obtain ⟨G3,g3,e3⟩:=same_go (s21 S S' d) hpk p6 (q2:=H.next) (q3:=G1.next) (op:=op) (b:=b) (v:=n) ks.length 0 G2 (Nat.zero_add _) (Kd.grow k1 g02) (Kd.grow k2 g02) (by omega) n2 r12 r2
   have a0:=r12.l 0 (v:=.i .i64 (op : Int)) rfl
   have a1:=r12.l 1 (v:=.b b) rfl
   have a2:=r12.l 2 (v:=.i .i64 n) rfl
   have a3:=r12.l 3 (v:=str []) rfl
   have a4:=r12.ag2
   have a6:=r12.l 6 (v:=x1) rfl
   have b0:=r2.l 0 (v:=.i .i64 (op : Int)) rfl
   have b1:=r2.l 1 (v:=.b b) rfl
   have b2:=r2.l 2 (v:=.i .i64 n) rfl
   have b3:=r2.l 3 (v:=str []) rfl
   have b4:=r2.ag2
   have b6:=r2.l 6 (v:=x2) rfl
   have eG1 : G1 = H.alloc (.cells false 0 35 7 (setCells [.i .i64 (op : Int),.b b,.i .i64 n,str [],str [],str [],x1] 0 .leaf)):=eG1
   have eG2 : G2 = G1.alloc (.cells false 0 35 7 (setCells [.i .i64 (op : Int),.b b,.i .i64 n,str [],str [],str [],x2] 0 .leaf)):=eG2
   have hbb : (b != b) = false:=by cases b <;> rfl
   refine ⟨G3,g02.trans g3,fun M hM R K=>?_⟩
   obtain ⟨m,rfl⟩ : ∃ m,M = (m + 1000 * (d + 1)) + 1000:=⟨M - (1000 * (d + 1 + 1)),by omega⟩
   subst eG2 eG1
   rw [call_eq L21,B21_eq]
   unfold ec
   simp (maxSteps:=1000000) (disch:=first | omega | (simp only [List.length_cons,List.length_nil]; omega)) only [EX,reduceIte,Nat.reduceEqDiff,Nat.reduceAdd,Int.reduceEq,Int.reduceLT,Int.reduceLE,reduceCtorEq,Nat.reduceLeDiff,Nat.reduceSub,Nat.reduceLT,x_callv,clv_fn,x_mkfn,List.nil_append,List.append_nil,res_3,res_ct,res_ctt,a0,a1,a2,a3,a4,a6,b0,b1,b2,b3,b4,b6,hl1,hl2,s_neq,b_neq,hbb,flat_neq]
   refine e3 _ ⟨?_,?_,?_⟩ _ (by omega) R _ _ (fun fr=>?_)
   ·simp only [V_S,Nat.reduceEqDiff,reduceIte]
   ·simp only [V_S,Nat.reduceEqDiff,reduceIte]
   ·simp only [V_S,Nat.reduceEqDiff,reduceIte]; rfl
   ·simp (disch:=first | omega | (simp only [List.length_cons,List.length_nil]; omega)) only [EX,reduceIte,Nat.reduceEqDiff,Nat.reduceAdd,Int.reduceEq,Int.reduceLT,Int.reduceLE,reduceCtorEq,Nat.reduceLeDiff,Nat.reduceSub,Nat.reduceLT,x_callv,clv_fn,x_mkfn,List.nil_append,List.append_nil,res_3,res_ct,res_ctt]
end Go.Proofs.YtgnfndhmfgghdaaGreatDoor

/- What is read,whatever the fuel: numbers with signs between them,in brackets. -/
namespace Go.Proofs.YtgnfndhmfgghdaaGreatDoor
open Go Go.Vai
/-- It is read so,with all the fuel that suffices. -/
def Rdz (l : Nat) (ts : List Tok) (e : Ex) (r : List Tok) : Prop:=∀ n,8 * ts.length + l + 1≤n→P n l ts = some (e,r)
/-- No sign of a level stands there,nor one that compares,nor a member. -/
structure NoSg (ts : List Tok) : Prop where
 l2 : sgL 2 ts = 0
 l3 : sgL 3 ts = 0
 l5 : sgL 5 ts = 0
 l6 : sgL 6 ts = 0
 c : sgC ts = 0
 h : isT 1 tHas ts = false
 k : isT 1 tLike ts = false
 m : isT 4 [46] ts = false
theorem noSg_nil : NoSg []:=⟨rfl,rfl,rfl,rfl,rfl,rfl,rfl,rfl⟩
theorem isT_s {k : Nat} {s : List UInt8} {t : Tok} {r : List Tok} {k' : Nat} {s' : List UInt8} (hk : t.k = k') (hs : t.s = s') : isT k s (t :: r) = decide (k' = k∧s' = s):=by subst hk hs; rfl
theorem noSg_shut {t : Tok} {r : List Tok} (hk : t.k = 4) (hs : t.s = [41]) : NoSg (t :: r):=by
 have e : ∀ k s,isT k s (t :: r) = decide (4 = k∧[41] = s):=fun k s=>isT_s hk hs
 refine ⟨?_,?_,?_,?_,?_,?_,?_,?_⟩ <;> first | (unfold sgL; simp only [e]; rfl) | (unfold sgC; simp only [e]; rfl) | (rw [e]; rfl)
/-- Signs between numbers: which,where. -/
def sgO (o : Nat) : List UInt8:=if o = 0 then [124,124] else if o = 1 then [38,38] else if o = 2 then [43] else if o = 3 then [45] else [42]
def opO (o : Nat) : Nat:=if o = 0 then 24 else if o = 1 then 23 else if o = 2 then 14 else if o = 3 then 15 else 13
def lvO (o : Nat) : Nat:=if o = 0 then 6 else if o = 1 then 5 else if o = 2 then 3 else if o = 3 then 3 else 2
/-- A row of signs and numbers,and what is behind it. -/
def Its : List (Nat × Nat)→List Tok→List Tok→Prop
 | [],ts,E=>ts = E
 | (o,d) :: its,ts,E=>o < 5∧∃ s m ts',ts = s :: m :: ts'∧s.k = 4∧s.s = sgO o∧m.k = 2∧m.n = d∧Its its ts' E
def hd (its : List (Nat × Nat)) (l : Nat) : Prop:=∀ o d r,its = (o,d) :: r→l < lvO o
theorem sg_its {its : List (Nat × Nat)} {ts E : List Tok} (hE : NoSg E) (h : Its its ts E) : (∀ o d r,its = (o,d) :: r→∀ l,l = 2 ∨ l = 3 ∨ l = 5 ∨ l = 6→sgL l ts = if lvO o = l then opO o else 0)∧(its = []→ts = E)∧sgC ts = 0∧isT 1 tHas ts = false∧isT 1 tLike ts = false∧isT 4 [46] ts = false:=by
 match its,h with
 | [],h =>
  have h : ts = E:=h
  subst h
  exact ⟨fun _ _ _ q=>by (cases q),fun _=>rfl,hE.c,hE.h,hE.k,hE.m⟩
 | (o,d) :: its,⟨ho,s,m,ts',hts,hk,hs,_⟩ =>
  subst hts
  have e : ∀ k s',isT k s' (s :: m :: ts') = decide (4 = k∧sgO o = s'):=fun k s'=>isT_s hk hs
  have ho' : o = 0 ∨ o = 1 ∨ o = 2 ∨ o = 3 ∨ o = 4:=by omega
  refine ⟨fun o' d' r' q l hl=>?_,fun q=>by (cases q),?_,?_,?_,?_⟩
  ·cases q
   unfold sgL
   simp only [e]
   rcases ho' with rfl | rfl | rfl | rfl | rfl <;> rcases hl with rfl | rfl | rfl | rfl <;> rfl
  ·unfold sgC
   simp only [e]
   rcases ho' with rfl | rfl | rfl | rfl | rfl <;> rfl
  ·rw [e]; rfl
  ·rw [e]; rfl
  ·rw [e]
   rcases ho' with rfl | rfl | rfl | rfl | rfl <;> rfl
def numE (d : Nat) : Ex:=.mk 2 false (d : Int) [] [] [] []
end Go.Proofs.YtgnfndhmfgghdaaGreatDoor
