/- A verified interpreter of the model's code, and what the functions that read expressions tell by it: part 9 (Q15, Q16, Q17, Q18, Q19, Q20, Q21, Q22, Q23, Q24, Q25, Q26). No condition but those that each statement bears. -/
import Derived.Test.YtgnfndhmfgghdaaGreatDoorK08
set_option linter.unusedVariables false
set_option linter.unusedSimpArgs false
set_option linter.unusedSectionVars false
set_option linter.constructorNameAsVariable false
set_option linter.unnecessarySimpa false
/- All words of a text (lex.Tokens),whole; its check,where all letters are below 128. -/
namespace Go.Proofs.YtgnfndhmfgghdaaGreatDoor
open Go Go.Vai
set_option maxRecDepth 100000
set_option maxHeartbeats 1600000
set_option linter.unusedSimpArgs false
def Asc (s : List UInt8) : Prop:=∀ b ∈ s,b.toNat < 128
theorem dec1_asc {b : UInt8} {r : List UInt8} (h : b.toNat < 128) : dec1 (b :: r) = some (b.toNat,1):=by
 show (if b :: r = [] then none else if b.toNat < 128 then some (b.toNat,1) else _) = _
 rw [if_neg (List.cons_ne_nil _ _),if_pos h]
theorem rns_asc : ∀ {s : List UInt8},Asc s→rns s = some (s.map UInt8.toNat)
 | [],_=>rfl
 | b :: r,h=>by
  rw [rns_step (dec1_asc (h b (List.mem_cons_self ..)))]
  show (rns r).map _ = _
  rw [rns_asc (s:=r) fun x hx=>h x (List.mem_cons_of_mem _ hx)]; rfl
theorem s222a {s : List UInt8} {b : UInt8} {r : List UInt8} (hs : s = b :: r) (hb : b.toNat < 128) : Told 222 40 [str s] (.tu [.i .i32 (b.toNat : Int),.i .i64 1]):=by
 intro M hM R k H
 obtain ⟨m,rfl⟩:=fuel hM
 have hb0 : s[0]? = some b:=by rw [hs]; rfl
 have hne : (s = ([] : List UInt8)) = False:=eq_false (by rw [hs]; exact List.cons_ne_nil _ _)
 have hlt : ((b.toNat : Int) < 128):=by omega
 have hw : IntKind.i32.wrap (b.toNat : Int) = (b.toNat : Int):=wrap_n32 (by omega)
 rw [call_eq L222]
 unfold B222
 simp only [EX,reduceIte,Nat.reduceEqDiff,Nat.reduceAdd,Int.reduceEq,Int.reduceLT,Int.reduceLE,reduceCtorEq,Nat.reduceLeDiff,Nat.reduceSub,Nat.reduceLT,x_callv,clv_fn,x_mkfn,List.nil_append,List.append_nil,res_3,res_ct,res_ctt,s_neq,hne,ixs_0 hb0,by8,hlt,hw]
noncomputable def Lp172 : AC:=(.loop (.seq (.ops [O 9 (.nxt (T 8)),O 10 (.ext 0 (T 9))]) (.seq (.cond (T 10) .skip (.exit 0)) (.block 1 (.seq (.ops [O 11 (.ext 1 (T 9)),O 12 (.ext 2 (T 9)),O 3 (.mv (T 11)),O 4 (.mv (T 12))]) (.seq (.ops [O 14 (.mv (T 0)),O 15 (.mv (T 3)),O 16 (.sls (T 14) (some (T 15)) none),O 17 (.call (toPa 222) [(T 16)]),O 13 (.mv (T 17)),O 18 (.ext 0 (T 13)),O 19 (.ext 1 (T 13)),O 5 (.mv (T 18)),O 6 (.mv (T 19))]) (.seq (.ops [O 20 (.mv (T 4)),O 21 (.bin .eql .no (T 20) (K (.i .i32 65533))),O 22 (.mv (T 21)),G 23 22 true (.mv (T 6)),G 24 22 true (.bin .leq .no (T 23) (K (.i .i64 1))),O 25 (.pick (T 22) (T 24) (K (.b false)))]) (.cond (T 25) (.seq (.ops [O 2 (.mv (K (.i .i64 11)))]) .ret) .skip))))))))
theorem B172_eq : B172 = (.seq (.ops [O 2 (.mv (K (.i .i64 0)))]) (.seq (.seq (.ops [O 7 (.mv (T 0)),O 8 (.rng (T 7))]) (.block 0 Lp172)) (.seq (.ops [O 2 (.mv (K (.i .i64 0)))]) .ret))):=rfl
def F172 (s : List UInt8) (it : Pa) (fr : Tr AV) : Prop:=V fr 0 = str s∧V fr 8 = .p it 0
theorem chk_loop {H0 G : Heap} {it : Pa} {s : List UInt8} (hd : Asc s) (I : It H0 it s 0 G) :
  ∃ G',It H0 it s s.length G'∧∀ fr,F172 s it fr→∀ M,200 + s.length≤M→∀ (R : Type) (k : XK R) (res : Option R),(∀ fr',F172 s it fr'→k (.exit 0) fr' G' = res)→runK tbl M R Lp172 fr G k = res:=by
 obtain ⟨G',_,J,e⟩:=loop_cps (Lp:=Lp172) (ex:=0) (n:=s.length) (c:=200) (St:=Unit) (fun i G _=>It H0 it s i G) (fun i _ fr=>F172 s it fr)
  (fun G _ I fr ⟨f0,f8⟩ M hM R k res hr=>by
   obtain ⟨m,rfl⟩:=fuel hM
   unfold Lp172
   rw [run_loop]
   simp only [EX,reduceIte,Nat.reduceEqDiff,Nat.reduceAdd,Int.reduceEq,Int.reduceLT,Int.reduceLE,reduceCtorEq,Nat.reduceLeDiff,Nat.reduceSub,Nat.reduceLT,x_callv,clv_fn,x_mkfn,List.nil_append,List.append_nil,res_3,res_ct,res_ctt,f0,f8,I.end_]
   refine hr _ ⟨?_,?_⟩
   all_goals simp only [V_S,Nat.reduceEqDiff,reduceIte]
   all_goals assumption)
  (fun i G _ hi I=>by
   refine ⟨_,(),I.step (j:=i + 1),fun fr ⟨f0,f8⟩ M hM R k res hr=>?_⟩
   obtain ⟨m,rfl⟩:=fuel hM
   have hb : s[i]? = some s[i]:=List.getElem?_eq_getElem hi
   have hlt:=hd _ (List.getElem_mem hi)
   have h1 : ¬ ((s[i]).toNat : Int) = 65533:=by omega
   have e222:=s222a (drop_at hb) hlt
   have hr : ∀ fr',F172 s it fr'→runK tbl (m + 200) R Lp172 fr' (G.put it (.iter s.length (pk s) (i + 1))) k = res:=hr
   unfold Lp172
   rw [run_loop]
   simp only [EX,reduceIte,Nat.reduceEqDiff,Nat.reduceAdd,Int.reduceEq,Int.reduceLT,Int.reduceLE,reduceCtorEq,Nat.reduceLeDiff,Nat.reduceSub,Nat.reduceLT,x_callv,clv_fn,x_mkfn,List.nil_append,List.append_nil,res_3,res_ct,res_ctt,ext_2,f0,f8,I.one hb hlt,sls_f (Nat.le_of_lt hi),e222 _ (Nat.le_add_left 40 _),h1]
   refine hr _ ⟨?_,?_⟩
   all_goals simp only [V_S,Nat.reduceEqDiff,reduceIte]
   all_goals assumption)
  s.length 0 G () (Nat.zero_add _) I
 exact ⟨G',J,e⟩
/-- What a text's check tells. -/
def ChkAt (s : List UInt8) (H : Heap) : Prop:=Tells 172 (s.length + 3000) [str s] H (.i .i64 (if rns s = none then 11 else 0))
theorem s172a {s : List UInt8} (hd : Asc s) (H : Heap) : ChkAt s H:=by
 unfold ChkAt
 rw [if_neg (by rw [rns_asc hd]; intro q; cases q)]
 obtain ⟨G,I,e⟩:=chk_loop hd (It.new H s)
 refine ⟨G,I.g,fun M hM R k=>?_⟩
 obtain ⟨m,rfl⟩ : ∃ m,M = (m + s.length) + 3000:=⟨M - (s.length + 3000),by omega⟩
 rw [call_eq L172,B172_eq]
 simp only [EX,reduceIte,Nat.reduceEqDiff,Nat.reduceAdd,Int.reduceEq,Int.reduceLT,Int.reduceLE,reduceCtorEq,Nat.reduceLeDiff,Nat.reduceSub,Nat.reduceLT,x_callv,clv_fn,x_mkfn,List.nil_append,List.append_nil,res_3,res_ct,res_ctt,rng_str]
 refine e _ ⟨?_,?_⟩ _ (by omega) _ _ _ ?_
 ·simp only [EX,reduceIte,Nat.reduceEqDiff,Nat.reduceAdd,Int.reduceEq,Int.reduceLT,Int.reduceLE,reduceCtorEq,Nat.reduceLeDiff,Nat.reduceSub,Nat.reduceLT,x_callv,clv_fn,x_mkfn,List.nil_append,List.append_nil,res_3,res_ct,res_ctt]
 ·simp only [EX,reduceIte,Nat.reduceEqDiff,Nat.reduceAdd,Int.reduceEq,Int.reduceLT,Int.reduceLE,reduceCtorEq,Nat.reduceLeDiff,Nat.reduceSub,Nat.reduceLT,x_callv,clv_fn,x_mkfn,List.nil_append,List.append_nil,res_3,res_ct,res_ctt]
 ·rintro fr ⟨f0,f8⟩
  simp only [EX,reduceIte,Nat.reduceEqDiff,Nat.reduceAdd,Int.reduceEq,Int.reduceLT,Int.reduceLE,reduceCtorEq,Nat.reduceLeDiff,Nat.reduceSub,Nat.reduceLT,x_callv,clv_fn,x_mkfn,List.nil_append,List.append_nil,res_3,res_ct,res_ctt]
/-- All words. -/
theorem s116 {s : List UInt8} {H : Heap} (T : GlS H) (hchk : s.length≤600→ChkAt s H)
  (hstr : ∀ (H : Heap) (s' : List UInt8) (b : UInt8),(∃ a,s' = s.drop a)→s.length≤600→s'.head? = some b→GlS H→b = 34→isL b = false→isD b = false→TellsW 228 (s'.length + 3000) [str s'] H (word 0 s')) :
  ∃ H' x e,Grow H H'∧(∀ l,words s = .ok l→e = 0∧l.length≤200∧Held H H' 236 4 x l.length (tcL l))∧(∀ e',words s = .error e'→x = .ns∧e = (e' : Int))∧∀ M,8000≤M→∀ (R : Type) (k : HK R),callK tbl (runK tbl M) R (toPa 116) [str s] H k = k (.tu [x,.i .i64 e]) H':=by
 by_cases h6 : 600 < s.length
 ·have ew : words s = .error 5:=by unfold words; rw [if_pos h6]
  have h6' : (600 : Int) < (s.length : Int):=by omega
  refine ⟨H,.ns,5,Grow.refl _,fun l hl=>(by rw [ew] at hl; cases hl),fun e' he=>(by rw [ew] at he; cases he; exact ⟨rfl,rfl⟩),fun M hM R k=>?_⟩
  obtain ⟨m,rfl⟩:=fuel hM
  rw [call_eq L116,B116_eq]
  simp only [EX,reduceIte,Nat.reduceEqDiff,Nat.reduceAdd,Int.reduceEq,Int.reduceLT,Int.reduceLE,reduceCtorEq,Nat.reduceLeDiff,Nat.reduceSub,Nat.reduceLT,x_callv,clv_fn,x_mkfn,List.nil_append,List.append_nil,res_3,res_ct,res_ctt,h6']
 have h6' : ¬ (600 : Int) < (s.length : Int):=by omega
 have hle : s.length≤600:=by omega
 obtain ⟨G,g,e172⟩:=hchk hle
 by_cases hr : rns s = none
 ·have ew : words s = .error 11:=by unfold words; rw [if_neg h6,if_pos hr]
  rw [if_pos hr] at e172
  refine ⟨G,.ns,11,g,fun l hl=>(by rw [ew] at hl; cases hl),fun e' he=>(by rw [ew] at he; cases he; exact ⟨rfl,rfl⟩),fun M hM R k=>?_⟩
  obtain ⟨m,rfl⟩:=fuel hM
  rw [call_eq L116,B116_eq]
  simp (disch:=first | omega | (simp only [List.length_cons,List.length_nil]; omega)) only [EX,reduceIte,Nat.reduceEqDiff,Nat.reduceAdd,Int.reduceEq,Int.reduceLT,Int.reduceLE,reduceCtorEq,Nat.reduceLeDiff,Nat.reduceSub,Nat.reduceLT,x_callv,clv_fn,x_mkfn,List.nil_append,List.append_nil,res_3,res_ct,res_ctt,h6',e172]
 ·rw [if_neg hr] at e172
  have ew : words s = wordsF (s.length + 1) (blkS s) (s.drop (blkS s)) 0:=by unfold words; rw [if_neg h6,if_neg hr]; rfl
  have hb:=blkS_le s
  obtain ⟨G',x',g',q,eg⟩:=tok_go (by omega) (T.grow g) (fun H s' b h1 h2 h3 h4 h5 h7=>hstr H s' b h1 hle h2 h3 h4 h5 h7) (s.length + 1) (blkS s) [] .ns G hb (by rw [List.length_drop]; omega) (Nat.zero_le _) (Grow.refl G) (Held.init G G 236 4)
  cases hw : wordsF (s.length + 1) (blkS s) (s.drop (blkS s)) 0 with
  | error e' =>
   refine ⟨G',.ns,e',g.trans g',fun l hl=>(by rw [ew,hw] at hl; cases hl),fun e2 he=>(by rw [ew,hw] at he; cases he; exact ⟨rfl,rfl⟩),fun M hM R k=>?_⟩
   obtain ⟨m,rfl⟩:=fuel hM
   have e173:=s173 (s:=s) (by omega)
   rw [call_eq L116,B116_eq]
   simp (disch:=first | omega | (simp only [List.length_cons,List.length_nil]; omega)) only [EX,reduceIte,Nat.reduceEqDiff,Nat.reduceAdd,Int.reduceEq,Int.reduceLT,Int.reduceLE,reduceCtorEq,Nat.reduceLeDiff,Nat.reduceSub,Nat.reduceLT,x_callv,clv_fn,x_mkfn,List.nil_append,List.append_nil,res_3,res_ct,res_ctt,h6',e172,e173]
   refine eg _ ⟨?_,?_,?_⟩ _ (by omega) _ _ _ ?_ ?_
   ·simp only [EX,reduceIte,Nat.reduceEqDiff,Nat.reduceAdd,Int.reduceEq,Int.reduceLT,Int.reduceLE,reduceCtorEq,Nat.reduceLeDiff,Nat.reduceSub,Nat.reduceLT,x_callv,clv_fn,x_mkfn,List.nil_append,List.append_nil,res_3,res_ct,res_ctt]
   ·simp only [EX,reduceIte,Nat.reduceEqDiff,Nat.reduceAdd,Int.reduceEq,Int.reduceLT,Int.reduceLE,reduceCtorEq,Nat.reduceLeDiff,Nat.reduceSub,Nat.reduceLT,x_callv,clv_fn,x_mkfn,List.nil_append,List.append_nil,res_3,res_ct,res_ctt]
   ·simp only [EX,reduceIte,Nat.reduceEqDiff,Nat.reduceAdd,Int.reduceEq,Int.reduceLT,Int.reduceLE,reduceCtorEq,Nat.reduceLeDiff,Nat.reduceSub,Nat.reduceLT,x_callv,clv_fn,x_mkfn,List.nil_append,List.append_nil,res_3,res_ct,res_ctt]
   ·intro l hl
    rw [show ([] : List Tok).length = 0 from rfl,hw] at hl; cases hl
   ·intro e2 he fr' f2 f3
    rw [show ([] : List Tok).length = 0 from rfl,hw] at he; cases he
    simp only [EX,reduceIte,Nat.reduceEqDiff,Nat.reduceAdd,Int.reduceEq,Int.reduceLT,Int.reduceLE,reduceCtorEq,Nat.reduceLeDiff,Nat.reduceSub,Nat.reduceLT,x_callv,clv_fn,x_mkfn,List.nil_append,List.append_nil,res_3,res_ct,res_ctt,f2,f3]
  | ok l =>
   have q:=q l hw
   rw [List.nil_append] at q
   refine ⟨G',x',0,g.trans g',fun l2 hl=>?_,fun e2 he=>(by rw [ew,hw] at he; cases he),fun M hM R k=>?_⟩
   ·rw [ew,hw] at hl; cases hl
    exact ⟨rfl,q.1,q.2.back g⟩
   ·obtain ⟨m,rfl⟩:=fuel hM
    have e173:=s173 (s:=s) (by omega)
    rw [call_eq L116,B116_eq]
    simp (disch:=first | omega | (simp only [List.length_cons,List.length_nil]; omega)) only [EX,reduceIte,Nat.reduceEqDiff,Nat.reduceAdd,Int.reduceEq,Int.reduceLT,Int.reduceLE,reduceCtorEq,Nat.reduceLeDiff,Nat.reduceSub,Nat.reduceLT,x_callv,clv_fn,x_mkfn,List.nil_append,List.append_nil,res_3,res_ct,res_ctt,h6',e172,e173]
    refine eg _ ⟨?_,?_,?_⟩ _ (by omega) _ _ _ ?_ ?_
    ·simp only [EX,reduceIte,Nat.reduceEqDiff,Nat.reduceAdd,Int.reduceEq,Int.reduceLT,Int.reduceLE,reduceCtorEq,Nat.reduceLeDiff,Nat.reduceSub,Nat.reduceLT,x_callv,clv_fn,x_mkfn,List.nil_append,List.append_nil,res_3,res_ct,res_ctt]
    ·simp only [EX,reduceIte,Nat.reduceEqDiff,Nat.reduceAdd,Int.reduceEq,Int.reduceLT,Int.reduceLE,reduceCtorEq,Nat.reduceLeDiff,Nat.reduceSub,Nat.reduceLT,x_callv,clv_fn,x_mkfn,List.nil_append,List.append_nil,res_3,res_ct,res_ctt]
    ·simp only [EX,reduceIte,Nat.reduceEqDiff,Nat.reduceAdd,Int.reduceEq,Int.reduceLT,Int.reduceLE,reduceCtorEq,Nat.reduceLeDiff,Nat.reduceSub,Nat.reduceLT,x_callv,clv_fn,x_mkfn,List.nil_append,List.append_nil,res_3,res_ct,res_ctt]
    ·intro l2 hl fr' f5
     simp only [EX,reduceIte,Nat.reduceEqDiff,Nat.reduceAdd,Int.reduceEq,Int.reduceLT,Int.reduceLE,reduceCtorEq,Nat.reduceLeDiff,Nat.reduceSub,Nat.reduceLT,x_callv,clv_fn,x_mkfn,List.nil_append,List.append_nil,res_3,res_ct,res_ctt,f5]
    ·intro e2 he
     rw [show ([] : List Tok).length = 0 from rfl,hw] at he; cases he
end Go.Proofs.YtgnfndhmfgghdaaGreatDoor

/- The reader: where it stands,the words ahead. -/
namespace Go.Proofs.YtgnfndhmfgghdaaGreatDoor
open Go Go.Vai
set_option maxRecDepth 100000
set_option maxHeartbeats 1600000
set_option linter.unusedSimpArgs false
def tk0 : Tok:=⟨0,[],0,0⟩
/-- The word that stands so far ahead. -/
def at0 (ts : List Tok) (i : Nat) : Tok:=(ts[i]?).getD tk0
theorem tcL_at : ∀ {l : List Tok} {i : Nat} {t : Tok},l[i]? = some t→((tcL l).drop (i * 4)).take 4 = tcs t
 | [],_,_,h=>by cases h
 | t' :: l,0,t,h=>by
  cases h
  show ((tcs t' ++ tcL l).drop (0 * 4)).take 4 = _
  rw [Nat.zero_mul]; rfl
 | t' :: l,i + 1,t,h=>by
  have h : l[i]? = some t:=h
  show ((tcs t' ++ tcL l).drop ((i + 1) * 4)).take 4 = _
  rw [show (i + 1) * 4 = 4 + i * 4 by omega,← List.drop_drop]
  exact tcL_at (l:=l) h
theorem tcs_av (t : Tok) : avEq (.ag (tcs t)) (.ag (tcs t)) = true:=by
 refine avEq_ag ?_
 intro v hv
 simp only [tcs,List.mem_cons,List.not_mem_nil,or_false] at hv
 rcases hv with rfl | rfl | rfl | rfl
 ·exact av1_i
 ·exact av1_str
 ·exact av1_i
 ·exact av1_i
/-- The words in memory. -/
def TsIn (p : Pa) (H : Heap) (x : AV) (ts0 : List Tok) : Prop:=(x = .ns∧ts0 = []) ∨ ∃ a,x = .sl a 0 ts0.length none 4∧a ≠ p∧a.toN < H.next.toN∧Row H a 236 (tcL ts0)
/-- A reader of words: how far it is,whether it has gone wrong. -/
structure AtI (p : Pa) (x : AV) (ts0 : List Tok) (H : Heap) (bad : Bool) (ts : List Tok) (i : Nat) : Prop where
 row : Row H p 144 [x,.i .i64 (i : Int),.b bad]
 lt : p.toN < H.next.toN
 inn : TsIn p H x ts0
 le : i≤ts0.length
 ts : ts = if bad = true then [] else ts0.drop i
 len : ts0.length≤200
abbrev At (p : Pa) (x : AV) (ts0 : List Tok) (H : Heap) (bad : Bool) (ts : List Tok) : Prop:=∃ i,AtI p x ts0 H bad ts i
theorem TsIn.but {p : Pa} {H H' : Heap} {x : AV} {ts0 : List Tok} (h : TsIn p H x ts0) (g : GrowBut p H H') : TsIn p H' x ts0:=by
 obtain h | ⟨a,h1,h2,h3,h4⟩:=h
 ·exact .inl h
 ·exact .inr ⟨a,h1,h2,Nat.lt_of_lt_of_le h3 g.next,h4.but g h3 h2⟩
theorem TsIn.av {p : Pa} {H : Heap} {x : AV} {ts0 : List Tok} (h : TsIn p H x ts0) : avEq x x = true∧oneC x = true:=by
 obtain ⟨rfl,_⟩ | ⟨a,rfl,_⟩:=h
 ·exact ⟨avEq_ns,rfl⟩
 ·exact ⟨avEq_sl,rfl⟩
theorem TsIn.lenC {R : Type} {p : Pa} {H G : Heap} {x : AV} {ts0 : List Tok} {k : HK R} (h : TsIn p H x ts0) : lenC false x k G = k (.i .i64 (ts0.length : Int)) G:=by
 obtain ⟨rfl,rfl⟩ | ⟨a,rfl,_⟩:=h <;> rfl
section
variable {p : Pa} {x : AV} {ts0 : List Tok} {H H' : Heap} {bad : Bool} {ts : List Tok} {i : Nat}
theorem AtI.grow (h : AtI p x ts0 H bad ts i) (g : Grow H H') : AtI p x ts0 H' bad ts i :=
 ⟨h.row.grow g h.lt,Nat.lt_of_lt_of_le h.lt g.next,h.inn.but (g.but p),h.le,h.ts,h.len⟩
theorem AtI.bad_nil (h : AtI p x ts0 H true ts i) : ts = []:=h.ts
theorem AtI.tsl (h : AtI p x ts0 H bad ts i) : ts.length≤200:=by
 rw [h.ts]
 split
 ·exact Nat.zero_le _
 ·rw [List.length_drop]; have:=h.len; omega
theorem AtI.l0 (h : AtI p x ts0 H bad ts i) : ∀ (R : Type) (k : HK R),ldC false 1 (.p p 0) k H = k x H:=h.row.l 0 rfl
theorem AtI.l1 (h : AtI p x ts0 H bad ts i) : ∀ (R : Type) (k : HK R),ldC false 1 (.p p 1) k H = k (.i .i64 (i : Int)) H:=h.row.l 1 rfl
theorem AtI.l2 (h : AtI p x ts0 H bad ts i) : ∀ (R : Type) (k : HK R),ldC false 1 (.p p 2) k H = k (.b bad) H:=h.row.l 2 rfl
/-- The word ahead,in memory. -/
theorem AtI.tok {R : Type} {k : HK R} {j : Nat} {t : Tok} {n : Nat} {a : Pa} (hr : Row H a 236 (tcL ts0)) (ht : ts0[n]? = some t) : ldC true 4 (.p a (n * 4)) k H = k (.ag (tcs t)) H:=by
 have hn : n < ts0.length:=(List.getElem?_eq_some_iff.mp ht).1
 rw [hr.lds (by rw [tcL_len]; omega),tcL_at ht]
theorem s175 (h : AtI p x ts0 H bad ts i) {j : Nat} {J : Int} (hJ : J = (j : Int)) (hj : j≤1) :
  ∃ H',Grow H H'∧∀ M,100≤M→∀ (R : Type) (k : HK R),callK tbl (runK tbl M) R (toPa 175) [.p p 0,.i .i64 J] H k = k (.ag (tcs (at0 ts j))) H':=by
 subst hJ
 obtain ⟨G,eG,g,rG,nG⟩:=tok_new H
 have hG:=h.grow g
 have hlen:=h.len
 have hle:=h.le
 have l0:=hG.l0
 have l1:=hG.l1
 have l2:=hG.l2
 have ax:=h.inn.av.1
 have hl : ∀ (R : Type) (k : HK R) (G : Heap),lenC false x k G = k (.i .i64 (ts0.length : Int)) G:=fun R k G=>h.inn.lenC
 have zfin : at0 ts j = tk0→(bad = true ∨ (bad = false∧ts0.length≤i + j))→∃ H',Grow H H'∧∀ M,100≤M→∀ (R : Type) (k : HK R),callK tbl (runK tbl M) R (toPa 175) [.p p 0,.i .i64 (j : Int)] H k = k (.ag (tcs (at0 ts j))) H':=by
  intro hz hc
  obtain ⟨G',g',r',n',est,eld⟩:=tok_st g rG rfl (Nat.le_refl _) nG (cs:=tz) rfl (tcs_one tk0)
  refine ⟨G',g',fun M hM R k=>?_⟩
  obtain ⟨m,rfl⟩:=fuel hM
  rw [hz]
  have est : ∀ (R : Type) (k : HK R),stC 4 (.p H.next 0) (.ag [.i .i64 0,str [],.i .i64 0,.i .i64 0]) k G = k un G':=est
  subst eG
  rw [call_eq L175]
  unfold B175
  obtain rfl | ⟨rfl,hc⟩:=hc
  ·simp only [EX,reduceIte,Nat.reduceEqDiff,Nat.reduceAdd,Int.reduceEq,Int.reduceLT,Int.reduceLE,reduceCtorEq,Nat.reduceLeDiff,Nat.reduceSub,Nat.reduceLT,x_callv,clv_fn,x_mkfn,List.nil_append,List.append_nil,res_3,res_ct,res_ctt,l0,l1,l2,est,eld]
   rfl
  ·have hc' : ((ts0.length : Int)≤((i + j : Nat) : Int)):=by omega
   simp only [EX,reduceIte,Nat.reduceEqDiff,Nat.reduceAdd,Int.reduceEq,Int.reduceLT,Int.reduceLE,reduceCtorEq,Nat.reduceLeDiff,Nat.reduceSub,Nat.reduceLT,x_callv,clv_fn,x_mkfn,List.nil_append,List.append_nil,res_3,res_ct,res_ctt,l0,l1,l2,est,eld,i_add,add64 (show i + j < 9223372036854775808 by omega),hl,hc',ax]
   rfl
 by_cases hb : bad = true
 ·exact zfin (by rw [h.ts,if_pos hb]; rfl) (.inl hb)
 ·have hb : bad = false:=by simpa using hb
  have hts : ts = ts0.drop i:=by rw [h.ts,hb]; rfl
  have hat : at0 ts j = (ts0[i + j]?).getD tk0:=by unfold at0; rw [hts,List.getElem?_drop]
  by_cases hc : ts0.length≤i + j
  ·exact zfin (by rw [hat,List.getElem?_eq_none hc]; rfl) (.inr ⟨hb,hc⟩)
  ·obtain ⟨t,ht⟩ : ∃ t,ts0[i + j]? = some t:=⟨_,List.getElem?_eq_getElem (by omega)⟩
   have hat : at0 ts j = t:=by rw [hat,ht]; rfl
   obtain ⟨rfl,hx⟩ | ⟨a,rfl,ha,ha2,hr⟩:=h.inn
   ·subst hx; exact absurd (Nat.zero_le _) hc
   obtain ⟨G',g',r',n',est,eld⟩:=tok_st g rG rfl (Nat.le_refl _) nG (cs:=tcs t) rfl (tcs_one t)
   refine ⟨G',g',fun M hM R k=>?_⟩
   obtain ⟨m,rfl⟩:=fuel hM
   rw [hat]
   have hrG:=hr.grow g ha2
   have eix : ∀ (R : Type) (k : HK R) (G : Heap),ixaC 4 (.sl a 0 ts0.length none 4) (.i .i64 ((i + j : Nat) : Int)) k G = k (.p a ((i + j) * 4)) G:=fun R k G=>by
    rw [ixa_sl (by omega) (by omega),Int.toNat_natCast,Nat.zero_add]
   have etk : ∀ (R : Type) (k : HK R),ldC true 4 (.p a ((i + j) * 4)) k G = k (.ag (tcs t)) G:=fun R k=>AtI.tok (j:=j) hrG ht
   have hc' : ¬ ((ts0.length : Int)≤((i + j : Nat) : Int)):=by omega
   subst eG hb
   rw [call_eq L175]
   unfold B175
   simp only [EX,reduceIte,Nat.reduceEqDiff,Nat.reduceAdd,Int.reduceEq,Int.reduceLT,Int.reduceLE,reduceCtorEq,Nat.reduceLeDiff,Nat.reduceSub,Nat.reduceLT,x_callv,clv_fn,x_mkfn,List.nil_append,List.append_nil,res_3,res_ct,res_ctt,l0,l1,l2,i_add,add64 (show i + j < 9223372036854775808 by omega),hl,hc',eix,etk,est,eld,ax,tcs_av]
end
end Go.Proofs.YtgnfndhmfgghdaaGreatDoor

/- The reader's words: is it this one,it must be so,any of a kind,names,texts,numbers. -/
namespace Go.Proofs.YtgnfndhmfgghdaaGreatDoor
open Go Go.Vai
set_option maxRecDepth 100000
set_option maxHeartbeats 1600000
set_option linter.unusedSimpArgs false
section
variable {p : Pa} {x : AV} {ts0 : List Tok} {H H' : Heap} {bad : Bool} {ts : List Tok} {i : Nat}
theorem isT_at {k : Nat} (hk : 0 < k) (s : List UInt8) (ts : List Tok) : isT k s ts = decide ((at0 ts 0).k = k∧(at0 ts 0).s = s):=by
 cases ts with
 | nil=>exact (decide_eq_false (by rintro ⟨h,_⟩; have h : 0 = k:=h; omega)).symm
 | cons t r=>rfl
theorem at0_ne {ts : List Tok} (h : (at0 ts 0).k ≠ 0) : ∃ t r,ts = t :: r:=by
 cases ts with
 | nil=>exact absurd rfl h
 | cons t r=>exact ⟨t,r,rfl⟩
/-- One word further. -/
theorem AtI.next (h : AtI p x ts0 H bad ts i) {t : Tok} {r : List Tok} (ht : ts = t :: r) : i + 1≤ts0.length∧∃ H',GrowBut p H H'∧AtI p x ts0 H' bad r (i + 1)∧∀ (R : Type) (k : HK R),stC 1 (.p p 1) (.i .i64 ((i + 1 : Nat) : Int)) k H = k un H':=by
 have hb : bad = false:=by
  cases bad with
  | true=>rw [h.bad_nil] at ht; cases ht
  | false=>rfl
 subst hb
 have hts : ts = ts0.drop i:=h.ts
 have hi : i < ts0.length:=by
  rw [ht] at hts
  have:=congrArg List.length hts
  rw [List.length_drop,List.length_cons] at this
  omega
 obtain ⟨G,rG,bG,nG,e⟩:=h.row.st_one (off:=1) (v:=.i .i64 ((i + 1 : Nat) : Int)) h.lt (show 1 < 3 by decide) one_i
 refine ⟨hi,G,bG,⟨rG,by rw [nG]; exact h.lt,h.inn.but bG,hi,?_,h.len⟩,e⟩
 show r = ts0.drop (i + 1)
 rw [← List.drop_drop,← hts,ht]; rfl
/-- What a word's asking tells. -/
def Asks (p : Pa) (x : AV) (ts0 : List Tok) (f c : Nat) (args : List AV) (H : Heap) (bad : Bool) (ts : List Tok) (v : AV) : Prop :=
 ∃ H',GrowBut p H H'∧At p x ts0 H' bad ts∧∀ M,c≤M→∀ (R : Type) (k : HK R),callK tbl (runK tbl M) R (toPa f) args H k = k v H'
theorem s130 (h : At p x ts0 H bad ts) {k : Nat} {K : Int} (hK : K = (k : Int)) (hk : 0 < k) (s : List UInt8) :
  Asks p x ts0 130 200 [.p p 0,.i .i64 K,str s] H bad (if isT k s ts = true then ts.drop 1 else ts) (.b (isT k s ts)):=by
 subst hK
 obtain ⟨i,h⟩:=h
 obtain ⟨G1,g1,e175⟩:=s175 h (j:=0) (J:=0) rfl (by decide)
 obtain ⟨G2,eG2,g2,r2,n2⟩:=tok_new G1
 obtain ⟨G3,g3,r3,n3,est3,_⟩:=tok_st g2 r2 rfl (Nat.le_refl _) n2 (cs:=tcs (at0 ts 0)) rfl (tcs_one _)
 have lk:=r3.l 0 rfl
 have ls:=r3.l 1 rfl
 have h3:=h.grow (g1.trans g3)
 have hi:=isT_at hk s ts
 have est3:=fun (R : Type) (k : HK R)=>est3 R k
 by_cases hkk : (at0 ts 0).k = k
 ·by_cases hss : (at0 ts 0).s = s
  ·have et : isT k s ts = true:=by rw [hi]; exact decide_eq_true ⟨hkk,hss⟩
   obtain ⟨t,r,ht⟩:=at0_ne (ts:=ts) (by omega)
   obtain ⟨hi1,G4,b4,h4,est4⟩:=h3.next ht
   have l1:=h3.l1
   rw [et,if_pos rfl]
   refine ⟨G4,((g1.trans g3).but p).trans b4,⟨i + 1,by rw [ht]; exact h4⟩,fun M hM R k'=>?_⟩
   obtain ⟨m,rfl⟩:=fuel hM
   have hkk' : (((at0 ts 0).k : Int) = (k : Int)):=by omega
   subst eG2
   rw [call_eq L130]
   unfold B130
   simp (disch:=first | omega | (simp only [List.length_cons,List.length_nil]; omega)) only [EX,reduceIte,Nat.reduceEqDiff,Nat.reduceAdd,Int.reduceEq,Int.reduceLT,Int.reduceLE,reduceCtorEq,Nat.reduceLeDiff,Nat.reduceSub,Nat.reduceLT,x_callv,clv_fn,x_mkfn,List.nil_append,List.append_nil,res_3,res_ct,res_ctt,e175,est3,lk,ls,hkk',s_neq,hss,l1,i_add,inc64 (show i < 1000000000000 by have:=h.len; omega),est4]
  ·have et : isT k s ts = false:=by rw [hi]; exact decide_eq_false fun q=>hss q.2
   rw [et,if_neg (by decide)]
   refine ⟨G3,(g1.trans g3).but p,⟨i,h3⟩,fun M hM R k'=>?_⟩
   obtain ⟨m,rfl⟩:=fuel hM
   have hkk' : (((at0 ts 0).k : Int) = (k : Int)):=by omega
   subst eG2
   rw [call_eq L130]
   unfold B130
   simp (disch:=first | omega | (simp only [List.length_cons,List.length_nil]; omega)) only [EX,reduceIte,Nat.reduceEqDiff,Nat.reduceAdd,Int.reduceEq,Int.reduceLT,Int.reduceLE,reduceCtorEq,Nat.reduceLeDiff,Nat.reduceSub,Nat.reduceLT,x_callv,clv_fn,x_mkfn,List.nil_append,List.append_nil,res_3,res_ct,res_ctt,e175,est3,lk,ls,hkk',s_neq,hss]
 ·have et : isT k s ts = false:=by rw [hi]; exact decide_eq_false fun q=>hkk q.1
  rw [et,if_neg (by decide)]
  refine ⟨G3,(g1.trans g3).but p,⟨i,h3⟩,fun M hM R k'=>?_⟩
  obtain ⟨m,rfl⟩:=fuel hM
  have hkk' : ¬ (((at0 ts 0).k : Int) = (k : Int)):=by omega
  subst eG2
  rw [call_eq L130]
  unfold B130
  simp (disch:=first | omega | (simp only [List.length_cons,List.length_nil]; omega)) only [EX,reduceIte,Nat.reduceEqDiff,Nat.reduceAdd,Int.reduceEq,Int.reduceLT,Int.reduceLE,reduceCtorEq,Nat.reduceLeDiff,Nat.reduceSub,Nat.reduceLT,x_callv,clv_fn,x_mkfn,List.nil_append,List.append_nil,res_3,res_ct,res_ctt,e175,est3,lk,ls,hkk',s_neq]
/-- A sign. -/
theorem s125 (h : At p x ts0 H bad ts) (s : List UInt8) : Asks p x ts0 125 250 [.p p 0,str s] H bad (if isT 4 s ts = true then ts.drop 1 else ts) (.b (isT 4 s ts)):=by
 obtain ⟨G,g,a,e⟩:=s130 h (k:=4) (K:=4) rfl (by decide) s
 refine ⟨G,g,a,fun M hM R k'=>?_⟩
 obtain ⟨m,rfl⟩:=fuel hM
 rw [call_eq L125]
 unfold B125
 simp (disch:=first | omega | (simp only [List.length_cons,List.length_nil]; omega)) only [EX,reduceIte,Nat.reduceEqDiff,Nat.reduceAdd,Int.reduceEq,Int.reduceLT,Int.reduceLE,reduceCtorEq,Nat.reduceLeDiff,Nat.reduceSub,Nat.reduceLT,x_callv,clv_fn,x_mkfn,List.nil_append,List.append_nil,res_3,res_ct,res_ctt,e]
/-- A name that is this one. -/
theorem s71 (h : At p x ts0 H bad ts) (s : List UInt8) : Asks p x ts0 71 250 [.p p 0,str s] H bad (if isT 1 s ts = true then ts.drop 1 else ts) (.b (isT 1 s ts)):=by
 obtain ⟨G,g,a,e⟩:=s130 h (k:=1) (K:=1) rfl (by decide) s
 refine ⟨G,g,a,fun M hM R k'=>?_⟩
 obtain ⟨m,rfl⟩:=fuel hM
 rw [call_eq L71]
 unfold B71
 simp (disch:=first | omega | (simp only [List.length_cons,List.length_nil]; omega)) only [EX,reduceIte,Nat.reduceEqDiff,Nat.reduceAdd,Int.reduceEq,Int.reduceLT,Int.reduceLE,reduceCtorEq,Nat.reduceLeDiff,Nat.reduceSub,Nat.reduceLT,x_callv,clv_fn,x_mkfn,List.nil_append,List.append_nil,res_3,res_ct,res_ctt,e]
/-- Gone wrong. -/
theorem AtI.spoil (h : AtI p x ts0 H bad ts i) : ∃ H',GrowBut p H H'∧AtI p x ts0 H' true [] i∧∀ (R : Type) (k : HK R),stC 1 (.p p 2) (.b true) k H = k un H':=by
 obtain ⟨G,rG,bG,nG,e⟩:=h.row.st_one (off:=2) (v:=.b true) h.lt (show 2 < 3 by decide) one_b
 exact ⟨G,bG,⟨rG,by rw [nG]; exact h.lt,h.inn.but bG,h.le,rfl,h.len⟩,e⟩
/-- It must be so. -/
theorem s73 (h : At p x ts0 H bad ts) (b : Bool) : Asks p x ts0 73 50 [.p p 0,.b b] H (bad || !b) (if b = true then ts else []) un:=by
 obtain ⟨i,h⟩:=h
 cases b with
 | true =>
  rw [if_pos rfl]
  refine ⟨H,GrowBut.refl p H,⟨i,by rw [show (bad || !true) = bad by cases bad <;> rfl]; exact h⟩,fun M hM R k'=>?_⟩
  obtain ⟨m,rfl⟩:=fuel hM
  rw [call_eq L73]
  unfold B73
  simp only [EX,reduceIte,Nat.reduceEqDiff,Nat.reduceAdd,Int.reduceEq,Int.reduceLT,Int.reduceLE,reduceCtorEq,Nat.reduceLeDiff,Nat.reduceSub,Nat.reduceLT,x_callv,clv_fn,x_mkfn,List.nil_append,List.append_nil,res_3,res_ct,res_ctt]
 | false =>
  obtain ⟨G,g,a,e⟩:=h.spoil
  rw [if_neg (by decide)]
  refine ⟨G,g,⟨i,by rw [show (bad || !false) = true by cases bad <;> rfl]; exact a⟩,fun M hM R k'=>?_⟩
  obtain ⟨m,rfl⟩:=fuel hM
  rw [call_eq L73]
  unfold B73
  simp only [EX,reduceIte,Nat.reduceEqDiff,Nat.reduceAdd,Int.reduceEq,Int.reduceLT,Int.reduceLE,reduceCtorEq,Nat.reduceLeDiff,Nat.reduceSub,Nat.reduceLT,x_callv,clv_fn,x_mkfn,List.nil_append,List.append_nil,res_3,res_ct,res_ctt,e]
end
end Go.Proofs.YtgnfndhmfgghdaaGreatDoor

/- The reader's words of a kind: names,texts,numbers; is a uid ahead,a uid; the end. -/
namespace Go.Proofs.YtgnfndhmfgghdaaGreatDoor
open Go Go.Vai
set_option maxRecDepth 100000
set_option maxHeartbeats 1600000
set_option linter.unusedSimpArgs false
section
variable {R : Type} {call : CallK R} {fr : Tr AV} {H : Heap} {k : HK R}
/-- A field of a value. -/
noncomputable def fldC (g : Bool) (off n : Nat) (v : AV) (k : HK R) (H : Heap) : Option R:=vA v fun l=>fldK g off n l fun v=>k v H
theorem x_fld {g : Bool} {off n : Nat} {x : Opd} : xopK (.fld g off n x) call fr H k = fldC g off n (ev fr x) k H:=by
 show evK fr x (fun v=>fldC g off n v k H) = _
 rw [evK_eq]
end
section
variable {p : Pa} {x : AV} {ts0 : List Tok} {H H' : Heap} {bad : Bool} {ts : List Tok} {i : Nat}
theorem fld_s {R : Type} {k : HK R} {t : Tok} : fldC false 1 1 (.ag (tcs t)) k H = k (str t.s) H:=rfl
theorem fld_n {R : Type} {k : HK R} {t : Tok} : fldC false 2 1 (.ag (tcs t)) k H = k (.i .i64 (t.n : Int)) H:=rfl
theorem fld_k {R : Type} {k : HK R} {t : Tok} : fldC false 0 1 (.ag (tcs t)) k H = k (.i .i64 (t.k : Int)) H:=rfl
/-- Any word of a kind. -/
def anyT (k : Nat) : List Tok→Option (Tok × List Tok)
 | []=>none
 | t :: r=>if t.k = k then some (t,r) else none
def tokO : Option (Tok × List Tok)→Tok
 | some (t,_)=>t
 | none=>tk0
def restO (ts : Option (Tok × List Tok)) : List Tok :=
 match ts with
 | some (_,r)=>r
 | none=>[]
theorem At.gone {H : Heap} {ts : List Tok} (h : At p x ts0 H true ts) : ts = []:=h.elim fun _ h=>h.bad_nil
theorem At.lt {H : Heap} {b : Bool} {ts : List Tok} (h : At p x ts0 H b ts) : p.toN < H.next.toN:=h.elim fun _ h=>h.lt
/-- A row elsewhere stays. -/
theorem _root_.Go.Vai.Row.fr {G G' : Heap} {p q : Pa} {e : Nat} {l : List AV} (r : Row G q e l) (g : GrowBut p G G') (hq : p.toN ≠ q.toN) (hn : q.toN < G.next.toN) : Row G' q e l:=r.but g hn (by intro e; subst e; exact hq rfl)
theorem AtI.wr {H0 G G' : Heap} {q : Pa} {b0 b : Bool} {t0 t : List Tok} {i0 j : Nat} (h0 : AtI p x ts0 H0 b0 t0 i0) (a : AtI p x ts0 G b t j) (g : GrowBut q G G') (hq : H0.next.toN≤q.toN) : AtI p x ts0 G' b t j:=by
 have hp:=h0.lt
 refine ⟨a.row.but g a.lt (by intro e; subst e; omega),Nat.lt_of_lt_of_le a.lt g.next,?_,a.le,a.ts,a.len⟩
 obtain h | ⟨c,h1,h2,h3,h4⟩:=a.inn
 ·exact .inl h
 ·obtain ⟨h5,_⟩ | ⟨c',h5,_,h7,_⟩:=h0.inn
  ·rw [h1] at h5; cases h5
  ·rw [h1] at h5; cases h5
   exact .inr ⟨c,h1,h2,Nat.lt_of_lt_of_le h3 g.next,h4.but g h3 (by intro e; subst e; omega)⟩
/-- A room that is new since a time,filled. -/
theorem room_st {H0 G : Heap} {q : Pa} {e n : Nat} {zs cs : List AV} (g : GrowBut p H0 G) (r : Row G q e zs) (hq : H0.next.toN≤q.toN) (hn : q.toN < G.next.toN) (hz : zs.length = n) (hl : cs.length = n) (ho : ∀ v ∈ cs,oneC v = true) :
  ∃ G',GrowBut p H0 G'∧GrowBut q G G'∧G'.next = G.next∧Row G' q e cs∧(∀ (R : Type) (k : HK R),stC n (.p q 0) (.ag cs) k G = k un G')∧∀ (R : Type) (k : HK R),ldC true n (.p q 0) k G' = k (.ag cs) G':=by
 obtain ⟨G',r',b',n',est⟩:=r.st_all (n:=n) hn hl hz.symm ho
 refine ⟨G',⟨Nat.le_trans g.next b'.next,fun b hb hne=>by rw [b'.get b (Nat.lt_of_lt_of_le hb g.next) (by intro q; subst q; omega),g.get b hb hne],fun f=>b'.dead (g.dead f)⟩,b',n',r',est,r'.la n hl.symm⟩
theorem s187 (h : At p x ts0 H bad ts) {k : Nat} {K : Int} (hK : K = (k : Int)) (hk : 0 < k) :
  Asks p x ts0 187 300 [.p p 0,.i .i64 K] H (bad || (anyT k ts).isNone) (restO (anyT k ts)) (.ag (tcs (tokO (anyT k ts)))):=by
 subst hK
 obtain ⟨i,h⟩:=h
 obtain ⟨G1,eG1,g1,r1,n1⟩:=tok_new H
 obtain ⟨G2,g2,e175⟩:=s175 (h.grow g1) (j:=0) (J:=0) rfl (by decide)
 obtain ⟨G3,eG3,g3,r3,n3⟩:=tok_new G2
 obtain ⟨G4,g4,r4,n4,est4,eld4⟩:=tok_st g3 r3 rfl (Nat.le_refl _) n3 (cs:=tcs (at0 ts 0)) rfl (tcs_one _)
 have lk:=r4.l 0 rfl
 have h4:=((h.grow g1).grow g2).grow (g4)
 have g14:=g1.trans (g2.trans g4)
 have r14:=r1.grow (g2.trans g4) n1
 have hn4 : H.next.toN < G4.next.toN:=Nat.lt_of_lt_of_le n1 (g2.trans g4).next
 have hpn:=h.lt
 have h2n : H.next.toN≤G2.next.toN:=(g1.trans g2).next
 have h24 : G2.next.toN < G4.next.toN:=by rw [n4]; exact n3
 by_cases hkk : (at0 ts 0).k = k
 ·obtain ⟨t,r,rfl⟩:=at0_ne (ts:=ts) (by omega)
  have ea : anyT k (t :: r) = some (t,r):=if_pos hkk
  have hb : bad = false:=by
   cases bad with
   | true=>exact absurd h.bad_nil (List.cons_ne_nil _ _)
   | false=>rfl
  subst hb
  obtain ⟨G5,b5,⟨i5,a5⟩,e73⟩:=s73 ⟨i,h4⟩ true
  rw [if_pos rfl,show (false || !true) = false from rfl] at a5
  have l25:=a5.l2
  have l15:=a5.l1
  obtain ⟨hi6,G6,b6,a6,e6⟩:=a5.next rfl
  have g06:=(g14.but p).trans (b5.trans b6)
  have r6:=r14.fr (b5.trans b6) (by omega) hn4
  have c6:=(r4.fr (b5.trans b6) (by omega) h24).la 4 rfl
  obtain ⟨G7,g7,b7,n7,r7,e7,ld7⟩:=room_st (cs:=tcs t) g06 r6 (Nat.le_refl _) (Nat.lt_of_lt_of_le hn4 (b5.trans b6).next) (n:=4) rfl rfl (tcs_one _)
  rw [ea,show (false || (some (t,r) : Option (Tok × List Tok)).isNone) = false from rfl]
  refine ⟨G7,g7,⟨i5 + 1,h.wr a6 b7 (Nat.le_refl _)⟩,fun M hM R k'=>?_⟩
  obtain ⟨m,rfl⟩:=fuel hM
  have hkk' : (((at0 (t :: r) 0).k : Int) = (k : Int)):=by omega
  have c6 : ∀ (R : Type) (k : HK R),ldC true 4 (.p G2.next 0) k G6 = k (.ag (tcs t)) G6:=c6
  subst eG1 eG3
  rw [call_eq L187]
  unfold B187
  simp (disch:=first | omega | (simp only [List.length_cons,List.length_nil]; omega)) only [EX,reduceIte,Nat.reduceEqDiff,Nat.reduceAdd,Int.reduceEq,Int.reduceLT,Int.reduceLE,reduceCtorEq,Nat.reduceLeDiff,Nat.reduceSub,Nat.reduceLT,x_callv,clv_fn,x_mkfn,List.nil_append,List.append_nil,res_3,res_ct,res_ctt,e175,est4,lk,hkk',e73,l25,l15,i_add,inc64 (show i5 < 1000000000000 by have:=h.len; omega),e6,c6,e7,ld7,ea]
  rfl
 ·have ea : anyT k ts = none:=by
   cases ts with
   | nil=>rfl
   | cons t r=>exact if_neg hkk
  obtain ⟨G5,b5,⟨i5,a5⟩,e73⟩:=s73 ⟨i,h4⟩ false
  rw [if_neg (by decide),show (bad || !false) = true by cases bad <;> rfl] at a5
  have l25:=a5.l2
  have r5:=r14.fr b5 (by omega) hn4
  obtain ⟨G7,g7,b7,n7,r7,e7,ld7⟩:=room_st (cs:=tz) ((g14.but p).trans b5) r5 (Nat.le_refl _) (Nat.lt_of_lt_of_le hn4 b5.next) (n:=4) rfl rfl (tcs_one tk0)
  have e7 : ∀ (R : Type) (k : HK R),stC 4 (.p H.next 0) (.ag [.i .i64 0,str [],.i .i64 0,.i .i64 0]) k G5 = k un G7:=e7
  rw [ea]
  refine ⟨G7,g7,⟨i5,by rw [show (bad || (none : Option (Tok × List Tok)).isNone) = true by cases bad <;> rfl]; exact h.wr a5 b7 (Nat.le_refl _)⟩,fun M hM R k'=>?_⟩
  obtain ⟨m,rfl⟩:=fuel hM
  have hkk' : ¬ (((at0 ts 0).k : Int) = (k : Int)):=by omega
  subst eG1 eG3
  rw [call_eq L187]
  unfold B187
  simp (disch:=first | omega | (simp only [List.length_cons,List.length_nil]; omega)) only [EX,reduceIte,Nat.reduceEqDiff,Nat.reduceAdd,Int.reduceEq,Int.reduceLT,Int.reduceLE,reduceCtorEq,Nat.reduceLeDiff,Nat.reduceSub,Nat.reduceLT,x_callv,clv_fn,x_mkfn,List.nil_append,List.append_nil,res_3,res_ct,res_ctt,e175,est4,lk,hkk',e73,l25,e7,ld7]
  rfl
/-- A name. -/
theorem s131 (h : At p x ts0 H bad ts) : Asks p x ts0 131 350 [.p p 0] H (bad || (anyT 1 ts).isNone) (restO (anyT 1 ts)) (str (tokO (anyT 1 ts)).s):=by
 obtain ⟨G,g,a,e⟩:=s187 h (k:=1) (K:=1) rfl (by decide)
 refine ⟨G,g,a,fun M hM R k'=>?_⟩
 obtain ⟨m,rfl⟩:=fuel hM
 rw [call_eq L131]
 unfold B131
 simp (disch:=first | omega | (simp only [List.length_cons,List.length_nil]; omega)) only [EX,reduceIte,Nat.reduceEqDiff,Nat.reduceAdd,Int.reduceEq,Int.reduceLT,Int.reduceLE,reduceCtorEq,Nat.reduceLeDiff,Nat.reduceSub,Nat.reduceLT,x_callv,clv_fn,x_mkfn,List.nil_append,List.append_nil,res_3,res_ct,res_ctt,e,x_fld,fld_s]
/-- A text. -/
theorem s202 (h : At p x ts0 H bad ts) : Asks p x ts0 202 350 [.p p 0] H (bad || (anyT 3 ts).isNone) (restO (anyT 3 ts)) (str (tokO (anyT 3 ts)).s):=by
 obtain ⟨G,g,a,e⟩:=s187 h (k:=3) (K:=3) rfl (by decide)
 refine ⟨G,g,a,fun M hM R k'=>?_⟩
 obtain ⟨m,rfl⟩:=fuel hM
 rw [call_eq L202]
 unfold B202
 simp (disch:=first | omega | (simp only [List.length_cons,List.length_nil]; omega)) only [EX,reduceIte,Nat.reduceEqDiff,Nat.reduceAdd,Int.reduceEq,Int.reduceLT,Int.reduceLE,reduceCtorEq,Nat.reduceLeDiff,Nat.reduceSub,Nat.reduceLT,x_callv,clv_fn,x_mkfn,List.nil_append,List.append_nil,res_3,res_ct,res_ctt,e,x_fld,fld_s]
/-- A number. -/
theorem s242 (h : At p x ts0 H bad ts) : Asks p x ts0 242 350 [.p p 0] H (bad || (anyT 2 ts).isNone) (restO (anyT 2 ts)) (.i .i64 ((tokO (anyT 2 ts)).n : Int)):=by
 obtain ⟨G,g,a,e⟩:=s187 h (k:=2) (K:=2) rfl (by decide)
 refine ⟨G,g,a,fun M hM R k'=>?_⟩
 obtain ⟨m,rfl⟩:=fuel hM
 rw [call_eq L242]
 unfold B242
 simp (disch:=first | omega | (simp only [List.length_cons,List.length_nil]; omega)) only [EX,reduceIte,Nat.reduceEqDiff,Nat.reduceAdd,Int.reduceEq,Int.reduceLT,Int.reduceLE,reduceCtorEq,Nat.reduceLeDiff,Nat.reduceSub,Nat.reduceLT,x_callv,clv_fn,x_mkfn,List.nil_append,List.append_nil,res_3,res_ct,res_ctt,e,x_fld,fld_n]
end
end Go.Proofs.YtgnfndhmfgghdaaGreatDoor

/- The reader: is a uid ahead,a uid,the end. -/
namespace Go.Proofs.YtgnfndhmfgghdaaGreatDoor
open Go Go.Vai
set_option maxRecDepth 100000
set_option maxHeartbeats 1600000
set_option linter.unusedSimpArgs false
section
variable {p : Pa} {x : AV} {ts0 : List Tok} {H H' : Heap} {bad : Bool} {ts : List Tok} {i : Nat}
/-- Is a uid ahead? -/
def pairT (ts : List Tok) : Bool:=decide ((at0 ts 0).k = 1) && isT 4 tCC (ts.drop 1)
theorem at0_drop (ts : List Tok) : at0 (ts.drop 1) 0 = at0 ts 1:=by
 unfold at0; rw [List.getElem?_drop]
theorem s117 (h : At p x ts0 H bad ts) : Asks p x ts0 117 300 [.p p 0] H bad ts (.b (pairT ts)):=by
 obtain ⟨i,h⟩:=h
 obtain ⟨G1,g1,e1⟩:=s175 h (j:=1) (J:=1) rfl (by decide)
 obtain ⟨G2,eG2,g2,r2,n2⟩:=tok_new G1
 obtain ⟨G3,g3,r3,n3,est3,_⟩:=tok_st g2 r2 rfl (Nat.le_refl _) n2 (cs:=tcs (at0 ts 1)) rfl (tcs_one _)
 have lk:=r3.l 0 rfl
 have ls:=r3.l 1 rfl
 have h3:=h.grow (g1.trans g3)
 obtain ⟨G4,g4,e4⟩:=s175 h3 (j:=0) (J:=0) rfl (by decide)
 have n34:=g4.next
 have lk4:=(r3.grow g4 (by rw [n3]; exact n2)).l 0 rfl
 have ls4:=(r3.grow g4 (by rw [n3]; exact n2)).l 1 rfl
 refine ⟨G4,((g1.trans g3).trans g4).but p,⟨i,h3.grow g4⟩,fun M hM R k'=>?_⟩
 obtain ⟨m,rfl⟩:=fuel hM
 subst eG2
 rw [call_eq L117]
 unfold B117
 unfold pairT
 rw [isT_at (by decide),at0_drop]
 by_cases hk0 : (at0 ts 0).k = 1
 ·have hk0' : ((at0 ts 0).k : Int) = 1:=by omega
  by_cases hk1 : (at0 ts 1).k = 4
  ·have hk1' : ((at0 ts 1).k : Int) = 4:=by omega
   by_cases hs : (at0 ts 1).s = tCC
   ·have hs' : (at0 ts 1).s = [58,58]:=hs
    rw [decide_eq_true hk0,decide_eq_true ⟨hk1,hs⟩]
    simp (disch:=first | omega | (simp only [List.length_cons,List.length_nil]; omega)) only [EX,reduceIte,Nat.reduceEqDiff,Nat.reduceAdd,Int.reduceEq,Int.reduceLT,Int.reduceLE,reduceCtorEq,Nat.reduceLeDiff,Nat.reduceSub,Nat.reduceLT,x_callv,clv_fn,x_mkfn,List.nil_append,List.append_nil,res_3,res_ct,res_ctt,e1,est3,e4,x_fld,fld_k,lk4,ls4,hk0',hk1',s_eql,hs']
   ·have hs' : ¬ (at0 ts 1).s = [58,58]:=hs
    rw [decide_eq_true hk0,decide_eq_false fun q=>hs q.2]
    simp (disch:=first | omega | (simp only [List.length_cons,List.length_nil]; omega)) only [EX,reduceIte,Nat.reduceEqDiff,Nat.reduceAdd,Int.reduceEq,Int.reduceLT,Int.reduceLE,reduceCtorEq,Nat.reduceLeDiff,Nat.reduceSub,Nat.reduceLT,x_callv,clv_fn,x_mkfn,List.nil_append,List.append_nil,res_3,res_ct,res_ctt,e1,est3,e4,x_fld,fld_k,lk4,ls4,hk0',hk1',s_eql,hs']
  ·have hk1' : ¬ ((at0 ts 1).k : Int) = 4:=by omega
   rw [decide_eq_true hk0,decide_eq_false fun q=>hk1 q.1]
   simp (disch:=first | omega | (simp only [List.length_cons,List.length_nil]; omega)) only [EX,reduceIte,Nat.reduceEqDiff,Nat.reduceAdd,Int.reduceEq,Int.reduceLT,Int.reduceLE,reduceCtorEq,Nat.reduceLeDiff,Nat.reduceSub,Nat.reduceLT,x_callv,clv_fn,x_mkfn,List.nil_append,List.append_nil,res_3,res_ct,res_ctt,e1,est3,e4,x_fld,fld_k,lk4,ls4,hk0',hk1',s_eql]
 ·have hk0' : ¬ ((at0 ts 0).k : Int) = 1:=by omega
  rw [decide_eq_false hk0]
  simp (disch:=first | omega | (simp only [List.length_cons,List.length_nil]; omega)) only [EX,reduceIte,Nat.reduceEqDiff,Nat.reduceAdd,Int.reduceEq,Int.reduceLT,Int.reduceLE,reduceCtorEq,Nat.reduceLeDiff,Nat.reduceSub,Nat.reduceLT,x_callv,clv_fn,x_mkfn,List.nil_append,List.append_nil,res_3,res_ct,res_ctt,e1,est3,e4,x_fld,fld_k,lk4,ls4,hk0',s_eql,Bool.false_and]
def uidO : Option (List UInt8 × List UInt8 × List Tok)→List AV
 | some (n,i,_)=>[str n,str i]
 | none=>[str [],str []]
def uidR : Option (List UInt8 × List UInt8 × List Tok)→List Tok
 | some (_,_,r)=>r
 | none=>[]
theorem wName_any (ts : List Tok) : wName ts = (anyT 1 ts).map fun q=>(q.1.s,q.2):=by
 cases ts with
 | nil=>rfl
 | cons t r =>
  show (if t.k = 1 then _ else _) = Option.map _ (if t.k = 1 then _ else _)
  split <;> rfl
theorem wStr_any (ts : List Tok) : wStr ts = (anyT 3 ts).map fun q=>(q.1.s,q.2):=by
 cases ts with
 | nil=>rfl
 | cons t r =>
  show (if t.k = 3 then _ else _) = Option.map _ (if t.k = 3 then _ else _)
  split <;> rfl
theorem uid_new (H : Heap) (a b : List UInt8) : ∃ G,G = H.alloc (.cells false 0 32 2 (setCells [str a,str b] 0 .leaf))∧Grow H G∧Row G H.next 32 [str a,str b]∧H.next.toN < G.next.toN :=
 ⟨_,rfl,Grow.alloc H _,Row.new H 32 [str a,str b],by have:=next_alloc H (.cells false 0 32 2 (setCells [str a,str b] 0 .leaf)); omega⟩
theorem str2_one (a b : List UInt8) : ∀ v ∈ [str a,str b],oneC v = true:=by
 intro v hv
 simp only [List.mem_cons,List.not_mem_nil,or_false] at hv
 rcases hv with rfl | rfl
 ·exact one_str
 ·exact one_str
theorem s151 (h : At p x ts0 H bad ts) : Asks p x ts0 151 600 [.p p 0] H (bad || (wUid ts).isNone) (uidR (wUid ts)) (.ag (uidO (wUid ts))):=by
 obtain ⟨i,h⟩:=h
 have hpn:=h.lt
 obtain ⟨G1,eG1,g1,r1,n1⟩:=uid_new H [] []
 obtain ⟨G2,b2,a2,e2⟩:=s131 ⟨i,h.grow g1⟩
 have g02:=(g1.but p).trans b2
 have r2:=r1.fr b2 (by omega) n1
 have nn2 : H.next.toN < G2.next.toN:=Nat.lt_of_lt_of_le n1 b2.next
 obtain ⟨nm,hnm⟩ : ∃ nm,nm = (tokO (anyT 1 ts)).s:=⟨_,rfl⟩
 rw [← hnm] at e2
 obtain ⟨G3,eG3,g3,r3,n3⟩:=uid_new G2 [] []
 obtain ⟨j2,a2⟩:=a2
 obtain ⟨G4,g4,b4,n4,r4,e4,ld4⟩:=room_st (cs:=[str nm,str []]) (p:=p) (g3.but p) r3 (Nat.le_refl _) n3 (n:=2) rfl rfl (str2_one _ _)
 have a4 : AtI p x ts0 G4 _ _ j2:=a2.wr (a2.grow g3) b4 (Nat.le_refl _)
 have g04:=g02.trans g4
 have r14:=(r2.grow g3 nn2).fr b4 (by omega) (Nat.lt_of_lt_of_le nn2 g3.next)
 have nn4 : H.next.toN < G4.next.toN:=Nat.lt_of_lt_of_le nn2 g4.next
 have h24 : G2.next.toN < G4.next.toN:=by rw [n4]; exact n3
 obtain ⟨G5,b5,a5,e5⟩:=s125 ⟨j2,a4⟩ [58,58]
 obtain ⟨G6,b6,a6,e6⟩:=s73 a5 (isT 4 [58,58] (restO (anyT 1 ts)))
 obtain ⟨G7,b7,a7,e7⟩:=s202 a6
 obtain ⟨si,hsi⟩ : ∃ si,si = (tokO (anyT 3 (if isT 4 [58,58] (restO (anyT 1 ts)) = true then (if isT 4 [58,58] (restO (anyT 1 ts)) = true then (restO (anyT 1 ts)).drop 1 else restO (anyT 1 ts)) else []))).s:=⟨_,rfl⟩
 rw [← hsi] at e7
 have b47:=b5.trans (b6.trans b7)
 have r7:=r4.fr b47 (by omega) h24
 have r17:=r14.fr b47 (by omega) nn4
 have nn7 : H.next.toN < G7.next.toN:=Nat.lt_of_lt_of_le nn4 b47.next
 have h27 : G2.next.toN < G7.next.toN:=Nat.lt_of_lt_of_le h24 b47.next
 obtain ⟨j7,a7⟩:=a7
 obtain ⟨G8,r8,b8,n8,e8⟩:=r7.st_one (off:=1) (v:=str si) h27 (show 1 < 2 by decide) one_str
 have r8 : Row G8 G2.next 32 [str nm,str si]:=r8
 have a8:=a2.wr a7 b8 (Nat.le_refl _)
 have r18:=r17.fr b8 (by omega) nn7
 have nn8 : H.next.toN < G8.next.toN:=by rw [n8]; exact nn7
 have g08 : GrowBut p H G8:=by
  have q:=g04.trans b47
  exact ⟨Nat.le_trans q.next b8.next,fun b hb hne=>by rw [b8.get b (Nat.lt_of_lt_of_le hb q.next) (by intro e; subst e; omega),q.get b hb hne],fun f=>b8.dead (q.dead f)⟩
 have l28:=a8.l2
 have ld8:=r8.la 2 rfl
 have e4 : ∀ (R : Type) (k : HK R),stC 2 (.p G2.next 0) (.ag [str nm,str []]) k (G2.alloc (.cells false 0 32 2 (setCells [str [],str []] 0 .leaf))) = k un G4:=by subst eG3; exact e4
 have fin : (bad || (wUid ts).isNone,uidR (wUid ts),uidO (wUid ts)) = (if (((bad || (anyT 1 ts).isNone) || !isT 4 [58,58] (restO (anyT 1 ts))) || (anyT 3 (if isT 4 [58,58] (restO (anyT 1 ts)) = true then (if isT 4 [58,58] (restO (anyT 1 ts)) = true then (restO (anyT 1 ts)).drop 1 else restO (anyT 1 ts)) else [])).isNone) = true then (true,[],[str [],str []]) else (false,restO (anyT 3 (if isT 4 [58,58] (restO (anyT 1 ts)) = true then (if isT 4 [58,58] (restO (anyT 1 ts)) = true then (restO (anyT 1 ts)).drop 1 else restO (anyT 1 ts)) else [])),[str nm,str si])):=by
  have hbad : bad = true→ts = []:=fun q=>by subst q; exact h.bad_nil
  unfold wUid
  rw [wName_any,hnm,hsi]
  cases h1 : anyT 1 ts with
  | none=>cases bad <;> rfl
  | some q1 =>
   obtain ⟨t1,r1⟩:=q1
   have hb : bad = false:=by
    cases bad with
    | false=>rfl
    | true=>rw [hbad rfl] at h1; cases h1
   subst hb
   cases h2 : isT 4 [58,58] r1 with
   | false=>simp [restO,tokO,tCC,h2,uidO,uidR]
   | true =>
    cases h3 : anyT 3 (r1.drop 1) with
    | none=>rw [List.drop_one] at h3; simp [restO,tokO,tCC,h2,uidO,uidR,wStr_any,h3]
    | some q3=>rw [List.drop_one] at h3; simp [restO,tokO,tCC,h2,uidO,uidR,wStr_any,h3]
 have key : ∀ (cs : List AV) (b : Bool) (ys : List Tok),(bad || (wUid ts).isNone) = b→uidR (wUid ts) = ys→uidO (wUid ts) = cs→AtI p x ts0 G8 b ys j7→(∀ v ∈ cs,oneC v = true)→cs.length = 2 →
   (∀ G9,(∀ (R : Type) (k : HK R),stC 2 (.p H.next 0) (.ag cs) k G8 = k un G9)→(∀ (R : Type) (k : HK R),ldC true 2 (.p H.next 0) k G9 = k (.ag cs) G9)→∀ M,600≤M→∀ (R : Type) (k : HK R),callK tbl (runK tbl M) R (toPa 151) [.p p 0] H k = k (.ag cs) G9) →
   Asks p x ts0 151 600 [.p p 0] H (bad || (wUid ts).isNone) (uidR (wUid ts)) (.ag (uidO (wUid ts))):=by
  rintro cs b ys rfl rfl rfl a8' ho hl hh
  obtain ⟨G9,g9,b9,n9,r9,e9,ld9⟩:=room_st (cs:=uidO (wUid ts)) g08 r18 (Nat.le_refl _) nn8 (n:=2) rfl hl ho
  exact ⟨G9,g9,⟨j7,h.wr a8' b9 (Nat.le_refl _)⟩,hh G9 e9 ld9⟩
 by_cases hq : (((bad || (anyT 1 ts).isNone) || !isT 4 [58,58] (restO (anyT 1 ts))) || (anyT 3 (if isT 4 [58,58] (restO (anyT 1 ts)) = true then (if isT 4 [58,58] (restO (anyT 1 ts)) = true then (restO (anyT 1 ts)).drop 1 else restO (anyT 1 ts)) else [])).isNone) = true
 ·rw [if_pos hq] at fin
  rw [Prod.mk.injEq,Prod.mk.injEq] at fin
  rw [hq] at a8 l28
  refine key [str [],str []] true [] fin.1 fin.2.1 fin.2.2 ?_ (str2_one _ _) rfl fun G9 e9 ld9 M hM R k'=>?_
  ·have:=a8.bad_nil
   rw [this] at a8
   exact a8
  obtain ⟨m,rfl⟩:=fuel hM
  subst eG1 eG3
  rw [call_eq L151]
  unfold B151
  simp (disch:=first | omega | (simp only [List.length_cons,List.length_nil]; omega)) only [EX,reduceIte,Nat.reduceEqDiff,Nat.reduceAdd,Int.reduceEq,Int.reduceLT,Int.reduceLE,reduceCtorEq,Nat.reduceLeDiff,Nat.reduceSub,Nat.reduceLT,x_callv,clv_fn,x_mkfn,List.nil_append,List.append_nil,res_3,res_ct,res_ctt,e2,e4,e5,e6,e7,e8,l28,e9,ld9]
 ·rw [if_neg hq] at fin
  rw [Prod.mk.injEq,Prod.mk.injEq] at fin
  have hq : _ = false:=Bool.eq_false_iff.mpr hq
  rw [hq] at a8 l28
  refine key [str nm,str si] false _ fin.1 fin.2.1 fin.2.2 a8 (str2_one _ _) rfl fun G9 e9 ld9 M hM R k'=>?_
  obtain ⟨m,rfl⟩:=fuel hM
  subst eG1 eG3
  rw [call_eq L151]
  unfold B151
  simp (disch:=first | omega | (simp only [List.length_cons,List.length_nil]; omega)) only [EX,reduceIte,Nat.reduceEqDiff,Nat.reduceAdd,Int.reduceEq,Int.reduceLT,Int.reduceLE,reduceCtorEq,Nat.reduceLeDiff,Nat.reduceSub,Nat.reduceLT,x_callv,clv_fn,x_mkfn,List.nil_append,List.append_nil,res_3,res_ct,res_ctt,e2,e4,e5,e6,e7,e8,l28,ld8,e9,ld9]
theorem s57 (h : At p x ts0 H bad ts) {R : Type} {k : HK R} {M : Nat} (hM : 50≤M) : callK tbl (runK tbl M) R (toPa 57) [.p p 0] H k = k (.i .i64 (if bad = true ∨ ts ≠ [] then 13 else 0)) H:=by
 obtain ⟨i,h⟩:=h
 have l0:=h.l0
 have l1:=h.l1
 have l2:=h.l2
 have ax:=h.inn.av.1
 have hl : ∀ (R : Type) (k : HK R) (G : Heap),lenC false x k G = k (.i .i64 (ts0.length : Int)) G:=fun R k G=>h.inn.lenC
 obtain ⟨m,rfl⟩:=fuel hM
 rw [call_eq L57]
 unfold B57
 cases bad with
 | true =>
  rw [if_pos (.inl rfl)]
  simp (disch:=first | omega | (simp only [List.length_cons,List.length_nil]; omega)) only [EX,reduceIte,Nat.reduceEqDiff,Nat.reduceAdd,Int.reduceEq,Int.reduceLT,Int.reduceLE,reduceCtorEq,Nat.reduceLeDiff,Nat.reduceSub,Nat.reduceLT,x_callv,clv_fn,x_mkfn,List.nil_append,List.append_nil,res_3,res_ct,res_ctt,l0,l1,l2,hl,ax]
 | false =>
  have hts : ts = ts0.drop i:=h.ts
  by_cases q : i < ts0.length
  ·have q' : (i : Int) < (ts0.length : Int):=by omega
   rw [if_pos (.inr (by rw [hts]; intro e; have:=congrArg List.length e; rw [List.length_drop,List.length_nil] at this; omega))]
   simp (disch:=first | omega | (simp only [List.length_cons,List.length_nil]; omega)) only [EX,reduceIte,Nat.reduceEqDiff,Nat.reduceAdd,Int.reduceEq,Int.reduceLT,Int.reduceLE,reduceCtorEq,Nat.reduceLeDiff,Nat.reduceSub,Nat.reduceLT,x_callv,clv_fn,x_mkfn,List.nil_append,List.append_nil,res_3,res_ct,res_ctt,l0,l1,l2,hl,ax,q']
  ·have q' : ¬ (i : Int) < (ts0.length : Int):=by omega
   rw [if_neg (by rintro (e | e); exact absurd e (by decide); exact e (by rw [hts]; exact List.drop_of_length_le (by omega)))]
   simp (disch:=first | omega | (simp only [List.length_cons,List.length_nil]; omega)) only [EX,reduceIte,Nat.reduceEqDiff,Nat.reduceAdd,Int.reduceEq,Int.reduceLT,Int.reduceLE,reduceCtorEq,Nat.reduceLeDiff,Nat.reduceSub,Nat.reduceLT,x_callv,clv_fn,x_mkfn,List.nil_append,List.append_nil,res_3,res_ct,res_ctt,l0,l1,l2,hl,ax,q']
end
end Go.Proofs.YtgnfndhmfgghdaaGreatDoor

/- Trees as they lie in memory. -/
namespace Go.Proofs.YtgnfndhmfgghdaaGreatDoor
open Go Go.Vai
set_option maxRecDepth 100000
set_option maxHeartbeats 1600000
set_option linter.unusedSimpArgs false
/-- An expression's cells. -/
def ec (op : Nat) (b : Bool) (n : Int) (s t i : List UInt8) (xk : AV) : List AV:=[.i .i64 (op : Int),.b b,.i .i64 n,str s,str t,str i,xk]
def zs7 : List AV:=[.i .i64 0,.b false,.i .i64 0,str [],str [],str [],.ns]
theorem ec_one {op : Nat} {b : Bool} {n : Int} {s t i : List UInt8} {xk : AV} (h : oneC xk = true) : ∀ v ∈ ec op b n s t i xk,oneC v = true:=by
 intro v hv
 simp only [ec,List.mem_cons,List.not_mem_nil,or_false] at hv
 rcases hv with rfl | rfl | rfl | rfl | rfl | rfl | rfl
 ·exact one_i
 ·exact one_b
 ·exact one_i
 ·exact one_str
 ·exact one_str
 ·exact one_str
 ·exact h
theorem ec_av {op : Nat} {b : Bool} {n : Int} {s t i : List UInt8} {xk : AV} (h : avEq1 xk xk = true) : avEq (.ag (ec op b n s t i xk)) (.ag (ec op b n s t i xk)) = true:=by
 refine avEq_ag ?_
 intro v hv
 simp only [ec,List.mem_cons,List.not_mem_nil,or_false] at hv
 rcases hv with rfl | rfl | rfl | rfl | rfl | rfl | rfl
 ·exact av1_i
 ·exact av1_b
 ·exact av1_i
 ·exact av1_str
 ·exact av1_str
 ·exact av1_str
 ·exact h
/-- Seven cells that are an expression's,well or ill. -/
def Sev (cs : List AV) : Prop:=cs.length = 7∧(∀ v ∈ cs,oneC v = true)∧avEq (.ag cs) (.ag cs) = true
theorem sev_ec {op : Nat} {b : Bool} {n : Int} {s t i : List UInt8} {xk : AV} (h : oneC xk = true) (h2 : avEq1 xk xk = true) : Sev (ec op b n s t i xk):=⟨rfl,ec_one h,ec_av h2⟩
theorem sev_0 : Sev zs7:=sev_ec (op:=0) (b:=false) (n:=0) (s:=[]) (t:=[]) (i:=[]) (xk:=.ns) rfl rfl
def KidsE (S : Pa→Prop) (P : List AV→Ex→Prop) (H : Heap) (x : AV) (kids : List Ex) : Prop :=
 (x = .ns∧kids = []) ∨ ∃ a c L,x = .sl a 0 kids.length c 7∧S a∧a.toN < H.next.toN∧Row H a 35 L∧L.length = kids.length * 7∧∀ j e,kids[j]? = some e→P ((L.drop (j * 7)).take 7) e
/-- A tree as it lies in memory,at most so deep,its blocks all of some kind. -/
def ExIn (S : Pa→Prop) (H : Heap) : Nat→List AV→Ex→Prop
 | 0,_,_=>False
 | d + 1,cs,.mk op b n s t i kids=>∃ xk,cs = ec op b n s t i xk∧KidsE S (ExIn S H d) H xk kids
theorem ExIn.move {S S' : Pa→Prop} {H H' : Heap} (hs : ∀ a,S a→a.toN < H.next.toN→S' a) (hn : H.next.toN≤H'.next.toN) (hg : ∀ a,S a→a.toN < H.next.toN→H'.get a = H.get a) :
  ∀ (d : Nat) (cs : List AV) (e : Ex),ExIn S H d cs e→ExIn S' H' d cs e
 | 0,_,_,h=>h
 | d + 1,cs,.mk op b n s t i kids,h=>by
  obtain ⟨xk,e,h⟩:=h
  refine ⟨xk,e,?_⟩
  obtain h | ⟨a,c,L,hx,ha,hb,⟨cc,k1,k2⟩,k3,k4⟩:=h
  ·exact Or.inl h
  ·exact Or.inr ⟨a,c,L,hx,hs a ha hb,Nat.lt_of_lt_of_le hb hn,⟨cc,by rw [hg a ha hb,k1],k2⟩,k3,fun j e hj=>ExIn.move hs hn hg d _ _ (k4 j e hj)⟩
theorem ExIn.sev {S : Pa→Prop} {H : Heap} : ∀ {d : Nat} {cs : List AV} {e : Ex},ExIn S H d cs e→Sev cs
 | 0,_,_,h=>h.elim
 | d + 1,cs,.mk op b n s t i kids,h=>by
  obtain ⟨xk,rfl,h⟩:=h
  obtain ⟨rfl,_⟩ | ⟨a,c,L,rfl,_⟩:=h
  ·exact sev_ec rfl rfl
  ·exact sev_ec rfl av1_sl
/-- One that is put deeper. -/
theorem ExIn.up {S : Pa→Prop} {H : Heap} : ∀ {d : Nat} {cs : List AV} {e : Ex},ExIn S H d cs e→∀ {d' : Nat},d≤d'→ExIn S H d' cs e
 | 0,_,_,h,_,_=>h.elim
 | d + 1,cs,.mk op b n s t i kids,h,d',hd=>by
  obtain ⟨xk,e,h⟩:=h
  obtain ⟨d'',rfl⟩ : ∃ d'',d' = d'' + 1:=⟨d' - 1,by omega⟩
  refine ⟨xk,e,?_⟩
  obtain h | ⟨a,c,L,hx,ha,hb,hr,k3,k4⟩:=h
  ·exact Or.inl h
  ·exact Or.inr ⟨a,c,L,hx,ha,hb,hr,k3,fun j e hj=>(k4 j e hj).up (by omega)⟩
theorem dep_le : ∀ {ks : List Ex} {j : Nat} {e : Ex},ks[j]? = some e→dep e≤deps ks
 | [],_,_,h=>by cases h
 | k :: ks,0,e,h=>by
  cases h
  unfold deps
  exact Nat.le_max_left _ _
 | k :: ks,j + 1,e,h=>by
  have h : ks[j]? = some e:=h
  unfold deps
  exact Nat.le_trans (dep_le h) (Nat.le_max_right _ _)
/-- A tree in memory. -/
def TreeS (S : Pa→Prop) (H : Heap) (cs : List AV) (e : Ex) : Prop:=ExIn S H (dep e) cs e
theorem TreeS.move {S S' : Pa→Prop} {H H' : Heap} {cs : List AV} {e : Ex} (h : TreeS S H cs e) (hs : ∀ a,S a→a.toN < H.next.toN→S' a) (hn : H.next.toN≤H'.next.toN) (hg : ∀ a,S a→a.toN < H.next.toN→H'.get a = H.get a) : TreeS S' H' cs e :=
 ExIn.move hs hn hg _ _ _ h
theorem TreeS.sev {S : Pa→Prop} {H : Heap} {cs : List AV} {e : Ex} (h : TreeS S H cs e) : Sev cs:=ExIn.sev h
theorem TreeS.leaf {S : Pa→Prop} {H : Heap} {op : Nat} {b : Bool} {n : Int} {s t i : List UInt8} : TreeS S H (ec op b n s t i .ns) (.mk op b n s t i []):=by
 unfold TreeS dep
 exact ⟨.ns,rfl,.inl ⟨rfl,rfl⟩⟩
theorem TreeS.node {S : Pa→Prop} {H : Heap} {op : Nat} {b : Bool} {n : Int} {s t i : List UInt8} {kids : List Ex} {a : Pa} {c : Option Nat} {L : List AV} (hS : S a) (ha : a.toN < H.next.toN) (hr : Row H a 35 L) (hL : L.length = kids.length * 7)
  (hk : ∀ j e,kids[j]? = some e→TreeS S H ((L.drop (j * 7)).take 7) e) : TreeS S H (ec op b n s t i (.sl a 0 kids.length c 7)) (.mk op b n s t i kids):=by
 unfold TreeS dep
 exact ⟨_,rfl,.inr ⟨a,c,L,rfl,hS,ha,hr,hL,fun j e hj=>ExIn.up (hk j e hj) (dep_le hj)⟩⟩
/-- With one kid. -/
theorem TreeS.node1 {S : Pa→Prop} {H : Heap} {op : Nat} {b : Bool} {n : Int} {s t i : List UInt8} {e1 : Ex} {a : Pa} {c : Option Nat} {c1 : List AV} (hS : S a) (ha : a.toN < H.next.toN) (hr : Row H a 35 c1)
  (h1 : TreeS S H c1 e1) : TreeS S H (ec op b n s t i (.sl a 0 1 c 7)) (.mk op b n s t i [e1]):=by
 have l1:=h1.sev.1
 refine TreeS.node (kids:=[e1]) hS ha hr (by rw [l1]; rfl) fun j e hj=>?_
 match j,hj with
 | 0,hj =>
  cases hj
  rw [Nat.zero_mul,List.drop_zero,List.take_of_length_le (by omega)]
  exact h1
/-- With two. -/
theorem TreeS.node2 {S : Pa→Prop} {H : Heap} {op : Nat} {b : Bool} {n : Int} {s t i : List UInt8} {e1 e2 : Ex} {a : Pa} {c : Option Nat} {c1 c2 : List AV} (hS : S a) (ha : a.toN < H.next.toN) (hr : Row H a 35 (c1 ++ c2))
  (h1 : TreeS S H c1 e1) (h2 : TreeS S H c2 e2) : TreeS S H (ec op b n s t i (.sl a 0 2 c 7)) (.mk op b n s t i [e1,e2]):=by
 have l1:=h1.sev.1
 have l2:=h2.sev.1
 refine TreeS.node (kids:=[e1,e2]) hS ha hr (by rw [List.length_append,l1,l2]; rfl) fun j e hj=>?_
 match j,hj with
 | 0,hj =>
  cases hj
  rw [Nat.zero_mul,List.drop_zero,← l1,List.take_left]
  exact h1
 | 1,hj =>
  cases hj
  rw [Nat.one_mul,← l1,List.drop_left,List.take_of_length_le (by omega)]
  exact h2
/-- With three. -/
theorem TreeS.node3 {S : Pa→Prop} {H : Heap} {op : Nat} {b : Bool} {n : Int} {s t i : List UInt8} {e1 e2 e3 : Ex} {a : Pa} {c : Option Nat} {c1 c2 c3 : List AV} (hS : S a) (ha : a.toN < H.next.toN) (hr : Row H a 35 (c1 ++ (c2 ++ c3)))
  (h1 : TreeS S H c1 e1) (h2 : TreeS S H c2 e2) (h3 : TreeS S H c3 e3) : TreeS S H (ec op b n s t i (.sl a 0 3 c 7)) (.mk op b n s t i [e1,e2,e3]):=by
 have l1:=h1.sev.1
 have l2:=h2.sev.1
 have l3:=h3.sev.1
 refine TreeS.node (kids:=[e1,e2,e3]) hS ha hr (by rw [List.length_append,List.length_append,l1,l2,l3]; rfl) fun j e hj=>?_
 match j,hj with
 | 0,hj =>
  cases hj
  rw [Nat.zero_mul,List.drop_zero,← l1,List.take_left]
  exact h1
 | 1,hj =>
  cases hj
  rw [Nat.one_mul,show (List.drop 7 (c1 ++ (c2 ++ c3))) = c2 ++ c3 by rw [← l1,List.drop_left],← l2,List.take_left]
  exact h2
 | 2,hj =>
  cases hj
  rw [show (2 * 7 = 7 + 7) from rfl,← List.drop_drop,show (List.drop 7 (c1 ++ (c2 ++ c3))) = c2 ++ c3 by rw [← l1,List.drop_left],show (List.drop 7 (c2 ++ c3)) = c3 by rw [← l2,List.drop_left],List.take_of_length_le (by omega)]
  exact h3
/-! Seven cells filled into a row. -/
theorem seven {cs : List AV} (h : cs.length = 7) : ∃ a b c d e f g,cs = [a,b,c,d,e,f,g]:=by
 match cs,h with
 | [a,b,c,d,e,f,g],_=>exact ⟨a,b,c,d,e,f,g,rfl⟩
section
variable {R : Type} {f : List AV→Option R} {c1 c2 c3 : List AV}
theorem fill7_1 (h1 : c1.length = 7) : fillV [(0,7,.ag c1)] [.i .i64 0,.b false,.i .i64 0,str [],str [],str [],.ns] f = f c1:=by
 obtain ⟨a,b,c,d,e,g,i,rfl⟩:=seven h1
 rw [fill_agn (n:=7) rfl (Nat.le_of_ble_eq_true rfl)]; rfl
theorem fill7_2 (h1 : c1.length = 7) (h2 : c2.length = 7) : fillV [(0,7,.ag c1),(7,7,.ag c2)] [.i .i64 0,.b false,.i .i64 0,str [],str [],str [],.ns,.i .i64 0,.b false,.i .i64 0,str [],str [],str [],.ns] f = f (c1 ++ c2):=by
 obtain ⟨a,b,c,d,e,g,i,rfl⟩:=seven h1
 obtain ⟨a',b',c',d',e',g',i',rfl⟩:=seven h2
 rw [fill_agn (n:=7) rfl (Nat.le_of_ble_eq_true rfl),fill_agn (n:=7) rfl (Nat.le_of_ble_eq_true rfl)]; rfl
theorem fill7_3 (h1 : c1.length = 7) (h2 : c2.length = 7) (h3 : c3.length = 7) : fillV [(0,7,.ag c1),(7,7,.ag c2),(14,7,.ag c3)] [.i .i64 0,.b false,.i .i64 0,str [],str [],str [],.ns,.i .i64 0,.b false,.i .i64 0,str [],str [],str [],.ns,.i .i64 0,.b false,.i .i64 0,str [],str [],str [],.ns] f = f (c1 ++ (c2 ++ c3)):=by
 obtain ⟨a,b,c,d,e,g,i,rfl⟩:=seven h1
 obtain ⟨a',b',c',d',e',g',i',rfl⟩:=seven h2
 obtain ⟨a'',b'',c'',d'',e'',g'',i'',rfl⟩:=seven h3
 rw [fill_agn (n:=7) rfl (Nat.le_of_ble_eq_true rfl),fill_agn (n:=7) rfl (Nat.le_of_ble_eq_true rfl),fill_agn (n:=7) rfl (Nat.le_of_ble_eq_true rfl)]; rfl
theorem fill_u {n i : List UInt8} {op : Nat} : fillV [(0,1,.i .i64 (op : Int)),(4,2,.ag [str n,str i])] [.i .i64 0,.b false,.i .i64 0,str [],str [],str [],.ns] f = f (ec op false 0 [] n i .ns):=rfl
end
end Go.Proofs.YtgnfndhmfgghdaaGreatDoor

/- Operands that lean to the left (reader.left). -/
namespace Go.Proofs.YtgnfndhmfgghdaaGreatDoor
open Go Go.Vai
set_option maxRecDepth 100000
set_option maxHeartbeats 3200000
set_option linter.unusedSimpArgs false
def cost (n : Nat) : Nat:=3000 * (n + 1)
theorem _root_.Go.Vai.GrowBut.cat {p q : Pa} {H0 G G' : Heap} (g : GrowBut p H0 G) (b : GrowBut q G G') (hq : H0.next.toN≤q.toN) : GrowBut p H0 G' :=
 ⟨Nat.le_trans g.next b.next,fun c hc hne=>by rw [b.get c (Nat.lt_of_lt_of_le hc g.next) (by intro e; subst e; omega),g.get c hc hne],fun f=>b.dead (g.dead f)⟩
theorem but_put {G : Heap} {a : Pa} (b : Blk) (h1 : a.toN < G.next.toN) : GrowBut a G (G.put a b) :=
 ⟨by rw [next_put]; exact Nat.le_refl _,fun c _ hne=>by rw [Heap.get_put,if_neg fun q=>hne q.symm],fun f c hc=>by
  rw [next_put] at hc
  rw [Heap.get_put,if_neg (by intro q; subst q; omega)]
  exact f c hc⟩
theorem put_row {G : Heap} {a : Pa} {e : Nat} {l : List AV} : Row (G.put a (.cells false 0 e l.length (setCells l 0 .leaf))) a e l:=⟨_,get_put ..,fun j _=>cell_at l j⟩
theorem ex_new (H : Heap) : ∃ G,G = H.alloc (.cells false 0 35 7 (setCells [.i .i64 0,.b false,.i .i64 0,str [],str [],str [],.ns] 0 .leaf))∧Grow H G∧Row G H.next 35 zs7∧H.next.toN < G.next.toN :=
 ⟨_,rfl,Grow.alloc H _,Row.new H 35 zs7,by have:=next_alloc H (.cells false 0 35 7 (setCells [.i .i64 0,.b false,.i .i64 0,str [],str [],str [],.ns] 0 .leaf)); omega⟩
abbrev New (n : Nat) : Pa→Prop:=fun a=>n≤a.toN
section
variable {p : Pa} {x : AV} {ts0 : List Tok} {H H' : Heap} {bad : Bool} {ts : List Tok} {i : Nat}
/-- What a reading leaves. -/
def Res (p : Pa) (x : AV) (ts0 : List Tok) (S : Pa→Prop) (H : Heap) (bad : Bool) (cs : List AV) (r : Option (Ex × List Tok)) : Prop :=
 match r with
 | some (e,q)=>At p x ts0 H bad q∧TreeS S H cs e
 | none=>At p x ts0 H true []
/-- What a function of the reader reads. -/
def Reads (p : Pa) (x : AV) (ts0 : List Tok) (f c : Nat) (args : List AV) (r : Option (Ex × List Tok)) (H : Heap) (bad : Bool) : Prop :=
 ∃ cs H',GrowBut p H H'∧Sev cs∧Res p x ts0 (New H.next.toN) H' bad cs r∧∀ M,c≤M→∀ (R : Type) (k : HK R),callK tbl (runK tbl M) R (toPa f) args H k = k (.ag cs) H'
noncomputable def Lp176 : AC:=(.loop (.seq (.seq (.ops [O 13 (.mv (T 8)),O 14 (.bin .neq .no (T 13) (K (.i .i64 0)))]) (.cond (T 14) .skip (.exit 0))) (.seq (.block 1 (.draw 1 [(O 19 (.mv (T 1)),⟨0,0⟩),(O 20 (.callv (T 19) []),⟨3,0⟩),(O 17 (.mv (T 8)),⟨0,0⟩),(O 18 (.ld true 7 (T 7)),⟨1,0⟩),(O 21 (.bsl 35 7 2 [(.i .i64 0),(.b false),(.i .i64 0),(str []),(str []),(str []),.ns,(.i .i64 0),(.b false),(.i .i64 0),(str []),(str []),(str []),.ns] [(0,7,(T 18)),(7,7,(T 20))]),⟨2,1⟩),(O 22 (.build [(.i .i64 0),(.b false),(.i .i64 0),(str []),(str []),(str []),.ns] [(0,1,(T 17)),(6,1,(T 21))]),⟨0,1⟩),(O_ (.st 7 (T 7) (T 22)),⟨3,1⟩)])) (.ops [O 15 (.mv (T 2)),O 16 (.callv (T 15) []),O 8 (.mv (T 16))]))))
theorem B176_eq : B176 = (.seq (.ops [O 6 (.new 35 [(.i .i64 0),(.b false),(.i .i64 0),(str []),(str []),(str []),.ns])]) (.seq (.ops [O 9 (.mv (T 1)),O 10 (.callv (T 9) []),O 7 (.new 35 [(.i .i64 0),(.b false),(.i .i64 0),(str []),(str []),(str []),.ns]),O_ (.st 7 (T 7) (T 10))]) (.seq (.seq (.ops [O 11 (.mv (T 2)),O 12 (.callv (T 11) []),O 8 (.mv (T 12))]) (.block 0 Lp176)) (.seq (.ops [O 23 (.ld true 7 (T 7)),O_ (.st 7 (T 6) (T 23))]) .ret)))):=rfl
structure F176 (f g : Nat) (p box q6 q : Pa) (s : Nat) (fr : Tr AV) : Prop where
 f1 : V fr 1 = .fn (.func f) [.p p 0] []
 f2 : V fr 2 = .fn (.func g) [] [.p box 0]
 f6 : V fr 6 = .p q6 0
 f7 : V fr 7 = .p q 0
 f8 : V fr 8 = .i .i64 (s : Int)
/-- No sign: the loop is left. -/
theorem left_end {f g : Nat} {box q6 q : Pa} {G : Heap} : ∀ fr,F176 f g p box q6 q 0 fr→∀ M,20≤M→∀ (R : Type) (K : XK R) (res : Option R),(∀ fr',V fr' 6 = .p q6 0→V fr' 7 = .p q 0→K (.exit 0) fr' G = res)→runK tbl M R Lp176 fr G K = res:=by
 intro fr ⟨f1,f2,f6,f7,f8⟩ M hM R K res hr
 obtain ⟨m,rfl⟩:=fuel hM
 have f8 : V fr 8 = .i .i64 0:=f8
 unfold Lp176
 rw [run_loop]
 simp only [EX,reduceIte,Nat.reduceEqDiff,Nat.reduceAdd,Int.reduceEq,Int.reduceLT,Int.reduceLE,reduceCtorEq,Nat.reduceLeDiff,Nat.reduceSub,Nat.reduceLT,x_callv,clv_fn,x_mkfn,List.nil_append,List.append_nil,res_3,res_ct,res_ctt,f8]
 refine hr _ ?_ ?_
 all_goals simp only [V_S,Nat.reduceEqDiff,reduceIte]
 all_goals assumption
/-- What a sign's asking and the next operand's reading tell. -/
structure Lev (p : Pa) (x : AV) (ts0 : List Tok) (box : Pa) (f g l n c : Nat) (r : Rd) : Prop where
 lt : Dn r
 sign : ∀ {H bad ts},At p x ts0 H bad ts→Row H box 106 [.p p 0]→box.toN < H.next.toN→box ≠ p→Asks p x ts0 g 400 [.p box 0] H bad (if sgL l ts ≠ 0 then ts.drop 1 else ts) (.i .i64 (sgL l ts : Int))
 next : ∀ {H bad ts},At p x ts0 H bad ts→8 * ts.length + l≤n→Reads p x ts0 f c [.p p 0] (r ts) H bad
theorem sgL_nil (l : Nat) : sgL l [] = 0:=by
 by_cases h : sgL l [] = 0
 ·exact h
 ·have:=sgL_lt h; exact absurd this (Nat.not_lt_zero _)
theorem left_go {box : Pa} {f g l n c : Nat} {r : Rd} (L : Lev p x ts0 box f g l n c r) {H0 : Heap} {b0 : Bool} {t0 : List Tok} (h0 : At p x ts0 H0 b0 t0) (hbox : Row H0 box 106 [.p p 0]) (hb0 : box.toN < H0.next.toN) (hbp : box ≠ p)
  {q6 q : Pa} (h6 : H0.next.toN≤q6.toN) (h67 : q6.toN < q.toN) :
  ∀ (k : Nat) (ts : List Tok) (e : Ex) (cs : List AV) (G : Heap) (bad : Bool),ts.length≤k→k≤200→8 * ts.length + l≤n→GrowBut p H0 G→At p x ts0 G bad (if sgL l ts ≠ 0 then ts.drop 1 else ts)→Row G q6 35 zs7→Row G q 35 cs→q.toN < G.next.toN →
   TreeS (fun a=>q6.toN < a.toN∧a ≠ q) G cs e →
   ∃ cs' G',GrowBut p H0 G'∧Row G' q6 35 zs7∧Row G' q 35 cs'∧q.toN < G'.next.toN∧Sev cs'∧Res p x ts0 (fun a=>q6.toN < a.toN∧a ≠ q) G' bad cs' (lftR r l k e ts) ∧
    ∀ fr,F176 f g p box q6 q (sgL l ts) fr→∀ M,c + 500 + k≤M→∀ (R : Type) (K : XK R) (res : Option R),(∀ fr',V fr' 6 = .p q6 0→V fr' 7 = .p q 0→K (.exit 0) fr' G' = res)→runK tbl M R Lp176 fr G K = res:=by
 intro k
 induction k with
 | zero =>
  intro ts e cs G bad hk _ _ g0 a r6 r7 hq tr
  obtain rfl : ts = []:=List.eq_nil_of_length_eq_zero (by omega)
  rw [sgL_nil] at a ⊢
  exact ⟨cs,G,g0,r6,r7,hq,tr.sev,⟨a,tr⟩,fun fr F M hM=>left_end fr F M (by omega)⟩
 | succ k ih =>
  intro ts e cs G bad hk hk2 hn g0 a r6 r7 hq tr
  by_cases hs : sgL l ts = 0
  ·have el : lftR r l (k + 1) e ts = some (e,ts):=by unfold lftR; rw [if_pos hs]
   rw [hs] at a ⊢
   rw [el]
   rw [if_neg (by decide)] at a
   exact ⟨cs,G,g0,r6,r7,hq,tr.sev,⟨a,tr⟩,fun fr F M hM=>left_end fr F M (by omega)⟩
  ·rw [if_pos hs] at a
   have hlt:=sgL_lt hs
   have hpn:=h0.lt
   have gb : Grow G (G.bump 1):=Grow.bump 1 G
   have nb : (G.bump 1).next.toN = G.next.toN + 1:=next_bump
   obtain ⟨ia,ai⟩:=a
   obtain ⟨cs2,G2,b2,sv2,res2,e2⟩:=L.next ⟨ia,ai.grow gb⟩ (by omega)
   have n2:=b2.next
   have sv:=tr.sev
   obtain ⟨G3,eG3⟩ : ∃ G3,G3 = G2.put G.next (.cells false 0 35 14 (setCells (cs ++ cs2) 0 .leaf)):=⟨_,rfl⟩
   have hl14 : (cs ++ cs2).length = 14:=by rw [List.length_append,sv.1,sv2.1]
   have hGn : H0.next.toN≤G.next.toN:=g0.next
   have b3 : GrowBut G.next G2 G3:=by rw [eG3]; exact but_put _ (by omega)
   have n3 : G3.next = G2.next:=by rw [eG3] <;> exact next_put
   have rk3 : Row G3 G.next 35 (cs ++ cs2):=by rw [eG3,← hl14]; exact put_row
   have g02 : GrowBut p H0 G2:=(g0.trans (gb.but p)).trans b2
   have g03 : GrowBut p H0 G3:=g02.cat b3 hGn
   have r7b:=r7.grow gb hq
   have r72:=r7b.fr b2 (by omega) (by omega)
   have r73:=r72.fr b3 (by omega) (by omega)
   have r63:=((r6.grow gb (by omega)).fr b2 (by omega) (by omega)).fr b3 (by omega) (by omega)
   obtain ⟨G4,g04,b4,n4,r74,e4,_⟩:=room_st (cs:=ec (sgL l ts) false 0 [] [] [] (.sl G.next 0 2 (some 2) 7)) g03 r73 (by omega) (by rw [n3]; omega) (n:=7) sv.1 rfl (ec_one rfl)
   have r64:=r63.fr b4 (by omega) (by rw [n3]; omega)
   have rk4:=rk3.fr b4 (by omega) (by rw [n3]; omega)
   have hbox4 : Row G4 box 106 [.p p 0]:=hbox.but g04 hb0 hbp
   have at4 : ∀ {b t},At p x ts0 G2 b t→At p x ts0 G4 b t:=by
    rintro b t ⟨j,aj⟩
    obtain ⟨j0,h0⟩:=h0
    exact ⟨j,h0.wr (h0.wr aj b3 hGn) b4 (by omega)⟩
   have c7b:=(r7b.la 7 sv.1.symm)
   have c72:=(r72.la 7 sv.1.symm)
   have hlf : ∀ (R : Type) (F : List AV→Option R),fillV [(0,7,.ag cs),(7,7,.ag cs2)] [.i .i64 0,.b false,.i .i64 0,str [],str [],str [],.ns,.i .i64 0,.b false,.i .i64 0,str [],str [],str [],.ns] F = F (cs ++ cs2):=fun R F=>fill7_2 sv.1 sv2.1
   have cav:=sv.2.2
   have hs' : ¬ ((sgL l ts : Nat) : Int) = 0:=by omega
   have el : lftR r l (k + 1) e ts = match r (ts.drop 1) with | none=>none | some (b,u)=>lftR r l k (two (sgL l ts) e b) u:=by
    conv=>lhs; unfold lftR
    rw [if_neg hs]
    rfl
   have e4 : ∀ (R : Type) (k : HK R),stC 7 (.p q 0) (.ag [.i .i64 (sgL l ts : Int),.b false,.i .i64 0,str [],str [],str [],.sl G.next 0 2 (some 2) 7]) k G3 = k un G4:=e4
   cases hr : r (ts.drop 1) with
   | none =>
    rw [hr] at res2 el
    obtain ⟨G5,b5,a5,e5⟩:=L.sign (at4 res2) hbox4 (Nat.lt_of_lt_of_le hb0 g04.next) hbp
    rw [sgL_nil] at a5 e5
    refine ⟨_,G5,g04.trans b5,r64.fr b5 (by omega) (by rw [n4,n3]; omega),r74.fr b5 (by omega) (by rw [n4,n3]; omega),by have:=b5.next; rw [n4,n3] at this; omega,sev_ec rfl av1_sl,by rw [el]; exact a5,fun fr ⟨f1,f2,f6,f7,f8⟩ M hM R K res hr=>?_⟩
    obtain ⟨m,rfl⟩ : ∃ m,M = (m + c + k) + 501:=⟨M - (c + 500 + (k + 1)),by omega⟩
    unfold Lp176
    rw [run_loop]
    simp (disch:=first | omega | (simp only [List.length_cons,List.length_nil]; omega)) only [EX,reduceIte,Nat.reduceEqDiff,Nat.reduceAdd,Int.reduceEq,Int.reduceLT,Int.reduceLE,reduceCtorEq,Nat.reduceLeDiff,Nat.reduceSub,Nat.reduceLT,x_callv,clv_fn,x_mkfn,List.nil_append,List.append_nil,res_3,res_ct,res_ctt,f1,f2,f6,f7,f8,hs',c7b,e2,c72,cav,hlf]
    rw [hl14,← eG3]
    simp (disch:=first | omega | (simp only [List.length_cons,List.length_nil]; omega)) only [EX,reduceIte,Nat.reduceEqDiff,Nat.reduceAdd,Int.reduceEq,Int.reduceLT,Int.reduceLE,reduceCtorEq,Nat.reduceLeDiff,Nat.reduceSub,Nat.reduceLT,x_callv,clv_fn,x_mkfn,List.nil_append,List.append_nil,res_3,res_ct,res_ctt,f1,f2,f6,f7,f8,e4,e5]
    refine left_end (p:=p) (box:=box) (q6:=q6) (q:=q) (f:=f) (g:=g) _ ⟨?_,?_,?_,?_,?_⟩ _ (by omega) R K res hr
    all_goals simp only [V_S,Nat.reduceEqDiff,reduceIte]
    all_goals first | assumption | rfl
   | some v =>
    obtain ⟨b,u⟩:=v
    rw [hr] at res2 el
    obtain ⟨at2,tr2⟩:=res2
    have hu:=L.lt _ _ _ hr
    obtain ⟨G5,b5,a5,e5⟩:=L.sign (at4 at2) hbox4 (Nat.lt_of_lt_of_le hb0 g04.next) hbp
    have hn4 : G4.next.toN = G2.next.toN:=by rw [n4,n3]
    have get24 : ∀ a : Pa,a.toN < G2.next.toN→a ≠ G.next→a ≠ q→G4.get a = G2.get a:=fun a ha h1 h2=>by
     rw [b4.get a (by rw [n3]; exact ha) h2,b3.get a ha h1]
    have tr4 : TreeS (fun a=>q6.toN < a.toN∧a ≠ q) G4 cs e:=tr.move (fun _ h _=>h) (by omega) fun a ⟨h1,h2⟩ ha=>by
     rw [get24 a (by omega) (by intro e; subst e; omega) h2,b2.get a (by omega) (by intro e; subst e; omega),gb.get a ha]
    have tr24 : TreeS (fun a=>q6.toN < a.toN∧a ≠ q) G4 cs2 b:=tr2.move (fun a h _=>⟨by omega,by intro e; subst e; omega⟩) (by omega) fun a h ha=>by
     rw [get24 a ha (by intro e; subst e; omega) (by intro e; subst e; omega)]
    have trn : TreeS (fun a=>q6.toN < a.toN∧a ≠ q) G4 (ec (sgL l ts) false 0 [] [] [] (.sl G.next 0 2 (some 2) 7)) (two (sgL l ts) e b) :=
     TreeS.node2 ⟨by omega,by intro e; have:=congrArg Pa.toN e; omega⟩ (by omega) rk4 tr4 tr24
    have tr5:=trn.move (S':=fun a=>q6.toN < a.toN∧a ≠ q) (H':=G5) (fun _ h _=>h) b5.next fun a ⟨h1,h2⟩ ha=>b5.get a ha (by intro e; subst e; omega)
    obtain ⟨cs',G',g',r6',r7',hq',sv',res',eq'⟩:=ih u (two (sgL l ts) e b) _ G5 bad (by omega) (by omega) (by omega) (g04.trans b5) a5 (r64.fr b5 (by omega) (by omega)) (r74.fr b5 (by omega) (by omega)) (by have:=b5.next; omega) tr5
    refine ⟨cs',G',g',r6',r7',hq',sv',by rw [el]; exact res',fun fr ⟨f1,f2,f6,f7,f8⟩ M hM R K res hr=>?_⟩
    obtain ⟨m,rfl⟩ : ∃ m,M = (m + c + k) + 501:=⟨M - (c + 500 + (k + 1)),by omega⟩
    unfold Lp176
    rw [run_loop]
    simp (disch:=first | omega | (simp only [List.length_cons,List.length_nil]; omega)) only [EX,reduceIte,Nat.reduceEqDiff,Nat.reduceAdd,Int.reduceEq,Int.reduceLT,Int.reduceLE,reduceCtorEq,Nat.reduceLeDiff,Nat.reduceSub,Nat.reduceLT,x_callv,clv_fn,x_mkfn,List.nil_append,List.append_nil,res_3,res_ct,res_ctt,f1,f2,f6,f7,f8,hs',c7b,e2,c72,cav,hlf]
    rw [hl14,← eG3]
    simp (disch:=first | omega | (simp only [List.length_cons,List.length_nil]; omega)) only [EX,reduceIte,Nat.reduceEqDiff,Nat.reduceAdd,Int.reduceEq,Int.reduceLT,Int.reduceLE,reduceCtorEq,Nat.reduceLeDiff,Nat.reduceSub,Nat.reduceLT,x_callv,clv_fn,x_mkfn,List.nil_append,List.append_nil,res_3,res_ct,res_ctt,f1,f2,f6,f7,f8,e4,e5]
    refine eq' _ ⟨?_,?_,?_,?_,?_⟩ _ (by omega) R K res hr
    all_goals simp only [V_S,Nat.reduceEqDiff,reduceIte]
    all_goals first | assumption | rfl
end
end Go.Proofs.YtgnfndhmfgghdaaGreatDoor

/- Operands that lean to the left,whole; the four levels of them. -/
namespace Go.Proofs.YtgnfndhmfgghdaaGreatDoor
open Go Go.Vai
set_option maxRecDepth 100000
set_option maxHeartbeats 3200000
set_option linter.unusedSimpArgs false
section
variable {p : Pa} {x : AV} {ts0 : List Tok} {H H' : Heap} {bad : Bool} {ts : List Tok} {i : Nat}
def lftW (r : Rd) (l : Nat) (ts : List Tok) : Option (Ex × List Tok):=match r ts with | none=>none | some (e,u)=>lftR r l u.length e u
theorem Res.move {S S' : Pa→Prop} {H H' : Heap} {bad : Bool} {cs : List AV} {r : Option (Ex × List Tok)} (h : Res p x ts0 S H bad cs r) (ha : ∀ {b t},At p x ts0 H b t→At p x ts0 H' b t)
  (hs : ∀ a,S a→a.toN < H.next.toN→S' a) (hn : H.next.toN≤H'.next.toN) (hg : ∀ a,S a→a.toN < H.next.toN→H'.get a = H.get a) : Res p x ts0 S' H' bad cs r:=by
 match r,h with
 | none,h=>exact ha h
 | some (e,q),h=>exact ⟨ha h.1,h.2.move hs hn hg⟩
theorem s176 {box : Pa} {f g l n c : Nat} {r : Rd} (L : Lev p x ts0 box f g l n c r) {H0 : Heap} {bad : Bool} {ts : List Tok} (h0 : At p x ts0 H0 bad ts) (hbox : Row H0 box 106 [.p p 0]) (hb0 : box.toN < H0.next.toN) (hbp : box ≠ p) (hn : 8 * ts.length + l≤n) :
  Reads p x ts0 176 (c + 750) [.p p 0,.fn (.func f) [.p p 0] [],.fn (.func g) [] [.p box 0]] (lftW r l ts) H0 bad:=by
 obtain ⟨i0,h0⟩:=h0
 have hpn:=h0.lt
 obtain ⟨G1,eG1,g1,r61,n1⟩:=ex_new H0
 obtain ⟨cs,G2,b2,sv2,res2,e2⟩:=L.next ⟨i0,h0.grow g1⟩ hn
 have n2:=b2.next
 obtain ⟨G3,eG3,g3,r73,n3⟩:=ex_new G2
 have g02:=(g1.but p).trans b2
 have g03:=g02.trans (g3.but p)
 have r63:=(r61.fr b2 (by omega) n1).grow g3 (by omega)
 obtain ⟨G4,g04,b4,n4,r74,e4,_⟩:=room_st (cs:=cs) g03 r73 (by omega) n3 (n:=7) rfl sv2.1 sv2.2.1
 have r64:=r63.fr b4 (by omega) (by omega)
 have hbox4 : Row G4 box 106 [.p p 0]:=hbox.but g04 hb0 hbp
 have hn4 : G2.next.toN < G4.next.toN:=by rw [n4]; exact n3
 have g3n:=g3.next
 have at4 : ∀ {b t},At p x ts0 G2 b t→At p x ts0 G4 b t:=by
  rintro b t ⟨j,aj⟩
  exact ⟨j,h0.wr (aj.grow g3) b4 (by omega)⟩
 have res4 : Res p x ts0 (fun a=>H0.next.toN < a.toN∧a ≠ G2.next) G4 bad cs (r ts):=res2.move at4 (fun a h ha=>⟨by have : G1.next.toN≤a.toN:=h; omega,by intro e; subst e; omega⟩) (by omega) fun a h ha=>by
  rw [b4.get a (by omega) (by intro e; subst e; omega),g3.get a ha]
 have fin : ∀ (cs' : List AV) (G6 : Heap),GrowBut p H0 G6→Row G6 H0.next 35 zs7→Row G6 G2.next 35 cs'→G2.next.toN < G6.next.toN→Sev cs'→Res p x ts0 (fun a=>H0.next.toN < a.toN∧a ≠ G2.next) G6 bad cs' (lftW r l ts) →
   (∀ G7,(∀ (R : Type) (k : HK R),ldC true 7 (.p G2.next 0) k G6 = k (.ag cs') G6)→(∀ (R : Type) (k : HK R),stC 7 (.p H0.next 0) (.ag cs') k G6 = k un G7)→(∀ (R : Type) (k : HK R),ldC true 7 (.p H0.next 0) k G7 = k (.ag cs') G7)→∀ M,c + 750≤M→∀ (R : Type) (k : HK R),callK tbl (runK tbl M) R (toPa 176) [.p p 0,.fn (.func f) [.p p 0] [],.fn (.func g) [] [.p box 0]] H0 k = k (.ag cs') G7) →
   Reads p x ts0 176 (c + 750) [.p p 0,.fn (.func f) [.p p 0] [],.fn (.func g) [] [.p box 0]] (lftW r l ts) H0 bad:=by
  intro cs' G6 g06 r66 r76 hq6 sv6 res6 run
  obtain ⟨G7,g07,b7,n7,r67,e7,ld7⟩:=room_st (cs:=cs') g06 r66 (Nat.le_refl _) (by omega) (n:=7) rfl sv6.1 sv6.2.1
  refine ⟨cs',G7,g07,sv6,res6.move ?_ (fun a h _=>Nat.le_of_lt h.1) (by rw [n7]; exact Nat.le_refl _) (fun a h ha=>b7.get a ha (by intro e; subst e; omega)),run G7 (r76.la 7 sv6.1.symm) e7 ld7⟩
  rintro b t ⟨j,aj⟩
  exact ⟨j,h0.wr aj b7 (Nat.le_refl _)⟩
 cases hr : r ts with
 | none =>
  rw [hr] at res4
  obtain ⟨G5,b5,a5,e5⟩:=L.sign res4 hbox4 (Nat.lt_of_lt_of_le hb0 g04.next) hbp
  rw [sgL_nil] at a5 e5
  have hn5:=b5.next
  refine fin cs G5 (g04.trans b5) (r64.fr b5 (by omega) (by omega)) (r74.fr b5 (by omega) (by omega)) (by omega) sv2 (by unfold lftW; rw [hr]; exact a5) fun G7 c6 e7 ld7 M hM R k=>?_
  obtain ⟨m,rfl⟩ : ∃ m,M = (m + c) + 750:=⟨M - (c + 750),by omega⟩
  subst eG1 eG3
  rw [call_eq L176,B176_eq]
  simp (disch:=first | omega | (simp only [List.length_cons,List.length_nil]; omega)) only [EX,reduceIte,Nat.reduceEqDiff,Nat.reduceAdd,Int.reduceEq,Int.reduceLT,Int.reduceLE,reduceCtorEq,Nat.reduceLeDiff,Nat.reduceSub,Nat.reduceLT,x_callv,clv_fn,x_mkfn,List.nil_append,List.append_nil,res_3,res_ct,res_ctt,e2,e4,e5]
  refine left_end (p:=p) (box:=box) (q6:=H0.next) (q:=G2.next) (f:=f) (g:=g) _ ⟨?_,?_,?_,?_,?_⟩ _ (by omega) R _ _ fun fr f6 f7=>?_
  iterate 5
   ·simp only [V_S,Nat.reduceEqDiff,reduceIte]; try rfl
  simp (disch:=first | omega | (simp only [List.length_cons,List.length_nil]; omega)) only [EX,reduceIte,Nat.reduceEqDiff,Nat.reduceAdd,Int.reduceEq,Int.reduceLT,Int.reduceLE,reduceCtorEq,Nat.reduceLeDiff,Nat.reduceSub,Nat.reduceLT,x_callv,clv_fn,x_mkfn,List.nil_append,List.append_nil,res_3,res_ct,res_ctt,f6,f7,c6,e7,ld7]
 | some v =>
  obtain ⟨e,u⟩:=v
  rw [hr] at res4
  obtain ⟨a4,tr4⟩:=res4
  have hu:=L.lt _ _ _ hr
  have htl : ts.length≤200:=h0.tsl
  obtain ⟨G5,b5,a5,e5⟩:=L.sign a4 hbox4 (Nat.lt_of_lt_of_le hb0 g04.next) hbp
  have hn5:=b5.next
  have tr5:=tr4.move (S':=fun a=>H0.next.toN < a.toN∧a ≠ G2.next) (H':=G5) (fun _ h _=>h) b5.next fun a ⟨h1,h2⟩ ha=>b5.get a ha (by intro e; subst e; omega)
  obtain ⟨cs',G6,g6,r66,r76,hq6,sv6,res6,eq6⟩:=left_go L ⟨i0,h0⟩ hbox hb0 hbp (q6:=H0.next) (q:=G2.next) (Nat.le_refl _) (by omega) u.length u e cs G5 bad (Nat.le_refl _) (by omega) (by omega) (g04.trans b5) a5 (r64.fr b5 (by omega) (by omega)) (r74.fr b5 (by omega) (by omega)) (by omega) tr5
  refine fin cs' G6 g6 r66 r76 hq6 sv6 (by unfold lftW; rw [hr]; exact res6) fun G7 c6 e7 ld7 M hM R k=>?_
  obtain ⟨m,rfl⟩ : ∃ m,M = (m + c) + 750:=⟨M - (c + 750),by omega⟩
  subst eG1 eG3
  rw [call_eq L176,B176_eq]
  simp (disch:=first | omega | (simp only [List.length_cons,List.length_nil]; omega)) only [EX,reduceIte,Nat.reduceEqDiff,Nat.reduceAdd,Int.reduceEq,Int.reduceLT,Int.reduceLE,reduceCtorEq,Nat.reduceLeDiff,Nat.reduceSub,Nat.reduceLT,x_callv,clv_fn,x_mkfn,List.nil_append,List.append_nil,res_3,res_ct,res_ctt,e2,e4,e5]
  refine eq6 _ ⟨?_,?_,?_,?_,?_⟩ _ (by omega) R _ _ fun fr f6 f7=>?_
  iterate 5
   ·simp only [V_S,Nat.reduceEqDiff,reduceIte]
  simp (disch:=first | omega | (simp only [List.length_cons,List.length_nil]; omega)) only [EX,reduceIte,Nat.reduceEqDiff,Nat.reduceAdd,Int.reduceEq,Int.reduceLT,Int.reduceLE,reduceCtorEq,Nat.reduceLeDiff,Nat.reduceSub,Nat.reduceLT,x_callv,clv_fn,x_mkfn,List.nil_append,List.append_nil,res_3,res_ct,res_ctt,f6,f7,c6,e7,ld7]
end
end Go.Proofs.YtgnfndhmfgghdaaGreatDoor

/- The four levels of operands that lean to the left: their signs,their readings. -/
namespace Go.Proofs.YtgnfndhmfgghdaaGreatDoor
open Go Go.Vai
set_option maxRecDepth 100000
set_option maxHeartbeats 3200000
set_option linter.unusedSimpArgs false
section
variable {p : Pa} {x : AV} {ts0 : List Tok} {H H' : Heap} {bad : Bool} {ts : List Tok} {i : Nat}
/-- A sign,as an operation. -/
theorem s179 (h : At p x ts0 H bad ts) (s : List UInt8) (o : Int) : Asks p x ts0 179 300 [.p p 0,str s,.i .i64 o] H bad (if isT 4 s ts = true then ts.drop 1 else ts) (.i .i64 (if isT 4 s ts = true then o else 0)):=by
 obtain ⟨G,g,a,e⟩:=s125 h s
 refine ⟨G,g,a,fun M hM R k'=>?_⟩
 obtain ⟨m,rfl⟩:=fuel hM
 rw [call_eq L179]
 unfold B179
 cases hs : isT 4 s ts with
 | true =>
  rw [hs] at e
  simp (disch:=first | omega | (simp only [List.length_cons,List.length_nil]; omega)) only [EX,reduceIte,Nat.reduceEqDiff,Nat.reduceAdd,Int.reduceEq,Int.reduceLT,Int.reduceLE,reduceCtorEq,Nat.reduceLeDiff,Nat.reduceSub,Nat.reduceLT,x_callv,clv_fn,x_mkfn,List.nil_append,List.append_nil,res_3,res_ct,res_ctt,e]
 | false =>
  rw [hs] at e
  simp (disch:=first | omega | (simp only [List.length_cons,List.length_nil]; omega)) only [EX,reduceIte,Nat.reduceEqDiff,Nat.reduceAdd,Int.reduceEq,Int.reduceLT,Int.reduceLE,reduceCtorEq,Nat.reduceLeDiff,Nat.reduceSub,Nat.reduceLT,x_callv,clv_fn,x_mkfn,List.nil_append,List.append_nil,res_3,res_ct,res_ctt,e]
theorem sg_6 (ts : List Tok) : sgL 6 ts = if isT 4 [124,124] ts = true then 24 else 0:=by show sgL 6 ts = _; unfold sgL; rw [if_pos rfl]
theorem s178 {box : Pa} (h : At p x ts0 H bad ts) (hb : Row H box 106 [.p p 0]) : Asks p x ts0 178 400 [.p box 0] H bad (if sgL 6 ts ≠ 0 then ts.drop 1 else ts) (.i .i64 (sgL 6 ts : Int)):=by
 obtain ⟨G,g,a,e⟩:=s179 h [124,124] 24
 have lb:=hb.l 0 (v:=.p p 0) rfl
 have e1 : (if sgL 6 ts ≠ 0 then ts.drop 1 else ts) = if isT 4 [124,124] ts = true then ts.drop 1 else ts:=by rw [sg_6]; cases isT 4 [124,124] ts <;> rfl
 have e2 : ((sgL 6 ts : Nat) : Int) = if isT 4 [124,124] ts = true then 24 else 0:=by rw [sg_6]; cases isT 4 [124,124] ts <;> rfl
 rw [e1,e2]
 refine ⟨G,g,a,fun M hM R k'=>?_⟩
 obtain ⟨m,rfl⟩:=fuel hM
 rw [call_eq L178]
 unfold B178
 simp (disch:=first | omega | (simp only [List.length_cons,List.length_nil]; omega)) only [EX,reduceIte,Nat.reduceEqDiff,Nat.reduceAdd,Int.reduceEq,Int.reduceLT,Int.reduceLE,reduceCtorEq,Nat.reduceLeDiff,Nat.reduceSub,Nat.reduceLT,x_callv,clv_fn,x_mkfn,List.nil_append,List.append_nil,res_3,res_ct,res_ctt,lb,e]
theorem sg_5 (ts : List Tok) : sgL 5 ts = if isT 4 [38,38] ts = true then 23 else 0:=by show sgL 5 ts = _; unfold sgL; rw [if_neg (by decide),if_pos rfl]
theorem s231 {box : Pa} (h : At p x ts0 H bad ts) (hb : Row H box 106 [.p p 0]) : Asks p x ts0 231 400 [.p box 0] H bad (if sgL 5 ts ≠ 0 then ts.drop 1 else ts) (.i .i64 (sgL 5 ts : Int)):=by
 obtain ⟨G,g,a,e⟩:=s179 h [38,38] 23
 have lb:=hb.l 0 (v:=.p p 0) rfl
 have e1 : (if sgL 5 ts ≠ 0 then ts.drop 1 else ts) = if isT 4 [38,38] ts = true then ts.drop 1 else ts:=by rw [sg_5]; cases isT 4 [38,38] ts <;> rfl
 have e2 : ((sgL 5 ts : Nat) : Int) = if isT 4 [38,38] ts = true then 23 else 0:=by rw [sg_5]; cases isT 4 [38,38] ts <;> rfl
 rw [e1,e2]
 refine ⟨G,g,a,fun M hM R k'=>?_⟩
 obtain ⟨m,rfl⟩:=fuel hM
 rw [call_eq L231]
 unfold B231
 simp (disch:=first | omega | (simp only [List.length_cons,List.length_nil]; omega)) only [EX,reduceIte,Nat.reduceEqDiff,Nat.reduceAdd,Int.reduceEq,Int.reduceLT,Int.reduceLE,reduceCtorEq,Nat.reduceLeDiff,Nat.reduceSub,Nat.reduceLT,x_callv,clv_fn,x_mkfn,List.nil_append,List.append_nil,res_3,res_ct,res_ctt,lb,e]
theorem sg_2 (ts : List Tok) : sgL 2 ts = if isT 4 [42] ts = true then 13 else 0:=by show sgL 2 ts = _; unfold sgL; rw [if_neg (by decide),if_neg (by decide),if_neg (by decide)]
theorem s315 {box : Pa} (h : At p x ts0 H bad ts) (hb : Row H box 106 [.p p 0]) : Asks p x ts0 315 400 [.p box 0] H bad (if sgL 2 ts ≠ 0 then ts.drop 1 else ts) (.i .i64 (sgL 2 ts : Int)):=by
 obtain ⟨G,g,a,e⟩:=s179 h [42] 13
 have lb:=hb.l 0 (v:=.p p 0) rfl
 have e1 : (if sgL 2 ts ≠ 0 then ts.drop 1 else ts) = if isT 4 [42] ts = true then ts.drop 1 else ts:=by rw [sg_2]; cases isT 4 [42] ts <;> rfl
 have e2 : ((sgL 2 ts : Nat) : Int) = if isT 4 [42] ts = true then 13 else 0:=by rw [sg_2]; cases isT 4 [42] ts <;> rfl
 rw [e1,e2]
 refine ⟨G,g,a,fun M hM R k'=>?_⟩
 obtain ⟨m,rfl⟩:=fuel hM
 rw [call_eq L315]
 unfold B315
 simp (disch:=first | omega | (simp only [List.length_cons,List.length_nil]; omega)) only [EX,reduceIte,Nat.reduceEqDiff,Nat.reduceAdd,Int.reduceEq,Int.reduceLT,Int.reduceLE,reduceCtorEq,Nat.reduceLeDiff,Nat.reduceSub,Nat.reduceLT,x_callv,clv_fn,x_mkfn,List.nil_append,List.append_nil,res_3,res_ct,res_ctt,lb,e]
theorem sg_3 (ts : List Tok) : sgL 3 ts = if isT 4 [43] ts = true then 14 else if isT 4 [45] ts = true then 15 else 0:=by show sgL 3 ts = _; unfold sgL; rw [if_neg (by decide),if_neg (by decide),if_pos rfl]
theorem s300 {box : Pa} (h : At p x ts0 H bad ts) (hb : Row H box 106 [.p p 0]) (hl : box.toN < H.next.toN) (hne : box ≠ p) : Asks p x ts0 300 400 [.p box 0] H bad (if sgL 3 ts ≠ 0 then ts.drop 1 else ts) (.i .i64 (sgL 3 ts : Int)):=by
 obtain ⟨G,g,a,e⟩:=s179 h [43] 14
 have lb:=hb.l 0 (v:=.p p 0) rfl
 have lb2:=(hb.but g hl hne).l 0 (v:=.p p 0) rfl
 cases hs : isT 4 [43] ts with
 | true =>
  have e0 : sgL 3 ts = 14:=by rw [sg_3,hs]; rfl
  rw [hs,if_pos rfl] at a e
  rw [e0,if_pos (by decide)]
  refine ⟨G,g,a,fun M hM R k'=>?_⟩
  obtain ⟨m,rfl⟩:=fuel hM
  rw [call_eq L300]
  unfold B300
  simp (disch:=first | omega | (simp only [List.length_cons,List.length_nil]; omega)) only [EX,reduceIte,Nat.reduceEqDiff,Nat.reduceAdd,Int.reduceEq,Int.reduceLT,Int.reduceLE,reduceCtorEq,Nat.reduceLeDiff,Nat.reduceSub,Nat.reduceLT,x_callv,clv_fn,x_mkfn,List.nil_append,List.append_nil,res_3,res_ct,res_ctt,lb,e]
  rfl
 | false =>
  rw [hs,if_neg (by decide)] at a e
  obtain ⟨G2,g2,a2,e2⟩:=s179 a [45] 15
  have e0 : sgL 3 ts = if isT 4 [45] ts = true then 15 else 0:=by rw [sg_3,hs]; rfl
  have e3 : (if sgL 3 ts ≠ 0 then ts.drop 1 else ts) = if isT 4 [45] ts = true then ts.drop 1 else ts:=by rw [e0]; cases isT 4 [45] ts <;> rfl
  have e4 : ((sgL 3 ts : Nat) : Int) = if isT 4 [45] ts = true then 15 else 0:=by rw [e0]; cases isT 4 [45] ts <;> rfl
  rw [e3,e4]
  refine ⟨G2,g.trans g2,a2,fun M hM R k'=>?_⟩
  obtain ⟨m,rfl⟩:=fuel hM
  rw [call_eq L300]
  unfold B300
  simp (disch:=first | omega | (simp only [List.length_cons,List.length_nil]; omega)) only [EX,reduceIte,Nat.reduceEqDiff,Nat.reduceAdd,Int.reduceEq,Int.reduceLT,Int.reduceLE,reduceCtorEq,Nat.reduceLeDiff,Nat.reduceSub,Nat.reduceLT,x_callv,clv_fn,x_mkfn,List.nil_append,List.append_nil,res_3,res_ct,res_ctt,lb,e,lb2,e2]
theorem box_new (H : Heap) (p : Pa) : ∃ G,G = H.alloc (.cells false 0 106 1 (setCells [.p p 0] 0 .leaf))∧Grow H G∧Row G H.next 106 [.p p 0]∧H.next.toN < G.next.toN :=
 ⟨_,rfl,Grow.alloc H _,Row.new H 106 [.p p 0],by have:=next_alloc H (.cells false 0 106 1 (setCells [.p p 0] 0 .leaf)); omega⟩
/-- Level 6. -/
theorem s118 {n c : Nat} {r : Rd} (hlt : Dn r) (hnext : ∀ {H bad ts},At p x ts0 H bad ts→8 * ts.length + 6≤n→Reads p x ts0 177 c [.p p 0] (r ts) H bad) (h : At p x ts0 H bad ts) (hn : 8 * ts.length + 6≤n) :
  Reads p x ts0 118 (c + 800) [.p p 0] (lftW r 6 ts) H bad:=by
 obtain ⟨i,h⟩:=h
 have hpn:=h.lt
 obtain ⟨G1,eG1,g1,rb1,n1⟩:=box_new H p
 obtain ⟨G2,eG2,g2,r2,n2⟩:=ex_new G1
 have rb2:=rb1.grow g2 n1
 have lb2:=rb2.l 0 (v:=.p p 0) rfl
 have L : Lev p x ts0 H.next 177 178 6 n c r:=⟨hlt,fun a b c d=>s178 a b,hnext⟩
 obtain ⟨cs,G3,b3,sv,res,e⟩:=s176 L ⟨i,(h.grow g1).grow g2⟩ rb2 (by omega) (by intro e; subst e; omega) hn
 have hb:=b3.next
 obtain ⟨G4,g04,b4,n4,r4,e4,ld4⟩:=room_st (cs:=cs) (((g1.trans g2).but p).trans b3) (r2.fr b3 (by omega) n2) (by omega) (by omega) (n:=7) rfl sv.1 sv.2.1
 refine ⟨cs,G4,g04,sv,res.move ?_ (fun a h _=>by have h : G2.next.toN≤a.toN:=h; show H.next.toN≤a.toN; omega) (by rw [n4]; exact Nat.le_refl _) (fun a h ha=>b4.get a ha (by intro e; subst e; have h : G2.next.toN≤G1.next.toN:=h; omega)),fun M hM R k=>?_⟩
 ·rintro b t ⟨j,aj⟩
  exact ⟨j,h.wr aj b4 (by omega)⟩
 ·obtain ⟨m,rfl⟩ : ∃ m,M = (m + c) + 800:=⟨M - (c + 800),by omega⟩
  subst eG1 eG2
  rw [call_eq L118]
  unfold B118
  simp (disch:=first | omega | (simp only [List.length_cons,List.length_nil]; omega)) only [EX,reduceIte,Nat.reduceEqDiff,Nat.reduceAdd,Int.reduceEq,Int.reduceLT,Int.reduceLE,reduceCtorEq,Nat.reduceLeDiff,Nat.reduceSub,Nat.reduceLT,x_callv,clv_fn,x_mkfn,List.nil_append,List.append_nil,res_3,res_ct,res_ctt,lb2,e,e4,ld4]
/-- Level 5. -/
theorem s177 {n c : Nat} {r : Rd} (hlt : Dn r) (hnext : ∀ {H bad ts},At p x ts0 H bad ts→8 * ts.length + 5≤n→Reads p x ts0 230 c [.p p 0] (r ts) H bad) (h : At p x ts0 H bad ts) (hn : 8 * ts.length + 5≤n) :
  Reads p x ts0 177 (c + 800) [.p p 0] (lftW r 5 ts) H bad:=by
 obtain ⟨i,h⟩:=h
 have hpn:=h.lt
 obtain ⟨G1,eG1,g1,rb1,n1⟩:=box_new H p
 obtain ⟨G2,eG2,g2,r2,n2⟩:=ex_new G1
 have rb2:=rb1.grow g2 n1
 have lb2:=rb2.l 0 (v:=.p p 0) rfl
 have L : Lev p x ts0 H.next 230 231 5 n c r:=⟨hlt,fun a b c d=>s231 a b,hnext⟩
 obtain ⟨cs,G3,b3,sv,res,e⟩:=s176 L ⟨i,(h.grow g1).grow g2⟩ rb2 (by omega) (by intro e; subst e; omega) hn
 have hb:=b3.next
 obtain ⟨G4,g04,b4,n4,r4,e4,ld4⟩:=room_st (cs:=cs) (((g1.trans g2).but p).trans b3) (r2.fr b3 (by omega) n2) (by omega) (by omega) (n:=7) rfl sv.1 sv.2.1
 refine ⟨cs,G4,g04,sv,res.move ?_ (fun a h _=>by have h : G2.next.toN≤a.toN:=h; show H.next.toN≤a.toN; omega) (by rw [n4]; exact Nat.le_refl _) (fun a h ha=>b4.get a ha (by intro e; subst e; have h : G2.next.toN≤G1.next.toN:=h; omega)),fun M hM R k=>?_⟩
 ·rintro b t ⟨j,aj⟩
  exact ⟨j,h.wr aj b4 (by omega)⟩
 ·obtain ⟨m,rfl⟩ : ∃ m,M = (m + c) + 800:=⟨M - (c + 800),by omega⟩
  subst eG1 eG2
  rw [call_eq L177]
  unfold B177
  simp (disch:=first | omega | (simp only [List.length_cons,List.length_nil]; omega)) only [EX,reduceIte,Nat.reduceEqDiff,Nat.reduceAdd,Int.reduceEq,Int.reduceLT,Int.reduceLE,reduceCtorEq,Nat.reduceLeDiff,Nat.reduceSub,Nat.reduceLT,x_callv,clv_fn,x_mkfn,List.nil_append,List.append_nil,res_3,res_ct,res_ctt,lb2,e,e4,ld4]
/-- Level 3. -/
theorem s269 {n c : Nat} {r : Rd} (hlt : Dn r) (hnext : ∀ {H bad ts},At p x ts0 H bad ts→8 * ts.length + 3≤n→Reads p x ts0 299 c [.p p 0] (r ts) H bad) (h : At p x ts0 H bad ts) (hn : 8 * ts.length + 3≤n) :
  Reads p x ts0 269 (c + 800) [.p p 0] (lftW r 3 ts) H bad:=by
 obtain ⟨i,h⟩:=h
 have hpn:=h.lt
 obtain ⟨G1,eG1,g1,rb1,n1⟩:=box_new H p
 obtain ⟨G2,eG2,g2,r2,n2⟩:=ex_new G1
 have rb2:=rb1.grow g2 n1
 have lb2:=rb2.l 0 (v:=.p p 0) rfl
 have L : Lev p x ts0 H.next 299 300 3 n c r:=⟨hlt,fun a b c d=>s300 a b c d,hnext⟩
 obtain ⟨cs,G3,b3,sv,res,e⟩:=s176 L ⟨i,(h.grow g1).grow g2⟩ rb2 (by omega) (by intro e; subst e; omega) hn
 have hb:=b3.next
 obtain ⟨G4,g04,b4,n4,r4,e4,ld4⟩:=room_st (cs:=cs) (((g1.trans g2).but p).trans b3) (r2.fr b3 (by omega) n2) (by omega) (by omega) (n:=7) rfl sv.1 sv.2.1
 refine ⟨cs,G4,g04,sv,res.move ?_ (fun a h _=>by have h : G2.next.toN≤a.toN:=h; show H.next.toN≤a.toN; omega) (by rw [n4]; exact Nat.le_refl _) (fun a h ha=>b4.get a ha (by intro e; subst e; have h : G2.next.toN≤G1.next.toN:=h; omega)),fun M hM R k=>?_⟩
 ·rintro b t ⟨j,aj⟩
  exact ⟨j,h.wr aj b4 (by omega)⟩
 ·obtain ⟨m,rfl⟩ : ∃ m,M = (m + c) + 800:=⟨M - (c + 800),by omega⟩
  subst eG1 eG2
  rw [call_eq L269]
  unfold B269
  simp (disch:=first | omega | (simp only [List.length_cons,List.length_nil]; omega)) only [EX,reduceIte,Nat.reduceEqDiff,Nat.reduceAdd,Int.reduceEq,Int.reduceLT,Int.reduceLE,reduceCtorEq,Nat.reduceLeDiff,Nat.reduceSub,Nat.reduceLT,x_callv,clv_fn,x_mkfn,List.nil_append,List.append_nil,res_3,res_ct,res_ctt,lb2,e,e4,ld4]
/-- Level 2. -/
theorem s299 {n c : Nat} {r : Rd} (hlt : Dn r) (hnext : ∀ {H bad ts},At p x ts0 H bad ts→8 * ts.length + 2≤n→Reads p x ts0 314 c [.p p 0] (r ts) H bad) (h : At p x ts0 H bad ts) (hn : 8 * ts.length + 2≤n) :
  Reads p x ts0 299 (c + 800) [.p p 0] (lftW r 2 ts) H bad:=by
 obtain ⟨i,h⟩:=h
 have hpn:=h.lt
 obtain ⟨G1,eG1,g1,rb1,n1⟩:=box_new H p
 obtain ⟨G2,eG2,g2,r2,n2⟩:=ex_new G1
 have rb2:=rb1.grow g2 n1
 have lb2:=rb2.l 0 (v:=.p p 0) rfl
 have L : Lev p x ts0 H.next 314 315 2 n c r:=⟨hlt,fun a b c d=>s315 a b,hnext⟩
 obtain ⟨cs,G3,b3,sv,res,e⟩:=s176 L ⟨i,(h.grow g1).grow g2⟩ rb2 (by omega) (by intro e; subst e; omega) hn
 have hb:=b3.next
 obtain ⟨G4,g04,b4,n4,r4,e4,ld4⟩:=room_st (cs:=cs) (((g1.trans g2).but p).trans b3) (r2.fr b3 (by omega) n2) (by omega) (by omega) (n:=7) rfl sv.1 sv.2.1
 refine ⟨cs,G4,g04,sv,res.move ?_ (fun a h _=>by have h : G2.next.toN≤a.toN:=h; show H.next.toN≤a.toN; omega) (by rw [n4]; exact Nat.le_refl _) (fun a h ha=>b4.get a ha (by intro e; subst e; have h : G2.next.toN≤G1.next.toN:=h; omega)),fun M hM R k=>?_⟩
 ·rintro b t ⟨j,aj⟩
  exact ⟨j,h.wr aj b4 (by omega)⟩
 ·obtain ⟨m,rfl⟩ : ∃ m,M = (m + c) + 800:=⟨M - (c + 800),by omega⟩
  subst eG1 eG2
  rw [call_eq L299]
  unfold B299
  simp (disch:=first | omega | (simp only [List.length_cons,List.length_nil]; omega)) only [EX,reduceIte,Nat.reduceEqDiff,Nat.reduceAdd,Int.reduceEq,Int.reduceLT,Int.reduceLE,reduceCtorEq,Nat.reduceLeDiff,Nat.reduceSub,Nat.reduceLT,x_callv,clv_fn,x_mkfn,List.nil_append,List.append_nil,res_3,res_ct,res_ctt,lb2,e,e4,ld4]
end
end Go.Proofs.YtgnfndhmfgghdaaGreatDoor

/- What is compared: the sign,has,like; what stands behind signs ahead. -/
namespace Go.Proofs.YtgnfndhmfgghdaaGreatDoor
open Go Go.Vai
set_option maxRecDepth 100000
set_option maxHeartbeats 3200000
set_option linter.unusedSimpArgs false
section
variable {p : Pa} {x : AV} {ts0 : List Tok} {H H' : Heap} {bad : Bool} {ts : List Tok} {i : Nat}
theorem sg_c {ts : List Tok} (hin : isT 1 tIn ts = false) (hk : (at0 ts 0).k = 4) : sgC ts = if (at0 ts 0).s = [61,61] then 20 else if (at0 ts 0).s = [33,61] then 21 else if (at0 ts 0).s = [60] then 16 else if (at0 ts 0).s = [60,61] then 17 else if (at0 ts 0).s = [62] then 18 else if (at0 ts 0).s = [62,61] then 19 else 0:=by
 have h4 : ∀ s,(isT 4 s ts = true) = ((at0 ts 0).s = s):=fun s=>by rw [isT_at (by decide),decide_eq_true_eq,eq_iff_iff]; exact ⟨fun q=>q.2,fun q=>⟨hk,q⟩⟩
 unfold sgC
 rw [hin,if_neg (by decide)]
 simp only [h4]
theorem sg_c0 {ts : List Tok} (hin : isT 1 tIn ts = false) (hk : (at0 ts 0).k ≠ 4) : sgC ts = 0:=by
 have h4 : ∀ s,isT 4 s ts = false:=fun s=>by rw [isT_at (by decide)]; exact decide_eq_false fun q=>hk q.1
 unfold sgC
 rw [hin,if_neg (by decide)]
 simp only [h4]
 rfl
theorem s270 (h : At p x ts0 H bad ts) : Asks p x ts0 270 400 [.p p 0] H bad (if sgC ts ≠ 0 then ts.drop 1 else ts) (.i .i64 (sgC ts : Int)):=by
 obtain ⟨G0,g0,⟨i,a0⟩,e0⟩:=s71 h [105,110]
 obtain ⟨G1,g1,e175⟩:=s175 a0 (j:=0) (J:=0) rfl (by decide)
 obtain ⟨G2,eG2,g2,r2,n2⟩:=tok_new G1
 cases hin : isT 1 [105,110] ts with
 | true =>
  have es : sgC ts = 22:=by unfold sgC; rw [show isT 1 tIn ts = true from hin,if_pos rfl]
  rw [hin,if_pos rfl] at a0
  rw [hin] at e0
  rw [es,if_pos (by decide)]
  refine ⟨G0,g0,⟨i,a0⟩,fun M hM R k'=>?_⟩
  obtain ⟨m,rfl⟩:=fuel hM
  rw [call_eq L270]
  unfold B270
  simp (disch:=first | omega | (simp only [List.length_cons,List.length_nil]; omega)) only [EX,reduceIte,Nat.reduceEqDiff,Nat.reduceAdd,Int.reduceEq,Int.reduceLT,Int.reduceLE,reduceCtorEq,Nat.reduceLeDiff,Nat.reduceSub,Nat.reduceLT,x_callv,clv_fn,x_mkfn,List.nil_append,List.append_nil,res_3,res_ct,res_ctt,e0]
  rfl
 | false =>
  rw [hin,if_neg (by decide)] at a0 e175
  rw [hin] at e0
  obtain ⟨G3,g3,r3,n3,est3,_⟩:=tok_st g2 r2 rfl (Nat.le_refl _) n2 (cs:=tcs (at0 ts 0)) rfl (tcs_one _)
  have lk:=r3.l 0 rfl
  have ls:=r3.l 1 rfl
  have h3:=a0.grow (g1.trans g3)
  by_cases hk : (at0 ts 0).k = 4
  ·have es:=sg_c hin hk
   have hk' : ((at0 ts 0).k : Int) = 4:=by omega
   have step : sgC ts ≠ 0→(∀ G4,(∀ (R : Type) (k : HK R),stC 1 (.p p 1) (.i .i64 ((i + 1 : Nat) : Int)) k G3 = k un G4)→∀ M,400≤M→∀ (R : Type) (k : HK R),callK tbl (runK tbl M) R (toPa 270) [.p p 0] H k = k (.i .i64 (sgC ts : Int)) G4)→Asks p x ts0 270 400 [.p p 0] H bad (if sgC ts ≠ 0 then ts.drop 1 else ts) (.i .i64 (sgC ts : Int)):=by
    intro hne run
    obtain ⟨t,r,ht⟩:=at0_ne (ts:=ts) (by omega)
    obtain ⟨hi1,G4,b4,h4,est4⟩:=h3.next ht
    rw [if_pos hne]
    exact ⟨G4,(g0.trans ((g1.trans g3).but p)).trans b4,⟨i + 1,by rw [ht]; exact h4⟩,run G4 est4⟩
   have l1:=h3.l1
   have hlen:=h3.len
   have hle:=h3.le
   by_cases q1 : (at0 ts 0).s = [61,61]
   ·rw [if_pos q1] at es
    have q1:=eq_true q1
    refine step (by rw [es]; decide) fun G4 e4 M hM R k=>?_
    obtain ⟨m,rfl⟩:=fuel hM
    subst eG2
    rw [call_eq L270,es]
    unfold B270
    simp (disch:=first | omega | (simp only [List.length_cons,List.length_nil]; omega)) only [EX,reduceIte,Nat.reduceEqDiff,Nat.reduceAdd,Int.reduceEq,Int.reduceLT,Int.reduceLE,reduceCtorEq,Nat.reduceLeDiff,Nat.reduceSub,Nat.reduceLT,x_callv,clv_fn,x_mkfn,List.nil_append,List.append_nil,res_3,res_ct,res_ctt,e0,e175,est3,lk,ls,hk',s_eql,q1,l1,i_add,inc64 (show i < 1000000000000 by omega),e4]
    rfl
   rw [if_neg q1] at es
   by_cases q2 : (at0 ts 0).s = [33,61]
   ·rw [if_pos q2] at es
    have q2:=eq_true q2
    refine step (by rw [es]; decide) fun G4 e4 M hM R k=>?_
    obtain ⟨m,rfl⟩:=fuel hM
    subst eG2
    rw [call_eq L270,es]
    unfold B270
    simp (disch:=first | omega | (simp only [List.length_cons,List.length_nil]; omega)) only [EX,reduceIte,Nat.reduceEqDiff,Nat.reduceAdd,Int.reduceEq,Int.reduceLT,Int.reduceLE,reduceCtorEq,Nat.reduceLeDiff,Nat.reduceSub,Nat.reduceLT,x_callv,clv_fn,x_mkfn,List.nil_append,List.append_nil,res_3,res_ct,res_ctt,e0,e175,est3,lk,ls,hk',s_eql,q1,q2,l1,i_add,inc64 (show i < 1000000000000 by omega),e4]
    rfl
   rw [if_neg q2] at es
   by_cases q3 : (at0 ts 0).s = [60]
   ·rw [if_pos q3] at es
    have q3:=eq_true q3
    refine step (by rw [es]; decide) fun G4 e4 M hM R k=>?_
    obtain ⟨m,rfl⟩:=fuel hM
    subst eG2
    rw [call_eq L270,es]
    unfold B270
    simp (disch:=first | omega | (simp only [List.length_cons,List.length_nil]; omega)) only [EX,reduceIte,Nat.reduceEqDiff,Nat.reduceAdd,Int.reduceEq,Int.reduceLT,Int.reduceLE,reduceCtorEq,Nat.reduceLeDiff,Nat.reduceSub,Nat.reduceLT,x_callv,clv_fn,x_mkfn,List.nil_append,List.append_nil,res_3,res_ct,res_ctt,e0,e175,est3,lk,ls,hk',s_eql,q1,q2,q3,l1,i_add,inc64 (show i < 1000000000000 by omega),e4]
    rfl
   rw [if_neg q3] at es
   by_cases q4 : (at0 ts 0).s = [60,61]
   ·rw [if_pos q4] at es
    have q4:=eq_true q4
    refine step (by rw [es]; decide) fun G4 e4 M hM R k=>?_
    obtain ⟨m,rfl⟩:=fuel hM
    subst eG2
    rw [call_eq L270,es]
    unfold B270
    simp (disch:=first | omega | (simp only [List.length_cons,List.length_nil]; omega)) only [EX,reduceIte,Nat.reduceEqDiff,Nat.reduceAdd,Int.reduceEq,Int.reduceLT,Int.reduceLE,reduceCtorEq,Nat.reduceLeDiff,Nat.reduceSub,Nat.reduceLT,x_callv,clv_fn,x_mkfn,List.nil_append,List.append_nil,res_3,res_ct,res_ctt,e0,e175,est3,lk,ls,hk',s_eql,q1,q2,q3,q4,l1,i_add,inc64 (show i < 1000000000000 by omega),e4]
    rfl
   rw [if_neg q4] at es
   by_cases q5 : (at0 ts 0).s = [62]
   ·rw [if_pos q5] at es
    have q5:=eq_true q5
    refine step (by rw [es]; decide) fun G4 e4 M hM R k=>?_
    obtain ⟨m,rfl⟩:=fuel hM
    subst eG2
    rw [call_eq L270,es]
    unfold B270
    simp (disch:=first | omega | (simp only [List.length_cons,List.length_nil]; omega)) only [EX,reduceIte,Nat.reduceEqDiff,Nat.reduceAdd,Int.reduceEq,Int.reduceLT,Int.reduceLE,reduceCtorEq,Nat.reduceLeDiff,Nat.reduceSub,Nat.reduceLT,x_callv,clv_fn,x_mkfn,List.nil_append,List.append_nil,res_3,res_ct,res_ctt,e0,e175,est3,lk,ls,hk',s_eql,q1,q2,q3,q4,q5,l1,i_add,inc64 (show i < 1000000000000 by omega),e4]
    rfl
   rw [if_neg q5] at es
   by_cases q6 : (at0 ts 0).s = [62,61]
   ·rw [if_pos q6] at es
    have q6:=eq_true q6
    refine step (by rw [es]; decide) fun G4 e4 M hM R k=>?_
    obtain ⟨m,rfl⟩:=fuel hM
    subst eG2
    rw [call_eq L270,es]
    unfold B270
    simp (disch:=first | omega | (simp only [List.length_cons,List.length_nil]; omega)) only [EX,reduceIte,Nat.reduceEqDiff,Nat.reduceAdd,Int.reduceEq,Int.reduceLT,Int.reduceLE,reduceCtorEq,Nat.reduceLeDiff,Nat.reduceSub,Nat.reduceLT,x_callv,clv_fn,x_mkfn,List.nil_append,List.append_nil,res_3,res_ct,res_ctt,e0,e175,est3,lk,ls,hk',s_eql,q1,q2,q3,q4,q5,q6,l1,i_add,inc64 (show i < 1000000000000 by omega),e4]
    rfl
   rw [if_neg q6] at es
   rw [es,if_neg (by decide)]
   refine ⟨G3,g0.trans ((g1.trans g3).but p),⟨i,h3⟩,fun M hM R k=>?_⟩
   obtain ⟨m,rfl⟩:=fuel hM
   subst eG2
   rw [call_eq L270]
   unfold B270
   simp (disch:=first | omega | (simp only [List.length_cons,List.length_nil]; omega)) only [EX,reduceIte,Nat.reduceEqDiff,Nat.reduceAdd,Int.reduceEq,Int.reduceLT,Int.reduceLE,reduceCtorEq,Nat.reduceLeDiff,Nat.reduceSub,Nat.reduceLT,x_callv,clv_fn,x_mkfn,List.nil_append,List.append_nil,res_3,res_ct,res_ctt,e0,e175,est3,lk,ls,hk',s_eql,q1,q2,q3,q4,q5,q6]
   rfl
  ·have es:=sg_c0 hin hk
   have hk' : ¬ ((at0 ts 0).k : Int) = 4:=by omega
   rw [es,if_neg (by decide)]
   refine ⟨G3,g0.trans ((g1.trans g3).but p),⟨i,h3⟩,fun M hM R k=>?_⟩
   obtain ⟨m,rfl⟩:=fuel hM
   subst eG2
   rw [call_eq L270]
   unfold B270
   simp (disch:=first | omega | (simp only [List.length_cons,List.length_nil]; omega)) only [EX,reduceIte,Nat.reduceEqDiff,Nat.reduceAdd,Int.reduceEq,Int.reduceLT,Int.reduceLE,reduceCtorEq,Nat.reduceLeDiff,Nat.reduceSub,Nat.reduceLT,x_callv,clv_fn,x_mkfn,List.nil_append,List.append_nil,res_3,res_ct,res_ctt,e0,e175,est3,lk,ls,hk']
   rfl
end
end Go.Proofs.YtgnfndhmfgghdaaGreatDoor

/- What is compared,whole (reader.rel); signs ahead (reader.un). -/
namespace Go.Proofs.YtgnfndhmfgghdaaGreatDoor
open Go Go.Vai
set_option maxRecDepth 100000
set_option maxHeartbeats 3200000
set_option linter.unusedSimpArgs false
section
variable {p : Pa} {x : AV} {ts0 : List Tok} {H H' : Heap} {bad : Bool} {ts : List Tok} {i : Nat}
/-- A result is put into its room. -/
theorem close_ {H0 G : Heap} {q0 : Pa} {b0 : Bool} {t0 : List Tok} {i0 : Nat} {zs cs : List AV} {S : Pa→Prop} {bad : Bool} {o : Option (Ex × List Tok)} (h0 : AtI p x ts0 H0 b0 t0 i0) (g : GrowBut p H0 G) (r : Row G q0 35 zs) (hz : zs.length = 7) (hq : H0.next.toN≤q0.toN) (hq2 : q0.toN < G.next.toN)
  (sv : Sev cs) (res : Res p x ts0 S G bad cs o) (hS : ∀ a,S a→a.toN < G.next.toN→H0.next.toN≤a.toN∧a ≠ q0) :
  ∃ G',GrowBut p H0 G'∧Res p x ts0 (New H0.next.toN) G' bad cs o∧(∀ (R : Type) (k : HK R),stC 7 (.p q0 0) (.ag cs) k G = k un G')∧∀ (R : Type) (k : HK R),ldC true 7 (.p q0 0) k G' = k (.ag cs) G':=by
 obtain ⟨G',g',b',n',r',e',ld'⟩:=room_st (cs:=cs) g r hq hq2 (n:=7) hz sv.1 sv.2.1
 refine ⟨G',g',res.move ?_ (fun a h ha=>(hS a h ha).1) (by rw [n']; exact Nat.le_refl _) (fun a h ha=>b'.get a ha (hS a h ha).2),e',ld'⟩
 rintro b t ⟨j,aj⟩
 exact ⟨j,h0.wr aj b' hq⟩
/-- A room for kids is filled,behind a call. -/
theorem kids_ {H0 G G2 : Heap} {b0 : Bool} {t0 : List Tok} {i0 n : Nat} {L : List AV} (h0 : AtI p x ts0 H0 b0 t0 i0) (g0 : GrowBut p H0 G) (b2 : GrowBut p (G.bump 1) G2) (hL : L.length = n) :
  ∃ G3,G3 = G2.put G.next (.cells false 0 35 n (setCells L 0 .leaf))∧GrowBut p H0 G3∧GrowBut G.next G2 G3∧G3.next = G2.next∧Row G3 G.next 35 L∧G.next.toN < G2.next.toN∧(∀ {b t},At p x ts0 G2 b t→At p x ts0 G3 b t):=by
 subst hL
 have gb : Grow G (G.bump 1):=Grow.bump 1 G
 have nb : (G.bump 1).next.toN = G.next.toN + 1:=next_bump
 have n2:=b2.next
 have n0:=g0.next
 have b3 : GrowBut G.next G2 (G2.put G.next (.cells false 0 35 L.length (setCells L 0 .leaf))):=but_put _ (by omega)
 refine ⟨_,rfl,((g0.trans (gb.but p)).trans b2).cat b3 n0,b3,next_put,put_row,by omega,?_⟩
 rintro b t ⟨j,aj⟩
 exact ⟨j,h0.wr aj b3 n0⟩
/-- One that stood before a call,behind it. -/
theorem over_call {S : Pa→Prop} {G G2 G3 : Heap} {cs : List AV} {e : Ex} (tr : TreeS S G cs e) (b2 : GrowBut p (G.bump 1) G2) (b3 : GrowBut G.next G2 G3) (hp : ∀ a,S a→a ≠ p) : TreeS S G3 cs e:=by
 have gb : Grow G (G.bump 1):=Grow.bump 1 G
 have nb : (G.bump 1).next.toN = G.next.toN + 1:=next_bump
 have n2:=b2.next
 have n3:=b3.next
 refine tr.move (fun _ h _=>h) (by omega) fun a h ha=>?_
 rw [b3.get a (by omega) (by intro e; subst e; omega),b2.get a (by omega) (hp a h),gb.get a ha]
def relW (r : Rd) (ts : List Tok) : Option (Ex × List Tok):=match r ts with | none=>none | some (e,u)=>rel1 r e u
theorem fillK {R : Type} {cs : List AV} (h : cs.length = 7) : ∀ (F : List AV→Option R),fillV [(0,7,.ag cs)] [.i .i64 0,.b false,.i .i64 0,str [],str [],str [],.ns] F = F cs:=fun F=>fill7_1 h
theorem s230 {n c : Nat} {r : Rd} (hlt : Dn r) (hnext : ∀ {H bad ts},At p x ts0 H bad ts→8 * ts.length + 4≤n→Reads p x ts0 269 c [.p p 0] (r ts) H bad) (h : At p x ts0 H bad ts) (hn : 8 * ts.length + 4≤n) :
  Reads p x ts0 230 (c + 800) [.p p 0] (relW r ts) H bad:=by
 obtain ⟨i,h⟩:=h
 have hpn:=h.lt
 obtain ⟨G1,eG1,g1,r1,n1⟩:=ex_new H
 obtain ⟨cs,G2,b2,sv2,res2,e2⟩:=hnext ⟨i,h.grow g1⟩ hn
 have n2:=b2.next
 obtain ⟨G3,eG3,g3,r33,n3⟩:=ex_new G2
 have g02:=(g1.but p).trans b2
 have g03:=g02.trans (g3.but p)
 have r13:=(r1.fr b2 (by omega) n1).grow g3 (by omega)
 have g3n:=g3.next
 obtain ⟨G4,g04,b4,n4,r34,e4,_⟩:=room_st (cs:=cs) g03 r33 (by omega) n3 (n:=7) rfl sv2.1 sv2.2.1
 have r14:=r13.fr b4 (by omega) (by omega)
 have hn4 : G2.next.toN < G4.next.toN:=by rw [n4]; exact n3
 have at4 : ∀ {b t},At p x ts0 G2 b t→At p x ts0 G4 b t:=by
  rintro b t ⟨j,aj⟩
  exact ⟨j,h.wr (aj.grow g3) b4 (by omega)⟩
 have res4 : Res p x ts0 (fun a=>H.next.toN < a.toN∧a ≠ G2.next) G4 bad cs (r ts):=res2.move at4 (fun a h ha=>⟨by have h : G1.next.toN≤a.toN:=h; omega,by intro e; subst e; omega⟩) (by omega) fun a h ha=>by
  rw [b4.get a (by omega) (by intro e; subst e; omega),g3.get a ha]
 have hSp : ∀ a : Pa,(H.next.toN < a.toN∧a ≠ G2.next)→a ≠ p:=fun a h e=>by subst e; omega
 subst eG1 eG3
 -- no sign behind
 have plain : ∀ {b t},At p x ts0 G4 b t→sgC t = 0→isT 1 tHas t = false→isT 1 tLike t = false→(∀ {G},GrowBut p G4 G→At p x ts0 G b t→Res p x ts0 (fun a=>H.next.toN < a.toN∧a ≠ G2.next) G bad cs (relW r ts))→Reads p x ts0 230 (c + 800) [.p p 0] (relW r ts) H bad:=by
  intro b t a4 hc hh hl hres
  obtain ⟨G5,b5,a5,e5⟩:=s270 a4
  rw [hc] at a5 e5
  rw [if_neg (by decide)] at a5
  rw [show ((0 : Nat) : Int) = 0 from rfl] at e5
  obtain ⟨G6,b6,a6,e6⟩:=s71 a5 [104,97,115]
  rw [show isT 1 [104,97,115] t = false from hh] at a6 e6
  rw [if_neg (by decide)] at a6
  obtain ⟨G7,b7,a7,e7⟩:=s71 a6 [108,105,107,101]
  rw [show isT 1 [108,105,107,101] t = false from hl] at a7 e7
  rw [if_neg (by decide)] at a7
  have b47:=b5.trans (b6.trans b7)
  have n47:=b47.next
  obtain ⟨G8,g08,res8,e8,ld8⟩:=close_ h (g04.trans b47) (r14.fr b47 (by omega) (by omega)) rfl (Nat.le_refl _) (by omega) sv2 (hres b47 a7) fun a h _=>⟨Nat.le_of_lt h.1,by intro e; subst e; omega⟩
  have c7:=(r34.fr b47 (by omega) (by omega)).la 7 sv2.1.symm
  refine ⟨cs,G8,g08,sv2,res8,fun M hM R k=>?_⟩
  obtain ⟨m,rfl⟩ : ∃ m,M = (m + c) + 800:=⟨M - (c + 800),by omega⟩
  rw [call_eq L230]
  unfold B230
  simp (disch:=first | omega | (simp only [List.length_cons,List.length_nil]; omega)) only [EX,reduceIte,Nat.reduceEqDiff,Nat.reduceAdd,Int.reduceEq,Int.reduceLT,Int.reduceLE,reduceCtorEq,Nat.reduceLeDiff,Nat.reduceSub,Nat.reduceLT,x_callv,clv_fn,x_mkfn,List.nil_append,List.append_nil,res_3,res_ct,res_ctt,e2,e4,e5,e6,e7,c7,e8,ld8]
 cases hr : r ts with
 | none =>
  rw [hr] at res4
  exact plain res4 rfl rfl rfl fun b a=>by unfold relW; rw [hr]; exact a
 | some v =>
  obtain ⟨e,u⟩:=v
  rw [hr] at res4
  obtain ⟨a4,tr4⟩:=res4
  have hu:=hlt _ _ _ hr
  have ew : relW r ts = rel1 r e u:=by unfold relW; rw [hr]
  by_cases hc : sgC u = 0
  ·by_cases hh : isT 1 tHas u = true
   ·-- has
    obtain ⟨G5,b5,a5,e5⟩:=s270 a4
    rw [hc] at a5 e5
    rw [if_neg (by decide)] at a5
    rw [show ((0 : Nat) : Int) = 0 from rfl] at e5
    obtain ⟨G6,b6,a6,e6⟩:=s71 a5 [104,97,115]
    rw [show isT 1 [104,97,115] u = true from hh] at a6 e6
    rw [if_pos rfl] at a6
    have b46:=b5.trans b6
    have n6:=b46.next
    have tr6:=tr4.move (S':=fun a=>H.next.toN < a.toN∧a ≠ G2.next) (fun _ h _=>h) b46.next fun a h ha=>b46.get a ha (hSp a h)
    have r36:=r34.fr b46 (by omega) (by omega)
    have r16:=r14.fr b46 (by omega) (by omega)
    obtain ⟨j6,a6⟩:=a6
    obtain ⟨G7,b7,a7,e7⟩:=s131 ⟨j6,a6.grow (Grow.bump 1 G6)⟩
    have nb : (G6.bump 1).next.toN = G6.next.toN + 1:=next_bump
    have n7:=b7.next
    have r36b:=r36.grow (Grow.bump 1 G6) (by omega)
    have c36:=r36b.la 7 sv2.1.symm
    have c37:=(r36b.fr b7 (by omega) (by omega)).la 7 sv2.1.symm
    obtain ⟨G8,eG8,g08,b8,n8,rk8,hk8,at8⟩:=kids_ (n:=7) (L:=cs) h (g04.trans b46) b7 sv2.1
    have n8t : G8.next.toN = G7.next.toN:=by rw [n8]
    have tr8:=over_call tr6 b7 b8 hSp
    have r18:=((r16.grow (Grow.bump 1 G6) (by omega)).fr b7 (by omega) (by omega)).fr b8 (by omega) (by omega)
    have res8 : Res p x ts0 (fun a=>H.next.toN < a.toN∧a ≠ G2.next) G8 bad (ec 8 false 0 (tokO (anyT 1 (u.drop 1))).s [] [] (.sl G6.next 0 1 (some 1) 7)) (relW r ts):=by
     rw [ew]
     unfold rel1
     rw [if_neg (by rw [hc]; decide),if_pos hh,wName_any]
     cases hy : anyT 1 (u.drop 1) with
     | none =>
      rw [hy] at a7
      have a7 : At p x ts0 G7 (bad || true) []:=a7
      rw [Bool.or_true] at a7
      exact at8 a7
     | some v7 =>
      obtain ⟨t7,u7⟩:=v7
      rw [hy] at a7
      have a7 : At p x ts0 G7 (bad || false) u7:=a7
      rw [Bool.or_false] at a7
      exact ⟨at8 a7,TreeS.node1 ⟨by omega,by intro e; have:=congrArg Pa.toN e; omega⟩ (by omega) rk8 tr8⟩
    obtain ⟨G9,g09,res9,e9,ld9⟩:=close_ h g08 r18 rfl (Nat.le_refl _) (by omega) (sev_ec rfl av1_sl) res8 fun a h _=>⟨Nat.le_of_lt h.1,by intro e; subst e; omega⟩
    refine ⟨_,G9,g09,sev_ec rfl av1_sl,res9,fun M hM R k=>?_⟩
    obtain ⟨m,rfl⟩ : ∃ m,M = (m + c) + 800:=⟨M - (c + 800),by omega⟩
    have hlf:=fun (R : Type) (F : List AV→Option R)=>fillK sv2.1 F
    have hl7:=sv2.1
    have cav:=sv2.2.2
    have e9 : ∀ (R : Type) (k : HK R),stC 7 (.p H.next 0) (.ag [.i .i64 8,.b false,.i .i64 0,str (tokO (anyT 1 (u.drop 1))).s,str [],str [],.sl G6.next 0 1 (some 1) 7]) k G8 = k un G9:=e9
    rw [call_eq L230]
    unfold B230
    simp (disch:=first | omega | (simp only [List.length_cons,List.length_nil]; omega)) only [EX,reduceIte,Nat.reduceEqDiff,Nat.reduceAdd,Int.reduceEq,Int.reduceLT,Int.reduceLE,reduceCtorEq,Nat.reduceLeDiff,Nat.reduceSub,Nat.reduceLT,x_callv,clv_fn,x_mkfn,List.nil_append,List.append_nil,res_3,res_ct,res_ctt,e2,e4,e5,e6,c36,e7,c37,cav,hlf]
    rw [hl7,← eG8]
    simp (disch:=first | omega | (simp only [List.length_cons,List.length_nil]; omega)) only [EX,reduceIte,Nat.reduceEqDiff,Nat.reduceAdd,Int.reduceEq,Int.reduceLT,Int.reduceLE,reduceCtorEq,Nat.reduceLeDiff,Nat.reduceSub,Nat.reduceLT,x_callv,clv_fn,x_mkfn,List.nil_append,List.append_nil,res_3,res_ct,res_ctt,e9,ld9]
   ·by_cases hl : isT 1 tLike u = true
    ·-- like
     obtain ⟨G5,b5,a5,e5⟩:=s270 a4
     rw [hc] at a5 e5
     rw [if_neg (by decide)] at a5
     rw [show ((0 : Nat) : Int) = 0 from rfl] at e5
     obtain ⟨G6,b6,a6,e6⟩:=s71 a5 [104,97,115]
     rw [show isT 1 [104,97,115] u = false from Bool.eq_false_iff.mpr hh] at a6 e6
     rw [if_neg (by decide)] at a6
     have e6a:=e6
     obtain ⟨G6',b6',a6,e6⟩:=s71 a6 [108,105,107,101]
     rw [show isT 1 [108,105,107,101] u = true from hl] at a6 e6
     rw [if_pos rfl] at a6
     have b46:=b5.trans (b6.trans b6')
     clear b6
     obtain ⟨G6,rfl⟩ : ∃ G,G = G6':=⟨_,rfl⟩
     have n6:=b46.next
     have tr6:=tr4.move (S':=fun a=>H.next.toN < a.toN∧a ≠ G2.next) (fun _ h _=>h) b46.next fun a h ha=>b46.get a ha (hSp a h)
     have r36:=r34.fr b46 (by omega) (by omega)
     have r16:=r14.fr b46 (by omega) (by omega)
     obtain ⟨j6,a6⟩:=a6
     obtain ⟨G7,b7,a7,e7⟩:=s202 ⟨j6,a6.grow (Grow.bump 1 G6)⟩
     have nb : (G6.bump 1).next.toN = G6.next.toN + 1:=next_bump
     have n7:=b7.next
     have r36b:=r36.grow (Grow.bump 1 G6) (by omega)
     have c36:=r36b.la 7 sv2.1.symm
     have c37:=(r36b.fr b7 (by omega) (by omega)).la 7 sv2.1.symm
     obtain ⟨G8,eG8,g08,b8,n8,rk8,hk8,at8⟩:=kids_ (n:=7) (L:=cs) h (g04.trans b46) b7 sv2.1
     have n8t : G8.next.toN = G7.next.toN:=by rw [n8]
     have tr8:=over_call tr6 b7 b8 hSp
     have r18:=((r16.grow (Grow.bump 1 G6) (by omega)).fr b7 (by omega) (by omega)).fr b8 (by omega) (by omega)
     have res8 : Res p x ts0 (fun a=>H.next.toN < a.toN∧a ≠ G2.next) G8 bad (ec 10 false 0 (tokO (anyT 3 (u.drop 1))).s [] [] (.sl G6.next 0 1 (some 1) 7)) (relW r ts):=by
      rw [ew]
      unfold rel1
      rw [if_neg (by rw [hc]; decide),if_neg hh,if_pos hl,wStr_any]
      cases hy : anyT 3 (u.drop 1) with
      | none =>
       rw [hy] at a7
       have a7 : At p x ts0 G7 (bad || true) []:=a7
       rw [Bool.or_true] at a7
       exact at8 a7
      | some v7 =>
       obtain ⟨t7,u7⟩:=v7
       rw [hy] at a7
       have a7 : At p x ts0 G7 (bad || false) u7:=a7
       rw [Bool.or_false] at a7
       exact ⟨at8 a7,TreeS.node1 ⟨by omega,by intro e; have:=congrArg Pa.toN e; omega⟩ (by omega) rk8 tr8⟩
     obtain ⟨G9,g09,res9,e9,ld9⟩:=close_ h g08 r18 rfl (Nat.le_refl _) (by omega) (sev_ec rfl av1_sl) res8 fun a h _=>⟨Nat.le_of_lt h.1,by intro e; subst e; omega⟩
     refine ⟨_,G9,g09,sev_ec rfl av1_sl,res9,fun M hM R k=>?_⟩
     obtain ⟨m,rfl⟩ : ∃ m,M = (m + c) + 800:=⟨M - (c + 800),by omega⟩
     have hlf:=fun (R : Type) (F : List AV→Option R)=>fillK sv2.1 F
     have hl7:=sv2.1
     have cav:=sv2.2.2
     have e9 : ∀ (R : Type) (k : HK R),stC 7 (.p H.next 0) (.ag [.i .i64 10,.b false,.i .i64 0,str (tokO (anyT 3 (u.drop 1))).s,str [],str [],.sl G6.next 0 1 (some 1) 7]) k G8 = k un G9:=e9
     rw [call_eq L230]
     unfold B230
     simp (disch:=first | omega | (simp only [List.length_cons,List.length_nil]; omega)) only [EX,reduceIte,Nat.reduceEqDiff,Nat.reduceAdd,Int.reduceEq,Int.reduceLT,Int.reduceLE,reduceCtorEq,Nat.reduceLeDiff,Nat.reduceSub,Nat.reduceLT,x_callv,clv_fn,x_mkfn,List.nil_append,List.append_nil,res_3,res_ct,res_ctt,e2,e4,e5,e6a,e6,c36,e7,c37,cav,hlf]
     rw [hl7,← eG8]
     simp (disch:=first | omega | (simp only [List.length_cons,List.length_nil]; omega)) only [EX,reduceIte,Nat.reduceEqDiff,Nat.reduceAdd,Int.reduceEq,Int.reduceLT,Int.reduceLE,reduceCtorEq,Nat.reduceLeDiff,Nat.reduceSub,Nat.reduceLT,x_callv,clv_fn,x_mkfn,List.nil_append,List.append_nil,res_3,res_ct,res_ctt,e9,ld9]
    ·refine plain a4 hc (Bool.eq_false_iff.mpr hh) (Bool.eq_false_iff.mpr hl) fun b a=>?_
     rw [ew]
     unfold rel1
     rw [if_neg (by rw [hc]; decide),if_neg hh,if_neg hl]
     exact ⟨a,tr4.move (fun _ h _=>h) b.next fun a h ha=>b.get a ha (hSp a h)⟩
  ·-- compared
   obtain ⟨G5,b5,a5,e5⟩:=s270 a4
   rw [if_pos hc] at a5
   have n5:=b5.next
   have hlc:=sgC_lt hc
   have c35:=(r34.fr b5 (by omega) (by omega)).la 7 sv2.1.symm
   have tr5:=tr4.move (S':=fun a=>H.next.toN < a.toN∧a ≠ G2.next) (fun _ h _=>h) b5.next fun a h ha=>b5.get a ha (hSp a h)
   obtain ⟨j5,a5⟩:=a5
   obtain ⟨cs6,G6,b6,sv6,res6,e6⟩:=hnext ⟨j5,a5.grow (Grow.bump 1 G5)⟩ (by omega)
   have nb : (G5.bump 1).next.toN = G5.next.toN + 1:=next_bump
   have n6:=b6.next
   obtain ⟨G7,eG7,g07,b7,n7,rk7,hk7,at7⟩:=kids_ (n:=14) (L:=cs ++ cs6) h (g04.trans b5) b6 (by rw [List.length_append,sv2.1,sv6.1])
   have n7t : G7.next.toN = G6.next.toN:=by rw [n7]
   have tr7:=over_call tr5 b6 b7 hSp
   have r17:=(((r14.fr b5 (by omega) (by omega)).grow (Grow.bump 1 G5) (by omega)).fr b6 (by omega) (by omega)).fr b7 (by omega) (by omega)
   have c36:=(((r34.fr b5 (by omega) (by omega)).grow (Grow.bump 1 G5) (by omega)).fr b6 (by omega) (by omega)).la 7 sv2.1.symm
   have res7 : Res p x ts0 (fun a=>H.next.toN < a.toN∧a ≠ G2.next) G7 bad (ec (sgC u) false 0 [] [] [] (.sl G5.next 0 2 (some 2) 7)) (relW r ts):=by
    rw [ew]
    unfold rel1
    rw [if_pos hc]
    cases hr6 : r (u.drop 1) with
    | none=>rw [hr6] at res6; exact at7 res6
    | some v6 =>
     obtain ⟨e6,u6⟩:=v6
     rw [hr6] at res6
     refine ⟨at7 res6.1,TreeS.node2 ⟨by omega,by intro e; have:=congrArg Pa.toN e; omega⟩ (by omega) rk7 tr7 (res6.2.move (fun a h _=>⟨by have h : (G5.bump 1).next.toN≤a.toN:=h; omega,by intro e; subst e; have h : (G5.bump 1).next.toN≤G2.next.toN:=h; omega⟩) (by omega) fun a h ha=>b7.get a ha (by intro e; subst e; have h : (G5.bump 1).next.toN≤G5.next.toN:=h; omega))⟩
   obtain ⟨G8,g08,res8,e8,ld8⟩:=close_ h g07 r17 rfl (Nat.le_refl _) (by omega) (sev_ec rfl av1_sl) res7 fun a h _=>⟨Nat.le_of_lt h.1,by intro e; subst e; omega⟩
   refine ⟨_,G8,g08,sev_ec rfl av1_sl,res8,fun M hM R k=>?_⟩
   obtain ⟨m,rfl⟩ : ∃ m,M = (m + c) + 800:=⟨M - (c + 800),by omega⟩
   have hc' : ¬ ((sgC u : Nat) : Int) = 0:=by omega
   have hlf : ∀ (R : Type) (F : List AV→Option R),fillV [(0,7,.ag cs),(7,7,.ag cs6)] [.i .i64 0,.b false,.i .i64 0,str [],str [],str [],.ns,.i .i64 0,.b false,.i .i64 0,str [],str [],str [],.ns] F = F (cs ++ cs6):=fun R F=>fill7_2 sv2.1 sv6.1
   have hl14 : (cs ++ cs6).length = 14:=by rw [List.length_append,sv2.1,sv6.1]
   have cav:=sv2.2.2
   have c35b:=((r34.fr b5 (by omega) (by omega)).grow (Grow.bump 1 G5) (by omega)).la 7 sv2.1.symm
   have e8 : ∀ (R : Type) (k : HK R),stC 7 (.p H.next 0) (.ag [.i .i64 (sgC u : Int),.b false,.i .i64 0,str [],str [],str [],.sl G5.next 0 2 (some 2) 7]) k G7 = k un G8:=e8
   rw [call_eq L230]
   unfold B230
   simp (disch:=first | omega | (simp only [List.length_cons,List.length_nil]; omega)) only [EX,reduceIte,Nat.reduceEqDiff,Nat.reduceAdd,Int.reduceEq,Int.reduceLT,Int.reduceLE,reduceCtorEq,Nat.reduceLeDiff,Nat.reduceSub,Nat.reduceLT,x_callv,clv_fn,x_mkfn,List.nil_append,List.append_nil,res_3,res_ct,res_ctt,e2,e4,e5,hc',c35b,e6,c36,cav,hlf]
   rw [hl14,← eG7]
   simp (disch:=first | omega | (simp only [List.length_cons,List.length_nil]; omega)) only [EX,reduceIte,Nat.reduceEqDiff,Nat.reduceAdd,Int.reduceEq,Int.reduceLT,Int.reduceLE,reduceCtorEq,Nat.reduceLeDiff,Nat.reduceSub,Nat.reduceLT,x_callv,clv_fn,x_mkfn,List.nil_append,List.append_nil,res_3,res_ct,res_ctt,e8,ld8]
end
end Go.Proofs.YtgnfndhmfgghdaaGreatDoor

/- Signs ahead (reader.un). -/
namespace Go.Proofs.YtgnfndhmfgghdaaGreatDoor
open Go Go.Vai
set_option maxRecDepth 100000
set_option maxHeartbeats 3200000
set_option linter.unusedSimpArgs false
section
variable {p : Pa} {x : AV} {ts0 : List Tok} {H H' : Heap} {bad : Bool} {ts : List Tok} {i : Nat}
def unW (r1 r0 : Rd) (ts : List Tok) : Option (Ex × List Tok) :=
 if isT 4 [33] ts = true then (match r1 (ts.drop 1) with | none=>none | some (e,r)=>some (one1 11 e,r))
 else if isT 4 [45] ts = true then (match r1 (ts.drop 1) with | none=>none | some (e,r)=>some (one1 12 e,r))
 else r0 ts
/-- Kids in a new room. -/
theorem kids_new {H0 G : Heap} (g0 : GrowBut p H0 G) {n : Nat} {L : List AV} (hL : L.length = n) :
  ∃ G3,G3 = G.alloc (.cells false 0 35 n (setCells L 0 .leaf))∧GrowBut p H0 G3∧Grow G G3∧Row G3 G.next 35 L∧G.next.toN < G3.next.toN:=by
 subst hL
 have:=next_alloc G (.cells false 0 35 L.length (setCells L 0 .leaf))
 exact ⟨_,rfl,g0.trans ((Grow.alloc G _).but p),Grow.alloc G _,Row.new G 35 L,by omega⟩
theorem s314 {n c : Nat} {r1 r0 : Rd} (h1 : ∀ {H bad ts},At p x ts0 H bad ts→8 * ts.length + 2≤n→Reads p x ts0 314 c [.p p 0] (r1 ts) H bad) (h0 : ∀ {H bad ts},At p x ts0 H bad ts→8 * ts.length + 1≤n→Reads p x ts0 323 c [.p p 0] (r0 ts) H bad)
  (h : At p x ts0 H bad ts) (hn : 8 * ts.length + 1≤n) : Reads p x ts0 314 (c + 600) [.p p 0] (unW r1 r0 ts) H bad:=by
 obtain ⟨i,h⟩:=h
 have hpn:=h.lt
 obtain ⟨G1,eG1,g1,q1,n1⟩:=ex_new H
 obtain ⟨G2,b2,a2,e2⟩:=s125 ⟨i,h.grow g1⟩ [33]
 have n2:=b2.next
 have hS : ∀ a : Pa,G1.next.toN≤a.toN→a ≠ p:=fun a h e=>by subst e; omega
 -- one kid
 have one : ∀ {G2 : Heap} {op : Nat} {bad : Bool} {u : List Tok},GrowBut p G1 G2→At p x ts0 G2 bad u→8 * u.length + 2≤n→unW r1 r0 ts = (match r1 u with | none=>none | some (e,r)=>some (one1 op e,r)) →
   (∀ (cs : List AV) (G3 G4 G5 : Heap),Sev cs→(∀ M,c≤M→∀ (R : Type) (k : HK R),callK tbl (runK tbl M) R (toPa 314) [.p p 0] G2 k = k (.ag cs) G3)→G4 = G3.alloc (.cells false 0 35 7 (setCells cs 0 .leaf)) →
    (∀ (R : Type) (k : HK R),stC 7 (.p H.next 0) (.ag [.i .i64 (op : Int),.b false,.i .i64 0,str [],str [],str [],.sl G3.next 0 1 (some 1) 7]) k G4 = k un G5)→(∀ (R : Type) (k : HK R),ldC true 7 (.p H.next 0) k G5 = k (.ag [.i .i64 (op : Int),.b false,.i .i64 0,str [],str [],str [],.sl G3.next 0 1 (some 1) 7]) G5) →
    ∀ M,c + 600≤M→∀ (R : Type) (k : HK R),callK tbl (runK tbl M) R (toPa 314) [.p p 0] H k = k (.ag [.i .i64 (op : Int),.b false,.i .i64 0,str [],str [],str [],.sl G3.next 0 1 (some 1) 7]) G5) →
   Reads p x ts0 314 (c + 600) [.p p 0] (unW r1 r0 ts) H bad:=by
  intro G2 op bad u b2 a2 hu ew run
  have n2:=b2.next
  obtain ⟨cs,G3,b3,sv3,res3,e3⟩:=h1 a2 hu
  have n3:=b3.next
  obtain ⟨G4,eG4,g04,g4,rk4,n4⟩:=kids_new (((g1.but p).trans b2).trans b3) sv3.1
  have q4:=(((q1.fr b2 (by omega) n1).fr b3 (by omega) (by omega)).grow g4 (by omega))
  have res4 : Res p x ts0 (New G1.next.toN) G4 bad (ec op false 0 [] [] [] (.sl G3.next 0 1 (some 1) 7)) (unW r1 r0 ts):=by
   rw [ew]
   cases hr : r1 u with
   | none=>rw [hr] at res3; exact res3.elim fun j aj=>⟨j,aj.grow g4⟩
   | some v =>
    obtain ⟨e,r⟩:=v
    rw [hr] at res3
    refine ⟨res3.1.elim fun j aj=>⟨j,aj.grow g4⟩,TreeS.node1 (show G1.next.toN≤G3.next.toN by omega) n4 rk4 (res3.2.move (fun a h _=>by have h : G2.next.toN≤a.toN:=h; show G1.next.toN≤a.toN; omega) (by omega) fun a h ha=>g4.get a ha)⟩
  obtain ⟨G5,g05,res5,e5,ld5⟩:=close_ h g04 q4 rfl (Nat.le_refl _) (by omega) (sev_ec rfl av1_sl) res4 fun a h _=>⟨by have h : G1.next.toN≤a.toN:=h; omega,by intro e; subst e; have h : G1.next.toN≤H.next.toN:=h; omega⟩
  exact ⟨_,G5,g05,sev_ec rfl av1_sl,res5,run cs G3 G4 G5 sv3 e3 eG4 e5 ld5⟩
 cases hx : isT 4 [33] ts with
 | true =>
  rw [hx,if_pos rfl] at a2
  rw [hx] at e2
  have hlt:=isT_lt hx
  refine one (op:=11) b2 a2 (by omega) (by unfold unW; rw [if_pos hx]) fun cs G3 G4 G5 sv e3 eG4 e5 ld5 M hM R k=>?_
  obtain ⟨m,rfl⟩ : ∃ m,M = (m + c) + 600:=⟨M - (c + 600),by omega⟩
  have hlf:=fun (R : Type) (F : List AV→Option R)=>fillK sv.1 F
  have hl7:=sv.1
  subst eG1
  rw [call_eq L314]
  unfold B314
  simp (disch:=first | omega | (simp only [List.length_cons,List.length_nil]; omega)) only [EX,reduceIte,Nat.reduceEqDiff,Nat.reduceAdd,Int.reduceEq,Int.reduceLT,Int.reduceLE,reduceCtorEq,Nat.reduceLeDiff,Nat.reduceSub,Nat.reduceLT,x_callv,clv_fn,x_mkfn,List.nil_append,List.append_nil,res_3,res_ct,res_ctt,e2,e3,hlf]
  rw [hl7,← eG4]
  have e5 : ∀ (R : Type) (k : HK R),stC 7 (.p H.next 0) (.ag [.i .i64 11,.b false,.i .i64 0,str [],str [],str [],.sl G3.next 0 1 (some 1) 7]) k G4 = k un G5:=e5
  simp (disch:=first | omega | (simp only [List.length_cons,List.length_nil]; omega)) only [EX,reduceIte,Nat.reduceEqDiff,Nat.reduceAdd,Int.reduceEq,Int.reduceLT,Int.reduceLE,reduceCtorEq,Nat.reduceLeDiff,Nat.reduceSub,Nat.reduceLT,x_callv,clv_fn,x_mkfn,List.nil_append,List.append_nil,res_3,res_ct,res_ctt,e5,ld5]
 | false =>
  rw [hx,if_neg (by decide)] at a2
  rw [hx] at e2
  obtain ⟨G2',b2',a2',e2'⟩:=s125 a2 [45]
  have n2':=b2'.next
  cases hy : isT 4 [45] ts with
  | true =>
   rw [hy,if_pos rfl] at a2'
   rw [hy] at e2'
   have hlt:=isT_lt hy
   refine one (op:=12) (b2.trans b2') a2' (by omega) (by unfold unW; rw [if_neg (by rw [hx]; decide),if_pos hy]) fun cs G3 G4 G5 sv e3 eG4 e5 ld5 M hM R k=>?_
   obtain ⟨m,rfl⟩ : ∃ m,M = (m + c) + 600:=⟨M - (c + 600),by omega⟩
   have hlf:=fun (R : Type) (F : List AV→Option R)=>fillK sv.1 F
   have hl7:=sv.1
   subst eG1
   rw [call_eq L314]
   unfold B314
   simp (disch:=first | omega | (simp only [List.length_cons,List.length_nil]; omega)) only [EX,reduceIte,Nat.reduceEqDiff,Nat.reduceAdd,Int.reduceEq,Int.reduceLT,Int.reduceLE,reduceCtorEq,Nat.reduceLeDiff,Nat.reduceSub,Nat.reduceLT,x_callv,clv_fn,x_mkfn,List.nil_append,List.append_nil,res_3,res_ct,res_ctt,e2,e2',e3,hlf]
   rw [hl7,← eG4]
   have e5 : ∀ (R : Type) (k : HK R),stC 7 (.p H.next 0) (.ag [.i .i64 12,.b false,.i .i64 0,str [],str [],str [],.sl G3.next 0 1 (some 1) 7]) k G4 = k un G5:=e5
   simp (disch:=first | omega | (simp only [List.length_cons,List.length_nil]; omega)) only [EX,reduceIte,Nat.reduceEqDiff,Nat.reduceAdd,Int.reduceEq,Int.reduceLT,Int.reduceLE,reduceCtorEq,Nat.reduceLeDiff,Nat.reduceSub,Nat.reduceLT,x_callv,clv_fn,x_mkfn,List.nil_append,List.append_nil,res_3,res_ct,res_ctt,e5,ld5]
  | false =>
   rw [hy,if_neg (by decide)] at a2'
   rw [hy] at e2'
   obtain ⟨cs,G3,b3,sv3,res3,e3⟩:=h0 a2' hn
   have n3:=b3.next
   have ew : unW r1 r0 ts = r0 ts:=by unfold unW; rw [if_neg (by rw [hx]; decide),if_neg (by rw [hy]; decide)]
   have q3:=((q1.fr b2 (by omega) n1).fr b2' (by omega) (by omega)).fr b3 (by omega) (by omega)
   obtain ⟨G5,g05,res5,e5,ld5⟩:=close_ h ((((g1.but p).trans b2).trans b2').trans b3) q3 rfl (Nat.le_refl _) (by omega) sv3 res3 fun a h _=>⟨by have h : G2'.next.toN≤a.toN:=h; omega,by intro e; subst e; have h : G2'.next.toN≤H.next.toN:=h; omega⟩
   rw [ew]
   refine ⟨cs,G5,g05,sv3,res5,fun M hM R k=>?_⟩
   obtain ⟨m,rfl⟩ : ∃ m,M = (m + c) + 600:=⟨M - (c + 600),by omega⟩
   subst eG1
   rw [call_eq L314]
   unfold B314
   simp (disch:=first | omega | (simp only [List.length_cons,List.length_nil]; omega)) only [EX,reduceIte,Nat.reduceEqDiff,Nat.reduceAdd,Int.reduceEq,Int.reduceLT,Int.reduceLE,reduceCtorEq,Nat.reduceLeDiff,Nat.reduceSub,Nat.reduceLT,x_callv,clv_fn,x_mkfn,List.nil_append,List.append_nil,res_3,res_ct,res_ctt,e2,e2',e3,e5,ld5]
end
end Go.Proofs.YtgnfndhmfgghdaaGreatDoor
