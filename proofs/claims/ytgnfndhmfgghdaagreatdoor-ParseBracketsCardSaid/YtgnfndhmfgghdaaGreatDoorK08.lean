/- A verified interpreter of the model's code, and what the functions that read expressions tell by it: part 8 (Q06, Q07, Q08, Q09, Q10, Q11, Q12, Q13, Q14). No condition but those that each statement bears. -/
import Derived.Test.YtgnfndhmfgghdaaGreatDoorK07
set_option linter.unusedVariables false
set_option linter.unusedSimpArgs false
set_option linter.unusedSectionVars false
set_option linter.constructorNameAsVariable false
set_option linter.unnecessarySimpa false
/- What the small functions of words tell: letters,digits,rows of them,what stands at the beginning,where a byte is. -/
namespace Go.Proofs.YtgnfndhmfgghdaaGreatDoor
open Go Go.Vai
set_option maxRecDepth 100000
set_option maxHeartbeats 1600000
set_option linter.unusedSimpArgs false
/-- A call that tells a value,and leaves memory as it was. -/
abbrev Told (f c : Nat) (args : List AV) (v : AV) : Prop:=∀ (M : Nat),c≤M→∀ (R : Type) (k : HK R) (H : Heap),callK tbl (runK tbl M) R (toPa f) args H k = k v H
theorem fuel {M c : Nat} (h : c≤M) : ∃ m,M = m + c:=⟨M - c,by omega⟩
def by8 (b : UInt8) : AV:=.i .u8 (b.toNat : Int)
/-- A function's value that is called. -/
noncomputable def clvC {R : Type} (call : CallK R) (f : AV) (args : List AV) (k : HK R) (H : Heap) : Option R:=vF f none fun g first caps=>fnF g fun g=>call (toPa g) (first ++ (args ++ caps)) H k
section
variable {R : Type} {call : CallK R} {fr : Tr AV} {H : Heap} {k : HK R}
theorem x_callv {f : Opd} {xs : List Opd} : xopK (.callv f xs) call fr H k = clvC call (ev fr f) (xs.map (ev fr)) k H:=by
 show evK fr f (fun f=>evsK fr xs fun args=>callvK call f args H k) = _
 rw [evK_eq,evsK_eq]; rfl
theorem clv_fn {f : Nat} {first caps args : List AV} : clvC call (.fn (.func f) first caps) args k H = call (toPa f) (first ++ (args ++ caps)) H k:=id rfl
theorem x_mkfn {f : Fn} {xs cs : List Opd} : xopK (.mkfn f xs cs) call fr H k = k (.fn f (xs.map (ev fr)) (cs.map (ev fr))) H:=by
 show evsK fr xs (fun first=>evsK fr cs fun caps=>k (.fn f first caps) H) = _
 rw [evsK_eq,evsK_eq]
end
theorem add64 {a b : Nat} (h : a + b < 9223372036854775808) : IntKind.i64.wrap ((a : Int) + (b : Int)) = ((a + b : Nat) : Int):=by rw [show (a : Int) + (b : Int) = ((a + b : Nat) : Int) by omega,wrap_n64 h]
theorem inc64 {a : Nat} (h : a < 1000000000000) : IntKind.i64.wrap ((a : Int) + 1) = ((a + 1 : Nat) : Int):=by rw [show (a : Int) + 1 = ((a + 1 : Nat) : Int) by omega,wrap_n64 (by omega)]
theorem s22 {a n : Int} (hn : 0 < n) (hb : n≤9223372036854775807) : Told 22 20 [.i .i64 a,.i .i64 n] (.i .i64 (a % n)):=by
 intro M hM R k H
 obtain ⟨m,rfl⟩:=fuel hM
 rw [call_eq L22]
 unfold B22
 have hz : n ≠ 0:=by omega
 have hb1:=tmod_lt (a:=a) hn
 have he:=tmod_emod (a:=a) hn
 by_cases h : a.tmod n < 0
 ·rw [if_pos h] at he
  have hw : IntKind.i64.wrap (a.tmod n + n) = a.tmod n + n:=wrap_i64 (by omega) (by omega)
  simp only [EX,reduceIte,Nat.reduceEqDiff,Nat.reduceAdd,Int.reduceEq,Int.reduceLT,Int.reduceLE,reduceCtorEq,Nat.reduceLeDiff,Nat.reduceSub,Nat.reduceLT,i_rem hz,i_add,h]
  rw [hw,he]
 ·rw [if_neg h] at he
  simp only [EX,reduceIte,Nat.reduceEqDiff,Nat.reduceAdd,Int.reduceEq,Int.reduceLT,Int.reduceLE,reduceCtorEq,Nat.reduceLeDiff,Nat.reduceSub,Nat.reduceLT,i_rem hz,i_add,h]
  rw [he]
theorem isL_t {b : UInt8} (h : (97≤b.toNat∧b.toNat≤122) ∨ (65≤b.toNat∧b.toNat≤90) ∨ b.toNat = 95) : isL b = true:=by
 unfold isL
 rw [Bool.or_eq_true,Bool.or_eq_true,decide_eq_true_eq,decide_eq_true_eq,decide_eq_true_eq]
 rcases h with h | h | h
 ·exact .inl (.inl h)
 ·exact .inl (.inr h)
 ·exact .inr h
theorem isL_f {b : UInt8} (h : ¬ ((97≤b.toNat∧b.toNat≤122) ∨ (65≤b.toNat∧b.toNat≤90) ∨ b.toNat = 95)) : isL b = false:=by
 cases e : isL b with
 | false=>rfl
 | true =>
  unfold isL at e
  rw [Bool.or_eq_true,Bool.or_eq_true,decide_eq_true_eq,decide_eq_true_eq,decide_eq_true_eq] at e
  omega
theorem isD_t {b : UInt8} (h : 48≤b.toNat∧b.toNat≤57) : isD b = true:=decide_eq_true h
theorem isD_f {b : UInt8} (h : ¬ (48≤b.toNat∧b.toNat≤57)) : isD b = false:=decide_eq_false h
theorem s220 {b : UInt8} : Told 220 20 [by8 b] (.b (isL b)):=by
 intro M hM R k H
 obtain ⟨m,rfl⟩:=fuel hM
 rw [call_eq L220]
 unfold B220 by8
 by_cases h1 : (97 : Int)≤(b.toNat : Int)
 ·by_cases h2 : (b.toNat : Int)≤122
  ·rw [isL_t (by omega)]
   simp only [EX,reduceIte,Nat.reduceEqDiff,Nat.reduceAdd,Int.reduceEq,Int.reduceLT,Int.reduceLE,reduceCtorEq,Nat.reduceLeDiff,Nat.reduceSub,Nat.reduceLT,h1,h2]
  ·have h3 : (65 : Int)≤(b.toNat : Int):=by omega
   have h4 : ¬ (b.toNat : Int)≤90:=by omega
   have h5 : ¬ (b.toNat : Int) = 95:=by omega
   rw [isL_f (by omega)]
   simp only [EX,reduceIte,Nat.reduceEqDiff,Nat.reduceAdd,Int.reduceEq,Int.reduceLT,Int.reduceLE,reduceCtorEq,Nat.reduceLeDiff,Nat.reduceSub,Nat.reduceLT,h1,h2,h3,h4,h5]
 ·by_cases h3 : (65 : Int)≤(b.toNat : Int)
  ·by_cases h4 : (b.toNat : Int)≤90
   ·rw [isL_t (by omega)]
    simp only [EX,reduceIte,Nat.reduceEqDiff,Nat.reduceAdd,Int.reduceEq,Int.reduceLT,Int.reduceLE,reduceCtorEq,Nat.reduceLeDiff,Nat.reduceSub,Nat.reduceLT,h1,h3,h4]
   ·by_cases h5 : (b.toNat : Int) = 95
    ·rw [isL_t (by omega)]
     simp only [EX,reduceIte,Nat.reduceEqDiff,Nat.reduceAdd,Int.reduceEq,Int.reduceLT,Int.reduceLE,reduceCtorEq,Nat.reduceLeDiff,Nat.reduceSub,Nat.reduceLT,h1,h3,h4,h5]
    ·rw [isL_f (by omega)]
     simp only [EX,reduceIte,Nat.reduceEqDiff,Nat.reduceAdd,Int.reduceEq,Int.reduceLT,Int.reduceLE,reduceCtorEq,Nat.reduceLeDiff,Nat.reduceSub,Nat.reduceLT,h1,h3,h4,h5]
  ·have h5 : ¬ (b.toNat : Int) = 95:=by omega
   rw [isL_f (by omega)]
   simp only [EX,reduceIte,Nat.reduceEqDiff,Nat.reduceAdd,Int.reduceEq,Int.reduceLT,Int.reduceLE,reduceCtorEq,Nat.reduceLeDiff,Nat.reduceSub,Nat.reduceLT,h1,h3,h5]
theorem s221 {b : UInt8} : Told 221 20 [by8 b] (.b (isD b)):=by
 intro M hM R k H
 obtain ⟨m,rfl⟩:=fuel hM
 rw [call_eq L221]
 unfold B221 by8
 by_cases h1 : (48 : Int)≤(b.toNat : Int)
 ·by_cases h2 : (b.toNat : Int)≤57
  ·rw [isD_t (by omega)]
   simp only [EX,reduceIte,Nat.reduceEqDiff,Nat.reduceAdd,Int.reduceEq,Int.reduceLT,Int.reduceLE,reduceCtorEq,Nat.reduceLeDiff,Nat.reduceSub,Nat.reduceLT,h1,h2]
  ·rw [isD_f (by omega)]
   simp only [EX,reduceIte,Nat.reduceEqDiff,Nat.reduceAdd,Int.reduceEq,Int.reduceLT,Int.reduceLE,reduceCtorEq,Nat.reduceLeDiff,Nat.reduceSub,Nat.reduceLT,h1,h2]
 ·rw [isD_f (by omega)]
  simp only [EX,reduceIte,Nat.reduceEqDiff,Nat.reduceAdd,Int.reduceEq,Int.reduceLT,Int.reduceLE,reduceCtorEq,Nat.reduceLeDiff,Nat.reduceSub,Nat.reduceLT,h1]
def isLD (b : UInt8) : Bool:=isL b || isD b
theorem s264 {b : UInt8} : Told 264 40 [by8 b] (.b (isLD b)):=by
 intro M hM R k H
 obtain ⟨m,rfl⟩:=fuel hM
 rw [call_eq L264]
 unfold B264 isLD
 cases h : isL b with
 | true=>simp only [EX,reduceIte,Nat.reduceEqDiff,Nat.reduceAdd,Int.reduceEq,Int.reduceLT,Int.reduceLE,reduceCtorEq,Nat.reduceLeDiff,Nat.reduceSub,Nat.reduceLT,s220 _ (Nat.le_add_left 20 _),h,Bool.true_or]
 | false=>simp only [EX,reduceIte,Nat.reduceEqDiff,Nat.reduceAdd,Int.reduceEq,Int.reduceLT,Int.reduceLE,reduceCtorEq,Nat.reduceLeDiff,Nat.reduceSub,Nat.reduceLT,s220 _ (Nat.le_add_left 20 _),s221 _ (Nat.le_add_left 20 _),h,Bool.false_or]
theorem ixs_n {R : Type} {k : HK R} {H : Heap} {s : List UInt8} {i : Nat} {b : UInt8} (h : s[i]? = some b) : ixsC (str s) (.i .i64 (i : Int)) k H = k (by8 b) H:=ixs_str (by omega) h
theorem ixs_0 {R : Type} {k : HK R} {H : Heap} {s : List UInt8} {b : UInt8} (h : s[0]? = some b) : ixsC (str s) (.i .i64 0) k H = k (by8 b) H:=ixs_str (i:=0) (by omega) h
theorem sls_f {R : Type} {k : HK R} {H : Heap} {s : List UInt8} {i : Nat} (h : i≤s.length) : slsC (str s) (some (.i .i64 (i : Int))) none k H = k (str (s.drop i)) H:=by
 show guardK (Nat.ble i s.length) (guardK (Nat.ble s.length s.length) (strV (Nat.sub s.length i) (subS (pk s) s.length i s.length) fun v=>k v H)) = _
 rw [Nat.ble_eq_true_of_le h,Nat.ble_eq_true_of_le (Nat.le_refl _),strV_eq,sub_str h (Nat.le_refl _)]
 show k (.s (s.length - i) _) H = k (.s _ _) H
 have e : (s.drop i).take (s.length - i) = s.drop i:=List.take_of_length_le (by rw [List.length_drop]; exact Nat.le_refl _)
 rw [e,List.length_drop]
theorem sls_t {R : Type} {k : HK R} {H : Heap} {s : List UInt8} {n : Nat} (h : n≤s.length) : slsC (str s) none (some (.i .i64 (n : Int))) k H = k (str (s.take n)) H:=by
 show guardK (Nat.ble 0 n) (guardK (Nat.ble n s.length) (strV (Nat.sub n 0) (subS (pk s) s.length 0 n) fun v=>k v H)) = _
 rw [Nat.ble_eq_true_of_le (Nat.zero_le n),Nat.ble_eq_true_of_le h,strV_eq,sub_str (Nat.zero_le n) h]
 show k (.s n _) H = k (.s _ _) H
 rw [List.drop_zero,Nat.sub_zero,List.length_take,Nat.min_eq_left h]
theorem sls_ft {R : Type} {k : HK R} {H : Heap} {s : List UInt8} {l h : Nat} (h1 : l≤h) (h2 : h≤s.length) : slsC (str s) (some (.i .i64 (l : Int))) (some (.i .i64 (h : Int))) k H = k (str ((s.drop l).take (h - l))) H :=
 sls_str (by omega) (by omega) (by omega)
/-- A loop,by what a round does; all told by what comes behind. -/
theorem loop_cps {Lp : AC} {ex n c : Nat} {St : Type} (Inv : Nat→Heap→St→Prop) (F : Nat→St→Tr AV→Prop)
  (hend : ∀ H st,Inv n H st→∀ fr,F n st fr→∀ M,c≤M→∀ (R : Type) (k : XK R) (res : Option R),(∀ fr',F n st fr'→k (.exit ex) fr' H = res)→runK tbl M R Lp fr H k = res)
  (hstep : ∀ i H st,i < n→Inv i H st→∃ H' st',Inv (i + 1) H' st'∧∀ fr,F i st fr→∀ M,c≤M→∀ (R : Type) (k : XK R) (res : Option R),(∀ fr',F (i + 1) st' fr'→runK tbl M R Lp fr' H' k = res)→runK tbl (M + 1) R Lp fr H k = res) :
  ∀ m i H st,i + m = n→Inv i H st→∃ H' st',Inv n H' st'∧∀ fr,F i st fr→∀ M,c + m≤M→∀ (R : Type) (k : XK R) (res : Option R),(∀ fr',F n st' fr'→k (.exit ex) fr' H' = res)→runK tbl M R Lp fr H k = res:=by
 intro m
 induction m with
 | zero =>
  intro i H st hi inv
  obtain rfl : i = n:=by omega
  exact ⟨H,st,inv,fun fr f M hM R k res hr=>hend H st inv fr f M (by omega) R k res hr⟩
 | succ m ih =>
  intro i H st hi inv
  obtain ⟨H1,st1,inv1,e1⟩:=hstep i H st (by omega) inv
  obtain ⟨H2,st2,inv2,e2⟩:=ih (i + 1) H1 st1 (by omega) inv1
  refine ⟨H2,st2,inv2,fun fr f M hM R k res hr=>?_⟩
  obtain ⟨M,rfl⟩ : ∃ m,M = m + 1:=⟨M - 1,by omega⟩
  exact e1 fr f M (by omega) R k res fun fr' f'=>e2 fr' f' M (by omega) R k res hr
/-- A loop that leaves memory as it was. -/
theorem loop_still {Lp : AC} {ex n c : Nat} {H : Heap} (F : Nat→Tr AV→Prop)
  (hend : ∀ fr,F n fr→∀ M,c≤M→∀ (R : Type) (k : XK R) (res : Option R),(∀ fr',F n fr'→k (.exit ex) fr' H = res)→runK tbl M R Lp fr H k = res)
  (hstep : ∀ i,i < n→∀ fr,F i fr→∀ M,c≤M→∀ (R : Type) (k : XK R) (res : Option R),(∀ fr',F (i + 1) fr'→runK tbl M R Lp fr' H k = res)→runK tbl (M + 1) R Lp fr H k = res) :
  ∀ fr,F 0 fr→∀ M,c + n≤M→∀ (R : Type) (k : XK R) (res : Option R),(∀ fr',F n fr'→k (.exit ex) fr' H = res)→runK tbl M R Lp fr H k = res:=by
 obtain ⟨H',_,rfl,e⟩:=loop_cps (Lp:=Lp) (ex:=ex) (n:=n) (c:=c) (St:=Unit) (fun _ G _=>G = H) (fun i _ fr=>F i fr)
  (fun G _ hG=>by subst hG; exact hend)
  (fun i G _ hi hG=>by subst hG; exact ⟨G,(),rfl,hstep i hi⟩)
  n 0 H () (Nat.zero_add _) rfl
 exact e
noncomputable def Lp263 : AC:=(.loop (.seq (.seq (.ops [O 6 (.mv (T 5)),O 7 (.mv (T 0)),O 8 (.len true (T 7)),O 9 (.bin .lss .no (T 6) (T 8)),O 10 (.mv (T 9)),G 11 10 true (.mv (T 1)),G 12 10 true (.mv (T 0)),G 13 10 true (.mv (T 5)),G 14 10 true (.ixs (T 12) (T 13)),G 15 10 true (.callv (T 11) [(T 14)]),O 16 (.pick (T 10) (T 15) (K (.b false)))]) (.cond (T 16) .skip (.exit 0))) (.block 1 (.ops [O 17 (.mv (T 5)),O 18 (.bin .add .no (T 17) (K (.i .i64 1))),O 5 (.mv (T 18))]))))
theorem B263_eq : B263 = (.seq (.ops [O 4 (.mv (K (.i .i64 0)))]) (.seq (.ops [O 5 (.mv (K (.i .i64 0)))]) (.seq (.block 0 Lp263) (.seq (.ops [O 19 (.mv (T 5)),O 4 (.mv (T 19))]) .ret)))):=rfl
def F263 (s : List UInt8) (g : AV) (i : Nat) (fr : Tr AV) : Prop:=V fr 0 = str s∧V fr 1 = g∧V fr 5 = .i .i64 (i : Int)
/-- How many bytes from the first on are such. -/
theorem s263 {s : List UInt8} {f c : Nat} {p : UInt8→Bool} (hp : ∀ b,Told f c [by8 b] (.b (p b))) (hc : c≤100) (hs : s.length≤1000) : Told 263 (s.length + 200) [str s,.fn (.func f) [] []] (.i .i64 (cntW p s : Int)):=by
 intro M hM R k H
 obtain ⟨m,rfl⟩ : ∃ m,M = (m + s.length) + 200:=⟨M - (s.length + 200),by omega⟩
 rw [call_eq L263]
 rw [B263_eq]
 have hle:=cntW_le p s
 have hpc : ∀ (m : Nat) (b : UInt8) (R : Type) (k : HK R) (H : Heap),callK tbl (runK tbl (m + 100)) R (toPa f) [by8 b] H k = k (.b (p b)) H:=fun m b=>hp b _ (by omega)
 have E:=loop_still (Lp:=Lp263) (ex:=0) (n:=cntW p s) (c:=150) (H:=H) (F263 s (.fn (.func f) [] []))
  (fun fr ⟨f0,f1,f5⟩ M hM R k res hr=>by
   obtain ⟨m,rfl⟩:=fuel hM
   unfold Lp263
   rw [run_loop]
   by_cases hl : cntW p s < s.length
   ·have hl' : (cntW p s : Int) < (s.length : Int):=by omega
    have hb : s[cntW p s]? = some s[cntW p s]:=List.getElem?_eq_getElem hl
    have hpb:=cntW_end hb
    simp only [EX,reduceIte,Nat.reduceEqDiff,Nat.reduceAdd,Int.reduceEq,Int.reduceLT,Int.reduceLE,reduceCtorEq,Nat.reduceLeDiff,Nat.reduceSub,Nat.reduceLT,f0,f1,f5,hl',ixs_n hb,x_callv,clv_fn,List.nil_append,List.append_nil,hpc,hpb]
    refine hr _ ⟨?_,?_,?_⟩
    all_goals simp only [V_S,Nat.reduceEqDiff,reduceIte]
    all_goals assumption
   ·have hl' : ¬ (cntW p s : Int) < (s.length : Int):=by omega
    simp only [EX,reduceIte,Nat.reduceEqDiff,Nat.reduceAdd,Int.reduceEq,Int.reduceLT,Int.reduceLE,reduceCtorEq,Nat.reduceLeDiff,Nat.reduceSub,Nat.reduceLT,f0,f1,f5,hl']
    refine hr _ ⟨?_,?_,?_⟩
    all_goals simp only [V_S,Nat.reduceEqDiff,reduceIte]
    all_goals assumption)
  (fun i hi fr ⟨f0,f1,f5⟩ M hM R k res hr=>by
   obtain ⟨m,rfl⟩:=fuel hM
   unfold Lp263
   rw [run_loop]
   have hl : i < s.length:=by omega
   have hl' : (i : Int) < (s.length : Int):=by omega
   have hb : s[i]? = some s[i]:=List.getElem?_eq_getElem hl
   have hpb:=cntW_at hb hi
   have hr : ∀ fr',F263 s (.fn (.func f) [] []) (i + 1) fr'→runK tbl (m + 150) R Lp263 fr' H k = res:=hr
   simp only [EX,reduceIte,Nat.reduceEqDiff,Nat.reduceAdd,Int.reduceEq,Int.reduceLT,Int.reduceLE,reduceCtorEq,Nat.reduceLeDiff,Nat.reduceSub,Nat.reduceLT,f0,f1,f5,hl',ixs_n hb,x_callv,clv_fn,List.nil_append,List.append_nil,hpc,hpb,i_add,inc64 (show i < 1000000000000 by omega)]
   refine hr _ ⟨?_,?_,?_⟩
   all_goals simp only [V_S,Nat.reduceEqDiff,reduceIte]
   all_goals assumption)
 simp only [EX,reduceIte,Nat.reduceEqDiff,Nat.reduceAdd,Int.reduceEq,Int.reduceLT,Int.reduceLE,reduceCtorEq,Nat.reduceLeDiff,Nat.reduceSub,Nat.reduceLT]
 refine E _ ⟨?_,?_,?_⟩ _ (by omega) _ _ _ ?_
 all_goals try simp only [EX,reduceIte,Nat.reduceEqDiff,Nat.reduceAdd,Int.reduceEq,Int.reduceLT,Int.reduceLE,reduceCtorEq,Nat.reduceLeDiff,Nat.reduceSub,Nat.reduceLT]
 all_goals try rfl
 rintro fr ⟨f0,f1,f5⟩
 simp only [EX,reduceIte,Nat.reduceEqDiff,Nat.reduceAdd,Int.reduceEq,Int.reduceLT,Int.reduceLE,reduceCtorEq,Nat.reduceLeDiff,Nat.reduceSub,Nat.reduceLT,f5]
theorem s261 {s p : List UInt8} : Told 261 20 [str s,str p] (.b (decide (s.take p.length = p))):=by
 intro M hM R k H
 obtain ⟨m,rfl⟩:=fuel hM
 rw [call_eq L261]
 unfold B261
 by_cases h : (p.length : Int)≤(s.length : Int)
 ·simp only [EX,reduceIte,Nat.reduceEqDiff,Nat.reduceAdd,Int.reduceEq,Int.reduceLT,Int.reduceLE,reduceCtorEq,Nat.reduceLeDiff,Nat.reduceSub,Nat.reduceLT,h,sls_t (show p.length≤s.length by omega),s_eql]
 ·have e : decide (s.take p.length = p) = false:=decide_eq_false (fun e=>by have:=congrArg List.length e; rw [List.length_take] at this; omega)
  simp only [EX,reduceIte,Nat.reduceEqDiff,Nat.reduceAdd,Int.reduceEq,Int.reduceLT,Int.reduceLE,reduceCtorEq,Nat.reduceLeDiff,Nat.reduceSub,Nat.reduceLT,h,e]
theorem s223 {s p : List UInt8} : Told 223 40 [str s,str p] (.b (decide (s.take p.length = p))):=by
 intro M hM R k H
 obtain ⟨m,rfl⟩:=fuel hM
 rw [call_eq L223]
 unfold B223
 simp only [EX,reduceIte,Nat.reduceEqDiff,Nat.reduceAdd,Int.reduceEq,Int.reduceLT,Int.reduceLE,reduceCtorEq,Nat.reduceLeDiff,Nat.reduceSub,Nat.reduceLT,s261 _ (Nat.le_add_left 20 _)]
end Go.Proofs.YtgnfndhmfgghdaaGreatDoor

/- Where a byte is in a text; blanks and remarks (lex.over). -/
namespace Go.Proofs.YtgnfndhmfgghdaaGreatDoor
open Go Go.Vai
set_option maxRecDepth 100000
set_option maxHeartbeats 1600000
set_option linter.unusedSimpArgs false
def neB (c : UInt8) (b : UInt8) : Bool:=decide (b ≠ c)
/-- Where a byte is first; -1: nowhere. -/
def idxB (c : UInt8) (s : List UInt8) : Int:=if cntW (neB c) s < s.length then (cntW (neB c) s : Int) else -1
noncomputable def ixbC {R : Type} (x c : AV) (k : HK R) (H : Heap) : Option R:=vS x fun len n=>Go.Vai.byteOf c fun c=>idxByteK len n c len 0 fun v=>k v H
theorem x_ixb {R : Type} {call : CallK R} {fr : Tr AV} {H : Heap} {k : HK R} {x c : Opd} : xopK (.ixb x c) call fr H k = ixbC (ev fr x) (ev fr c) k H:=by
 show evK fr x (fun x=>evK fr c fun c=>vS x fun len n=>Go.Vai.byteOf c fun c=>idxByteK len n c len 0 fun v=>k v H) = _
 rw [evK_eq,evK_eq]; rfl
theorem idx_go {R : Type} {s : List UInt8} {c : UInt8} {k : AV→Option R} : ∀ (f i : Nat),i + f = s.length→idxByteK s.length (pk s) c.toNat f i k = k (.i .i64 (if i + cntW (neB c) (s.drop i) < s.length then ((i + cntW (neB c) (s.drop i) : Nat) : Int) else -1))
 | 0,i,h=>by
  rw [List.drop_of_length_le (by omega)]
  show k (.i .i64 (.negSucc 0)) = _
  rw [if_neg (by show ¬ i + 0 < _; omega)]; rfl
 | f + 1,i,h=>by
  have hi : i < s.length:=by omega
  have hb : s[i]? = some s[i]:=List.getElem?_eq_getElem hi
  show (Bool.casesOn (Nat.beq (byteAt s.length (pk s) i) c.toNat) (forceN (Nat.succ i) fun i=>idxByteK s.length (pk s) c.toNat f i k) (k (.i .i64 (.ofNat i))) : Option R) = _
  rw [byte_of hb,drop_at hb,cntW_cons]
  by_cases q : s[i] = c
  ·have e : Nat.beq (s[i]).toNat c.toNat = true:=by rw [q,Nat.beq_refl]
   have e2 : neB c s[i] = false:=by unfold neB; rw [q]; simp
   rw [e,e2,if_neg Bool.false_ne_true,if_pos (by omega)]; rfl
  ·have e : Nat.beq (s[i]).toNat c.toNat = false:=by
    cases x : Nat.beq (s[i]).toNat c.toNat with
    | false=>rfl
    | true=>exact absurd (UInt8.toNat_inj.mp (Nat.eq_of_beq_eq_true x)) q
   have e2 : neB c s[i] = true:=decide_eq_true q
   rw [e,e2,if_pos rfl]
   show forceN (Nat.succ i) (fun i=>idxByteK s.length (pk s) c.toNat f i k) = _
   rw [forceN_eq,idx_go f (i + 1) (by omega)]
   rw [show i + 1 + cntW (neB c) (s.drop (i + 1)) = i + (cntW (neB c) (s.drop (i + 1)) + 1) by omega]
theorem ixb_str {R : Type} {s : List UInt8} {c : UInt8} {k : HK R} {H : Heap} : ixbC (str s) (by8 c) k H = k (.i .i64 (idxB c s)) H:=by
 have hc : (c.toNat : Nat) < 256:=UInt8.toNat_lt c
 show guardK (Nat.blt c.toNat 256) (idxByteK s.length (pk s) c.toNat s.length 0 fun v=>k v H) = _
 rw [Nat.blt_eq.mpr hc]
 show idxByteK s.length (pk s) c.toNat s.length 0 (fun v=>k v H) = _
 rw [idx_go s.length 0 (Nat.zero_add _),List.drop_zero,Nat.zero_add]; rfl
theorem s290 {s : List UInt8} {c : UInt8} : Told 290 20 [str s,by8 c] (.i .i64 (idxB c s)):=by
 intro M hM R k H
 obtain ⟨m,rfl⟩:=fuel hM
 rw [call_eq L290]
 unfold B290
 simp only [EX,reduceIte,Nat.reduceEqDiff,Nat.reduceAdd,Int.reduceEq,Int.reduceLT,Int.reduceLE,reduceCtorEq,Nat.reduceLeDiff,Nat.reduceSub,Nat.reduceLT,x_ixb,ixb_str]
theorem s262 {s : List UInt8} {c : UInt8} : Told 262 60 [str s,str [c]] (.i .i64 (idxB c s)):=by
 intro M hM R k H
 obtain ⟨m,rfl⟩:=fuel hM
 rw [call_eq L262]
 unfold B262
 have e0 : ∀ (R : Type) (k : HK R) (H : Heap),ixsC (str [c]) (.i .i64 0) k H = k (by8 c) H:=fun R k H=>ixs_0 rfl
 have e1 : ∀ (R : Type) (k : HK R) (H : Heap),lenC true (str [c]) k H = k (.i .i64 1) H:=fun R k H=>rfl
 by_cases q : ([c] : List UInt8) = s
 ·have e2 : idxB c s = 0:=by
   rw [← q]
   unfold idxB
   have e3 : cntW (neB c) [c] = 0:=by
    rw [cntW_cons,if_neg]
    unfold neB; simp
   rw [e3]; rfl
  have q' : (([c] : List UInt8) = s) = True:=eq_true q
  simp only [EX,reduceIte,Nat.reduceEqDiff,Nat.reduceAdd,Int.reduceEq,Int.reduceLT,Int.reduceLE,reduceCtorEq,Nat.reduceLeDiff,Nat.reduceSub,Nat.reduceLT,e0,e1,s_eql,q',e2]
 ·simp only [EX,reduceIte,Nat.reduceEqDiff,Nat.reduceAdd,Int.reduceEq,Int.reduceLT,Int.reduceLE,reduceCtorEq,Nat.reduceLeDiff,Nat.reduceSub,Nat.reduceLT,e0,e1,s_eql,q,s290 _ (Nat.le_add_left 20 _)]
theorem s224 {s : List UInt8} {c : UInt8} : Told 224 80 [str s,str [c]] (.i .i64 (idxB c s)):=by
 intro M hM R k H
 obtain ⟨m,rfl⟩:=fuel hM
 rw [call_eq L224]
 unfold B224
 simp only [EX,reduceIte,Nat.reduceEqDiff,Nat.reduceAdd,Int.reduceEq,Int.reduceLT,Int.reduceLE,reduceCtorEq,Nat.reduceLeDiff,Nat.reduceSub,Nat.reduceLT,s262 _ (Nat.le_add_left 60 _)]
theorem cntW_ne {c : UInt8} : ∀ {s : List UInt8},cntW (neB c) s < s.length ↔ c ∈ s
 | []=>by simp [cntW]
 | b :: r=>by
  rw [cntW_cons]
  by_cases q : b = c
  ·have e2 : neB c b = false:=by unfold neB; rw [q]; simp
   rw [e2,if_neg (by decide),q]; simp
  ·have e2 : neB c b = true:=decide_eq_true q
   have hq : ¬ c = b:=fun e=>q e.symm
   rw [e2,if_pos rfl,List.length_cons,List.mem_cons]
   have:=cntW_ne (c:=c) (s:=r)
   constructor
   ·intro h; exact .inr (this.mp (by omega))
   ·intro h; have:=this.mpr (h.resolve_left hq); omega
theorem s225 {s : List UInt8} {c : UInt8} : Told 225 100 [str s,str [c]] (.b (decide (c ∈ s))):=by
 intro M hM R k H
 obtain ⟨m,rfl⟩:=fuel hM
 rw [call_eq L225]
 unfold B225
 have e : decide ((0 : Int)≤idxB c s) = decide (c ∈ s):=by
  rw [decide_eq_decide]
  unfold idxB
  split
  ·rename_i h
   exact ⟨fun _=>cntW_ne.mp h,fun _=>by omega⟩
  ·rename_i h
   exact ⟨fun q=>absurd q (by decide),fun q=>absurd (cntW_ne.mpr q) h⟩
 simp only [EX,reduceIte,Nat.reduceEqDiff,Nat.reduceAdd,Int.reduceEq,Int.reduceLT,Int.reduceLE,reduceCtorEq,Nat.reduceLeDiff,Nat.reduceSub,Nat.reduceLT,s224 _ (Nat.le_add_left 80 _),e]
theorem neB_eol {s : List UInt8} : cntW (neB 10) s = eol s:=rfl
theorem isB_mem {b : UInt8} : isB b = decide (b ∈ [32,9,10,13]):=by
 unfold isB
 rw [decide_eq_decide]
 simp
theorem take2 {b c : UInt8} {r : List UInt8} : ((b :: r).take 2 = [c,c]) ↔ (b = c∧r.head? = some c):=by
 cases r with
 | nil=>simp
 | cons x r=>simp
noncomputable def Lp173 : AC:=(.loop (.seq (.seq (.ops [O 5 (.mv (T 3)),O 6 (.mv (T 0)),O 7 (.len true (T 6)),O 8 (.bin .lss .no (T 5) (T 7))]) (.cond (T 8) .skip (.exit 0))) (.block 1 (.block 2 (.seq (.ops [O 11 (.mv (T 0)),O 12 (.mv (T 3)),O 13 (.sls (T 11) (some (T 12)) none),O 14 (.call (toPa 223) [(T 13),(K (str [47,47]))]),O 10 (.mv (T 14))]) (.cond (T 10) (.seq (.ops [O 15 (.mv (T 0)),O 16 (.mv (T 3)),O 17 (.sls (T 15) (some (T 16)) none),O 18 (.call (toPa 224) [(T 17),(K (str [10]))]),O 4 (.mv (T 18))]) (.seq (.seq (.ops [O 19 (.mv (T 4)),O 20 (.bin .lss .no (T 19) (K (.i .i64 0)))]) (.cond (T 20) (.seq (.ops [O 21 (.mv (T 0)),O 22 (.len true (T 21)),O 2 (.mv (T 22))]) .ret) .skip)) (.ops [O 23 (.mv (T 3)),O 24 (.mv (T 4)),O 25 (.bin .add .no (T 23) (T 24)),O 3 (.mv (T 25))]))) (.seq (.ops [O 27 (.mv (T 0)),O 28 (.mv (T 3)),O 29 (.mv (T 3)),O 30 (.bin .add .no (T 29) (K (.i .i64 1))),O 31 (.sls (T 27) (some (T 28)) (some (T 30))),O 32 (.call (toPa 225) [(K (str [32,9,10,13])),(T 31)]),O 26 (.mv (T 32))]) (.cond (T 26) (.ops [O 33 (.mv (T 3)),O 34 (.bin .add .no (T 33) (K (.i .i64 1))),O 3 (.mv (T 34))]) (.seq (.ops [O 9 (.mv (T 3)),O 2 (.mv (T 9))]) .ret)))))))))
theorem B173_eq : B173 = (.seq (.ops [O 2 (.mv (K (.i .i64 0)))]) (.seq (.ops [O 3 (.mv (K (.i .i64 0)))]) (.seq (.block 0 Lp173) (.seq (.ops [O 35 (.mv (T 3)),O 2 (.mv (T 35))]) .ret)))):=rfl
def F173 (s : List UInt8) (i : Nat) (fr : Tr AV) : Prop:=V fr 0 = str s∧V fr 3 = .i .i64 (i : Int)
/-- What comes behind the loop of blanks: it told. -/
theorem over_go {s : List UInt8} (hs : s.length≤1000) : ∀ (n i : Nat),i + n = s.length→∀ fr,F173 s i fr→∀ M,300 + n≤M→∀ (R : Type) (k : XK R) (H : Heap) (res : Option R),
  (∀ fr',V fr' 3 = .i .i64 ((i + blkS (s.drop i) : Nat) : Int)→k (.exit 0) fr' H = res)→(∀ fr',V fr' 2 = .i .i64 ((i + blkS (s.drop i) : Nat) : Int)→k .ret fr' H = res)→runK tbl M R Lp173 fr H k = res:=by
 intro n
 induction n using Nat.strongRecOn with
 | ind n ih =>
  rintro i hn fr ⟨f0,f3⟩ M hM R k H res hx hr
  obtain ⟨m,rfl⟩ : ∃ m,M = (m + n) + 300:=⟨M - (300 + n),by omega⟩
  unfold Lp173
  rw [run_loop]
  by_cases h0 : i < s.length
  ·have h0' : (i : Int) < (s.length : Int):=by omega
   have hb : s[i]? = some s[i]:=List.getElem?_eq_getElem h0
   have hd:=drop_at hb
   have hlen : (s.drop i).length = n:=by rw [List.length_drop]; omega
   have hp : decide ((s.drop i).take 2 = [(47 : UInt8),47]) = decide (s[i] = 47∧(s.drop (i + 1)).head? = some 47):=by
    rw [hd,decide_eq_decide]; exact take2
   by_cases q : s[i] = 47∧(s.drop (i + 1)).head? = some 47
   ·have e : blkS (s.drop i) = eol (s.drop i) + blkS ((s.drop i).drop (eol (s.drop i))):=by
     conv=>lhs; rw [hd]
     rw [blkS_cons,if_pos q,← hd]
    have hpos : 1≤eol (s.drop i):=by rw [hd]; exact eol_pos (by rw [q.1]; decide)
    have hle : eol (s.drop i)≤(s.drop i).length:=cntW_le _ _
    by_cases h1 : cntW (neB 10) (s.drop i) < (s.drop i).length
    ·have hi : idxB 10 (s.drop i) = (eol (s.drop i) : Int):=if_pos h1
     have hne : ¬ ((eol (s.drop i) : Nat) : Int) < 0:=by omega
     have h1 : eol (s.drop i) < (s.drop i).length:=h1
     simp only [EX,reduceIte,Nat.reduceEqDiff,Nat.reduceAdd,Int.reduceEq,Int.reduceLT,Int.reduceLE,reduceCtorEq,Nat.reduceLeDiff,Nat.reduceSub,Nat.reduceLT,f0,f3,h0',sls_f (Nat.le_of_lt h0),s223 _ (Nat.le_add_left 40 _),hp,q,s224 _ (Nat.le_add_left 80 _),hi,hne,i_add,add64 (show i + eol (s.drop i) < 9223372036854775808 by omega),and_self]
     have e2 : i + blkS (s.drop i) = (i + eol (s.drop i)) + blkS (s.drop (i + eol (s.drop i))):=by
      rw [e,List.drop_drop]; omega
     refine ih (n - eol (s.drop i)) (by omega) (i + eol (s.drop i)) (by omega) _ ⟨?_,?_⟩ _ (by omega) R k H res (fun fr' h=>hx fr' (by rw [h,e2])) (fun fr' h=>hr fr' (by rw [h,e2]))
     all_goals simp only [V_S,Nat.reduceEqDiff,reduceIte]
     all_goals assumption
    ·have hi : idxB 10 (s.drop i) = -1:=if_neg h1
     have h1 : ¬ eol (s.drop i) < (s.drop i).length:=h1
     have e2 : i + blkS (s.drop i) = s.length:=by
      have e3 : (s.drop i).drop (eol (s.drop i)) = []:=List.drop_of_length_le (by omega)
      rw [e,e3]
      show i + (eol (s.drop i) + 0) = _
      omega
     rw [e2] at hr
     simp only [EX,reduceIte,Nat.reduceEqDiff,Nat.reduceAdd,Int.reduceEq,Int.reduceLT,Int.reduceLE,reduceCtorEq,Nat.reduceLeDiff,Nat.reduceSub,Nat.reduceLT,f0,f3,h0',sls_f (Nat.le_of_lt h0),s223 _ (Nat.le_add_left 40 _),hp,q,s224 _ (Nat.le_add_left 80 _),hi,and_self,Int.reduceNeg]
     refine hr _ ?_
     simp only [V_S,Nat.reduceEqDiff,reduceIte]
   ·have e : blkS (s.drop i) = if isB s[i] = true then 1 + blkS (s.drop (i + 1)) else 0:=by
     conv=>lhs; rw [hd]
     rw [blkS_cons,if_neg q]
    have hsl : (s.drop i).take (i + 1 - i) = [s[i]]:=by rw [hd,Nat.add_sub_cancel_left]; rfl
    have q' : (s[i] = 47∧(s.drop (i + 1)).head? = some 47) = False:=eq_false q
    cases hB : isB s[i] with
    | true =>
     rw [hB,if_pos rfl] at e
     have hm : decide (s[i] ∈ [(32 : UInt8),9,10,13]) = true:=by rw [← isB_mem]; exact hB
     simp only [EX,reduceIte,Nat.reduceEqDiff,Nat.reduceAdd,Int.reduceEq,Int.reduceLT,Int.reduceLE,reduceCtorEq,Nat.reduceLeDiff,Nat.reduceSub,Nat.reduceLT,f0,f3,h0',sls_f (Nat.le_of_lt h0),s223 _ (Nat.le_add_left 40 _),hp,q',i_add,inc64 (show i < 1000000000000 by omega),sls_ft (Nat.le_succ i) (show i + 1≤s.length by omega),hsl,s225 _ (Nat.le_add_left 100 _),hm]
     have e2 : i + blkS (s.drop i) = (i + 1) + blkS (s.drop (i + 1)):=by rw [e]; omega
     refine ih (n - 1) (by omega) (i + 1) (by omega) _ ⟨?_,?_⟩ _ (by omega) R k H res (fun fr' h=>hx fr' (by rw [h,e2])) (fun fr' h=>hr fr' (by rw [h,e2]))
     all_goals simp only [V_S,Nat.reduceEqDiff,reduceIte]
     all_goals assumption
    | false =>
     rw [hB,if_neg (by decide)] at e
     rw [e,Nat.add_zero] at hr
     have hm : decide (s[i] ∈ [(32 : UInt8),9,10,13]) = false:=by rw [← isB_mem]; exact hB
     simp only [EX,reduceIte,Nat.reduceEqDiff,Nat.reduceAdd,Int.reduceEq,Int.reduceLT,Int.reduceLE,reduceCtorEq,Nat.reduceLeDiff,Nat.reduceSub,Nat.reduceLT,f0,f3,h0',sls_f (Nat.le_of_lt h0),s223 _ (Nat.le_add_left 40 _),hp,q',i_add,inc64 (show i < 1000000000000 by omega),sls_ft (Nat.le_succ i) (show i + 1≤s.length by omega),hsl,s225 _ (Nat.le_add_left 100 _),hm]
     refine hr _ ?_
     simp only [V_S,Nat.reduceEqDiff,reduceIte]
  ·have h0' : ¬ (i : Int) < (s.length : Int):=by omega
   have e : blkS (s.drop i) = 0:=by rw [List.drop_of_length_le (by omega)]; rfl
   rw [e,Nat.add_zero] at hx
   simp only [EX,reduceIte,Nat.reduceEqDiff,Nat.reduceAdd,Int.reduceEq,Int.reduceLT,Int.reduceLE,reduceCtorEq,Nat.reduceLeDiff,Nat.reduceSub,Nat.reduceLT,f0,f3,h0']
   refine hx _ ?_
   simp only [V_S,Nat.reduceEqDiff,reduceIte]
   exact f3
/-- Blanks and remarks. -/
theorem s173 {s : List UInt8} (hs : s.length≤1000) : Told 173 (s.length + 400) [str s] (.i .i64 (blkS s : Int)):=by
 intro M hM R k H
 obtain ⟨m,rfl⟩ : ∃ m,M = (m + s.length) + 400:=⟨M - (s.length + 400),by omega⟩
 rw [call_eq L173]
 rw [B173_eq]
 simp only [EX,reduceIte,Nat.reduceEqDiff,Nat.reduceAdd,Int.reduceEq,Int.reduceLT,Int.reduceLE,reduceCtorEq,Nat.reduceLeDiff,Nat.reduceSub,Nat.reduceLT]
 refine over_go hs s.length 0 (Nat.zero_add _) _ ⟨?_,?_⟩ _ (by omega) R _ H _ ?_ ?_
 ·simp only [EX,reduceIte,Nat.reduceEqDiff,Nat.reduceAdd,Int.reduceEq,Int.reduceLT,Int.reduceLE,reduceCtorEq,Nat.reduceLeDiff,Nat.reduceSub,Nat.reduceLT]
 ·simp only [EX,reduceIte,Nat.reduceEqDiff,Nat.reduceAdd,Int.reduceEq,Int.reduceLT,Int.reduceLE,reduceCtorEq,Nat.reduceLeDiff,Nat.reduceSub,Nat.reduceLT]; rfl
 ·intro fr h
  rw [List.drop_zero,Nat.zero_add] at h
  simp only [EX,reduceIte,Nat.reduceEqDiff,Nat.reduceAdd,Int.reduceEq,Int.reduceLT,Int.reduceLE,reduceCtorEq,Nat.reduceLeDiff,Nat.reduceSub,Nat.reduceLT,h]
 ·intro fr h
  rw [List.drop_zero,Nat.zero_add] at h
  simp only [EX,reduceIte,Nat.reduceEqDiff,Nat.reduceAdd,Int.reduceEq,Int.reduceLT,Int.reduceLE,reduceCtorEq,Nat.reduceLeDiff,Nat.reduceSub,Nat.reduceLT,h]
end Go.Proofs.YtgnfndhmfgghdaaGreatDoor

/- Numbers of digits (num.Parse),names and numbers as words (lex.name,lex.long). -/
namespace Go.Proofs.YtgnfndhmfgghdaaGreatDoor
open Go Go.Vai
set_option maxRecDepth 100000
set_option maxHeartbeats 3200000
set_option linter.unusedSimpArgs false
/-- A call that tells a value,and makes memory alone. -/
def Tells (f c : Nat) (args : List AV) (H : Heap) (v : AV) : Prop:=∃ H',Grow H H'∧∀ M,c≤M→∀ (R : Type) (k : HK R),callK tbl (runK tbl M) R (toPa f) args H k = k v H'
theorem b_eql {R : Type} {k : HK R} {H : Heap} {x y : Bool} : binC .eql .bool (.b x) (.b y) k H = k (.b (x == y)) H:=by cases x <;> cases y <;> rfl
theorem b_neq {R : Type} {k : HK R} {H : Heap} {x y : Bool} : binC .neq .bool (.b x) (.b y) k H = k (.b (x != y)) H:=by cases x <;> cases y <;> rfl
theorem wrap_def (n : Int) : IntKind.i64.wrap n = if 9223372036854775808≤n % 18446744073709551616 then n % 18446744073709551616 - 18446744073709551616 else n % 18446744073709551616:=by
 show (if (true && decide (n % (2 ^ 64 : Int) ≥ (2 ^ 63 : Int))) = true then n % (2 ^ 64 : Int) - (2 ^ 64 : Int) else n % (2 ^ 64 : Int)) = _
 simp only [Bool.true_and,decide_eq_true_eq]
 rfl
theorem wrap_rng (n : Int) : -9223372036854775808≤IntKind.i64.wrap n∧IntKind.i64.wrap n < 9223372036854775808:=by
 have h1:=Int.emod_nonneg n (show (18446744073709551616 : Int) ≠ 0 by decide)
 have h2:=Int.emod_lt_of_pos n (show (0 : Int) < 18446744073709551616 by decide)
 rw [wrap_def]
 split <;> omega
theorem s294 {a : Nat} (ha : a < 9223372036854775808) : Told 294 40 [.i .i64 (a : Int),.i .i64 10] (if 10 * a < 9223372036854775808 then .tu [.i .i64 ((10 * a : Nat) : Int),.i .i64 0] else .tu [.i .i64 0,.i .i64 17]):=by
 intro M hM R k H
 obtain ⟨m,rfl⟩:=fuel hM
 rw [call_eq L294]
 unfold B294
 by_cases h0 : a = 0
 ·subst h0
  rw [if_pos (by decide)]
  simp only [EX,reduceIte,Nat.reduceEqDiff,Nat.reduceAdd,Int.reduceEq,Int.reduceLT,Int.reduceLE,reduceCtorEq,Nat.reduceLeDiff,Nat.reduceSub,Nat.reduceLT,Nat.mul_zero]
  rfl
 have e0 : ¬ (a : Int) = 0:=by omega
 have e1 : ¬ (a : Int) = -1:=by omega
 have e2 : ¬ (a : Int) = -9223372036854775808:=by omega
 have hr:=wrap_rng ((a : Int) * 10)
 have hne : (10 : Int) ≠ 0:=by decide
 by_cases h : 10 * a < 9223372036854775808
 ·rw [if_pos h]
  have hw : IntKind.i64.wrap ((a : Int) * 10) = ((10 * a : Nat) : Int):=by rw [show (a : Int) * 10 = ((10 * a : Nat) : Int) by omega,wrap_n64 h]
  have hq : IntKind.i64.wrap (((10 * a : Nat) : Int).tdiv 10) = (a : Int):=by
   rw [show ((10 : Int)) = ((10 : Nat) : Int) from rfl,quo_n,Nat.mul_div_cancel_left _ (by decide),wrap_n64 ha]
  simp only [EX,reduceIte,Nat.reduceEqDiff,Nat.reduceAdd,Int.reduceEq,Int.reduceLT,Int.reduceLE,reduceCtorEq,Nat.reduceLeDiff,Nat.reduceSub,Nat.reduceLT,e0,e1,e2,i_mul,hw,i_quo hne,hq,Int.reduceNeg]
 ·rw [if_neg h]
  have hq : ¬ IntKind.i64.wrap ((IntKind.i64.wrap ((a : Int) * 10)).tdiv 10) = (a : Int):=by
   intro q
   generalize IntKind.i64.wrap ((a : Int) * 10) = c at *
   have hb : -9223372036854775808≤c.tdiv 10∧c.tdiv 10 < 9223372036854775808:=by
    have h1:=Int.mul_tdiv_add_tmod c 10
    have h2:=Int.tmod_lt_of_pos c (show (0 : Int) < 10 by decide)
    have h3 : -10 < c.tmod 10:=by
     have:=Int.lt_tmod_of_pos c (show (0 : Int) < 10 by decide)
     omega
    omega
   rw [wrap_i64 hb.1 hb.2] at q
   have h1:=Int.mul_tdiv_add_tmod c 10
   have h3 : -10 < c.tmod 10:=by
    have:=Int.lt_tmod_of_pos c (show (0 : Int) < 10 by decide)
    omega
   have h4 : 0≤c.tmod 10:=Int.tmod_nonneg _ (by omega)
   omega
  simp only [EX,reduceIte,Nat.reduceEqDiff,Nat.reduceAdd,Int.reduceEq,Int.reduceLT,Int.reduceLE,reduceCtorEq,Nat.reduceLeDiff,Nat.reduceSub,Nat.reduceLT,e0,e1,e2,i_mul,i_quo hne,hq,Int.reduceNeg]
theorem s295 {a b : Nat} (ha : a < 9223372036854775808) (hb : b < 9223372036854775808) : Told 295 40 [.i .i64 (a : Int),.i .i64 (b : Int)] (if a + b < 9223372036854775808 then .tu [.i .i64 ((a + b : Nat) : Int),.i .i64 0] else .tu [.i .i64 0,.i .i64 17]):=by
 intro M hM R k H
 obtain ⟨m,rfl⟩:=fuel hM
 rw [call_eq L295]
 unfold B295
 by_cases h0 : b = 0
 ·subst h0
  rw [if_pos (by omega)]
  have hw : IntKind.i64.wrap ((a : Int) + 0) = ((a + 0 : Nat) : Int):=by rw [Int.add_zero,Nat.add_zero,wrap_n64 ha]
  simp only [EX,reduceIte,Nat.reduceEqDiff,Nat.reduceAdd,Int.reduceEq,Int.reduceLT,Int.reduceLE,reduceCtorEq,Nat.reduceLeDiff,Nat.reduceSub,Nat.reduceLT,i_add,Int.ofNat_zero,Int.cast_ofNat_Int,hw]
 have e0 : ¬ (b : Int) = 0:=by omega
 have e1 : (0 : Int) < (b : Int):=by omega
 by_cases h : a + b < 9223372036854775808
 ·rw [if_pos h]
  have e2 : (a : Int) < ((a + b : Nat) : Int):=by omega
  simp only [EX,reduceIte,Nat.reduceEqDiff,Nat.reduceAdd,Int.reduceEq,Int.reduceLT,Int.reduceLE,reduceCtorEq,Nat.reduceLeDiff,Nat.reduceSub,Nat.reduceLT,i_add,add64 h,e0,e1,e2,b_eql,beq_self_eq_true]
 ·rw [if_neg h]
  have e2 : ¬ (a : Int) < IntKind.i64.wrap ((a : Int) + (b : Int)):=by
   rw [wrap_def]
   split <;> omega
  have e3 : (false == true) = false:=rfl
  simp only [EX,reduceIte,Nat.reduceEqDiff,Nat.reduceAdd,Int.reduceEq,Int.reduceLT,Int.reduceLE,reduceCtorEq,Nat.reduceLeDiff,Nat.reduceSub,Nat.reduceLT,i_add,e0,e1,e2,b_eql,e3]
def resN : Except Nat Nat→AV
 | .error e=>.tu [.i .i64 0,.i .i64 (e : Int)]
 | .ok v=>.tu [.i .i64 (v : Int),.i .i64 0]
/-- An iterator over a text of bytes below 128. -/
structure It (H0 : Heap) (it : Pa) (s : List UInt8) (i : Nat) (G : Heap) : Prop where
 g : Grow H0 G
 n0 : H0.next.toN≤it.toN
 lt : it.toN < G.next.toN
 at_ : G.get it = .iter s.length (pk s) i
theorem It.new (H : Heap) (s : List UInt8) : It H H.next s 0 (H.alloc (.iter s.length (pk s) 0)) :=
 ⟨Grow.alloc H _,Nat.le_refl _,by have:=next_alloc H (.iter s.length (pk s) 0); omega,get_alloc H _⟩
theorem It.step {H0 G : Heap} {it : Pa} {s : List UInt8} {i j : Nat} (h : It H0 it s i G) : It H0 it s j (G.put it (.iter s.length (pk s) j)) :=
 ⟨h.g.put h.n0 h.lt _,h.n0,by rw [next_put]; exact h.lt,by rw [Heap.get_put,if_pos rfl]⟩
theorem It.end_ {R : Type} {H0 G : Heap} {it : Pa} {s : List UInt8} {k : HK R} (h : It H0 it s s.length G) : nxtC (.p it 0) k G = k (.tu [.b false]) G:=nxt_end h.at_
theorem It.one {R : Type} {H0 G : Heap} {it : Pa} {s : List UInt8} {i : Nat} {b : UInt8} {k : HK R} (h : It H0 it s i G) (hb : s[i]? = some b) (hl : b.toNat < 128) : nxtC (.p it 0) k G = k (.tu [.b true,.i .i64 (i : Int),.i .i32 (b.toNat : Int)]) (G.put it (.iter s.length (pk s) (i + 1))):=nxt_at h.at_ (decK_1 hb hl)
noncomputable def Lp265a : AC:=(.loop (.seq (.ops [O 25 (.nxt (T 24)),O 26 (.ext 0 (T 25))]) (.seq (.cond (T 26) .skip (.exit 0)) (.block 1 (.seq (.ops [O 27 (.ext 2 (T 25)),O 5 (.mv (T 27))]) (.seq (.ops [O 28 (.mv (T 5)),O 29 (.bin .lss .no (T 28) (K (.i .i32 48))),O 30 (.mv (T 29)),G 31 30 false (.mv (T 5)),G 32 30 false (.bin .gtr .no (T 31) (K (.i .i32 57))),O 33 (.pick (T 30) (K (.b true)) (T 32))]) (.cond (T 33) (.seq (.ops [O 2 (.mv (K (.i .i64 0))),O 3 (.mv (K (.i .i64 12)))]) .ret) .skip)))))))
noncomputable def Lp265b : AC:=(.loop (.seq (.ops [O 36 (.nxt (T 35)),O 37 (.ext 0 (T 36))]) (.seq (.cond (T 37) .skip (.exit 2)) (.block 3 (.seq (.ops [O 38 (.ext 2 (T 36)),O 8 (.mv (T 38))]) (.seq (.ops [O 40 (.mv (T 6)),O 41 (.call (toPa 294) [(T 40),(K (.i .i64 10))]),O 39 (.mv (T 41)),O 42 (.ext 0 (T 39)),O 43 (.ext 1 (T 39)),O 9 (.mv (T 42)),O 10 (.mv (T 43))]) (.seq (.seq (.ops [O 44 (.mv (T 10)),O 45 (.bin .neq .no (T 44) (K (.i .i64 0)))]) (.cond (T 45) (.seq (.ops [O 46 (.mv (T 10)),O 2 (.mv (K (.i .i64 0))),O 3 (.mv (T 46))]) .ret) .skip)) (.seq (.ops [O 48 (.mv (T 9)),O 49 (.mv (T 8)),O 50 (.bin .sub .no (T 49) (K (.i .i32 48))),O 51 (.cvi .i64 (T 50)),O 52 (.call (toPa 295) [(T 48),(T 51)]),O 47 (.mv (T 52)),O 53 (.ext 0 (T 47)),O 54 (.ext 1 (T 47)),O 6 (.mv (T 53)),O 10 (.mv (T 54))]) (.seq (.ops [O 55 (.mv (T 10)),O 56 (.bin .neq .no (T 55) (K (.i .i64 0)))]) (.cond (T 56) (.seq (.ops [O 57 (.mv (T 10)),O 2 (.mv (K (.i .i64 0))),O 3 (.mv (T 57))]) .ret) .skip))))))))))
theorem B265_eq : B265 = (.seq (.ops [O 2 (.mv (K (.i .i64 0))),O 3 (.mv (K (.i .i64 0)))]) (.seq (.seq (.ops [O 11 (.mv (T 0)),O 12 (.bin .eql .no (T 11) (K (str []))),O 13 (.mv (T 12)),G 14 13 false (.mv (T 0)),G 15 13 false (.ixs (T 14) (K (.i .i64 0))),G 16 13 false (.bin .eql .no (T 15) (K (.i .u8 48))),G 17 13 false (.mv (T 16)),G 18 17 true (.mv (T 0)),G 19 17 true (.len true (T 18)),G 20 17 true (.bin .gtr .no (T 19) (K (.i .i64 1))),G 21 13 false (.pick (T 17) (T 20) (K (.b false))),O 22 (.pick (T 13) (K (.b true)) (T 21))]) (.cond (T 22) (.seq (.ops [O 2 (.mv (K (.i .i64 0))),O 3 (.mv (K (.i .i64 12)))]) .ret) .skip)) (.seq (.seq (.ops [O 23 (.mv (T 0)),O 24 (.rng (T 23))]) (.block 0 Lp265a)) (.seq (.ops [O 6 (.mv (K (.i .i64 0)))]) (.seq (.seq (.ops [O 34 (.mv (T 0)),O 35 (.rng (T 34))]) (.block 2 Lp265b)) (.seq (.ops [O 58 (.mv (T 6)),O 2 (.mv (T 58)),O 3 (.mv (K (.i .i64 0)))]) .ret)))))):=rfl
theorem isD_le {b : UInt8} (h : isD b = true) : 48≤b.toNat∧b.toNat≤57:=of_decide_eq_true h
def F265 (a : Pa) (x : Nat) (s : List UInt8) (fr : Tr AV) : Prop:=V fr 0 = str s∧V fr x = .p a 0
/-- The first walk: all are digits. -/
theorem dig_loop {H0 G : Heap} {it : Pa} {s : List UInt8} (hd : ∀ b ∈ s,isD b = true) (I : It H0 it s 0 G) :
  ∃ G',It H0 it s s.length G'∧∀ fr,F265 it 24 s fr→∀ M,100 + s.length≤M→∀ (R : Type) (k : XK R) (res : Option R),(∀ fr',F265 it 24 s fr'→k (.exit 0) fr' G' = res)→runK tbl M R Lp265a fr G k = res:=by
 obtain ⟨G',_,J,e⟩:=loop_cps (Lp:=Lp265a) (ex:=0) (n:=s.length) (c:=100) (St:=Unit) (fun i G _=>It H0 it s i G) (fun i _ fr=>F265 it 24 s fr)
  (fun G _ I fr ⟨f0,f24⟩ M hM R k res hr=>by
   obtain ⟨m,rfl⟩:=fuel hM
   unfold Lp265a
   rw [run_loop]
   simp only [EX,reduceIte,Nat.reduceEqDiff,Nat.reduceAdd,Int.reduceEq,Int.reduceLT,Int.reduceLE,reduceCtorEq,Nat.reduceLeDiff,Nat.reduceSub,Nat.reduceLT,f0,f24,I.end_]
   refine hr _ ⟨?_,?_⟩
   all_goals simp only [V_S,Nat.reduceEqDiff,reduceIte]
   all_goals assumption)
  (fun i G _ hi I=>by
   refine ⟨_,(),I.step (j:=i + 1),fun fr ⟨f0,f24⟩ M hM R k res hr=>?_⟩
   obtain ⟨m,rfl⟩:=fuel hM
   have hb : s[i]? = some s[i]:=List.getElem?_eq_getElem hi
   have hdb:=isD_le (hd _ (List.getElem_mem hi))
   have h1 : ¬ ((s[i]).toNat : Int) < 48:=by omega
   have h2 : ¬ (57 : Int) < ((s[i]).toNat : Int):=by omega
   have hr : ∀ fr',F265 it 24 s fr'→runK tbl (m + 100) R Lp265a fr' (G.put it (.iter s.length (pk s) (i + 1))) k = res:=hr
   unfold Lp265a
   rw [run_loop]
   simp only [EX,reduceIte,Nat.reduceEqDiff,Nat.reduceAdd,Int.reduceEq,Int.reduceLT,Int.reduceLE,reduceCtorEq,Nat.reduceLeDiff,Nat.reduceSub,Nat.reduceLT,f0,f24,I.one hb (by omega),h1,h2]
   refine hr _ ⟨?_,?_⟩
   all_goals simp only [V_S,Nat.reduceEqDiff,reduceIte]
   all_goals assumption)
  s.length 0 G () (Nat.zero_add _) I
 exact ⟨G',J,e⟩
/-- The second walk: what they say. -/
theorem val_go {H0 : Heap} {it : Pa} {s : List UInt8} (hd : ∀ b ∈ s,isD b = true) : ∀ (n i : Nat) (G : Heap),i + n = s.length→It H0 it s i G→valD (s.take i) < 9223372036854775808 →
  ∃ G',Grow H0 G'∧∀ fr,V fr 35 = .p it 0→V fr 6 = .i .i64 (valD (s.take i) : Int)→∀ M,200 + n≤M→∀ (R : Type) (k : XK R) (res : Option R),
   (valD s < 9223372036854775808→∀ fr',V fr' 6 = .i .i64 (valD s : Int)→k (.exit 2) fr' G' = res)→(¬ valD s < 9223372036854775808→∀ fr',V fr' 2 = .i .i64 0→V fr' 3 = .i .i64 17→k .ret fr' G' = res)→runK tbl M R Lp265b fr G k = res
 | 0,i,G,hn,I,hv=>by
  obtain rfl : i = s.length:=by omega
  rw [List.take_length] at hv ⊢
  refine ⟨G,I.g,fun fr f35 f6 M hM R k res hx hr=>?_⟩
  obtain ⟨m,rfl⟩:=fuel hM
  unfold Lp265b
  rw [run_loop]
  simp only [EX,reduceIte,Nat.reduceEqDiff,Nat.reduceAdd,Int.reduceEq,Int.reduceLT,Int.reduceLE,reduceCtorEq,Nat.reduceLeDiff,Nat.reduceSub,Nat.reduceLT,f35,I.end_]
  refine hx hv _ ?_
  simp only [V_S,Nat.reduceEqDiff,reduceIte]
  exact f6
 | n + 1,i,G,hn,I,hv=>by
  have hi : i < s.length:=by omega
  have hb : s[i]? = some s[i]:=List.getElem?_eq_getElem hi
  have hdb:=isD_le (hd _ (List.getElem_mem hi))
  have hstep:=valD_take hb
  have hall : valD (s.take (i + 1))≤valD s:=by
   have:=valD_le (s:=s.take (i + 1)) (t:=s.drop (i + 1))
   rwa [List.take_append_drop] at this
  have hsub : IntKind.i32.wrap (((s[i]).toNat : Int) - 48) = (((s[i]).toNat - 48 : Nat) : Int):=by rw [show ((s[i]).toNat : Int) - 48 = (((s[i]).toNat - 48 : Nat) : Int) by omega,wrap_n32 (by omega)]
  have hcv : IntKind.i64.wrap (((s[i]).toNat - 48 : Nat) : Int) = (((s[i]).toNat - 48 : Nat) : Int):=wrap_n64 (by omega)
  have e294:=s294 hv
  by_cases h1 : 10 * valD (s.take i) < 9223372036854775808
  ·rw [if_pos h1] at e294
   have e295:=s295 (a:=10 * valD (s.take i)) (b:=(s[i]).toNat - 48) h1 (by omega)
   by_cases h2 : 10 * valD (s.take i) + ((s[i]).toNat - 48) < 9223372036854775808
   ·rw [if_pos h2] at e295
    obtain ⟨G',g',e⟩:=val_go hd n (i + 1) _ (by omega) (I.step (j:=i + 1)) (by rw [hstep]; exact h2)
    refine ⟨G',g',fun fr f35 f6 M hM R k res hx hr=>?_⟩
    obtain ⟨m,rfl⟩ : ∃ m,M = (m + n) + 201:=⟨M - (200 + (n + 1)),by omega⟩
    unfold Lp265b
    rw [run_loop]
    simp only [EX,reduceIte,Nat.reduceEqDiff,Nat.reduceAdd,Int.reduceEq,Int.reduceLT,Int.reduceLE,reduceCtorEq,Nat.reduceLeDiff,Nat.reduceSub,Nat.reduceLT,f35,f6,I.one hb (by omega),e294 _ (Nat.le_add_left 40 _),i_sub,hsub,hcv,e295 _ (Nat.le_add_left 40 _)]
    refine e _ ?_ ?_ _ (by omega) R k res hx hr
    ·simp only [V_S,Nat.reduceEqDiff,reduceIte]; exact f35
    ·simp only [V_S,Nat.reduceEqDiff,reduceIte]; rw [hstep]
   ·rw [if_neg h2] at e295
    refine ⟨_,(I.step (j:=i + 1)).g,fun fr f35 f6 M hM R k res hx hr=>?_⟩
    obtain ⟨m,rfl⟩ : ∃ m,M = (m + n) + 201:=⟨M - (200 + (n + 1)),by omega⟩
    unfold Lp265b
    rw [run_loop]
    simp only [EX,reduceIte,Nat.reduceEqDiff,Nat.reduceAdd,Int.reduceEq,Int.reduceLT,Int.reduceLE,reduceCtorEq,Nat.reduceLeDiff,Nat.reduceSub,Nat.reduceLT,f35,f6,I.one hb (by omega),e294 _ (Nat.le_add_left 40 _),i_sub,hsub,hcv,e295 _ (Nat.le_add_left 40 _)]
    refine hr (by omega) _ ?_ ?_
    all_goals simp only [V_S,Nat.reduceEqDiff,reduceIte]
  ·rw [if_neg h1] at e294
   refine ⟨_,(I.step (j:=i + 1)).g,fun fr f35 f6 M hM R k res hx hr=>?_⟩
   obtain ⟨m,rfl⟩ : ∃ m,M = (m + n) + 201:=⟨M - (200 + (n + 1)),by omega⟩
   unfold Lp265b
   rw [run_loop]
   simp only [EX,reduceIte,Nat.reduceEqDiff,Nat.reduceAdd,Int.reduceEq,Int.reduceLT,Int.reduceLE,reduceCtorEq,Nat.reduceLeDiff,Nat.reduceSub,Nat.reduceLT,f35,f6,I.one hb (by omega),e294 _ (Nat.le_add_left 40 _)]
   refine hr (by omega) _ ?_ ?_
   all_goals simp only [V_S,Nat.reduceEqDiff,reduceIte]
end Go.Proofs.YtgnfndhmfgghdaaGreatDoor

/- Numbers of digits,names and numbers as words. -/
namespace Go.Proofs.YtgnfndhmfgghdaaGreatDoor
open Go Go.Vai
set_option maxRecDepth 100000
set_option maxHeartbeats 3200000
set_option linter.unusedSimpArgs false
section
variable {R : Type} {fr : Tr AV} {H : Heap} {k : HK R}
theorem res_3 {a b c : Nat} : resC [.tmp (toPa a),.tmp (toPa b),.tmp (toPa c)] fr H k = k (.tu [V fr a,V fr b,V fr c]) H:=by
 show getK un (toPa a) fr (fun v=>getK un (toPa b) fr fun v'=>getK un (toPa c) fr fun v''=>oneRes [v,v',v''] H k) = _
 rw [getK_eq,getK_eq,getK_eq]; rfl
/-- What is told with more behind it. -/
noncomputable def withK (vs : List AV) (k : HK R) : HK R:=fun v H=>k (.tu (v :: vs)) H
theorem with_ap {vs : List AV} {v : AV} : withK vs k v H = k (.tu (v :: vs)) H:=id rfl
theorem res_ct {a b n : Nat} {g : Bool} : resC [.cell (toPa a) g n,.tmp (toPa b)] fr H k = ldC g n (V fr a) (withK [V fr b] k) H:=by
 show getK un (toPa a) fr (fun v=>resCell g n v H fun v=>getK un (toPa b) fr fun v'=>oneRes [v,v'] H k) = _
 rw [getK_eq]
 show vP (V fr a) none (fun p off=>loadK g n p off H fun v=>getK un (toPa b) fr fun v'=>oneRes [v,v'] H k) = vP (V fr a) none (fun p off=>loadK g n p off H fun v=>withK [V fr b] k v H)
 congr 1
 funext p off
 congr 1
 funext v
 rw [getK_eq]; rfl
theorem res_ctt {a b c n : Nat} {g : Bool} : resC [.cell (toPa a) g n,.tmp (toPa b),.tmp (toPa c)] fr H k = ldC g n (V fr a) (withK [V fr b,V fr c] k) H:=by
 show getK un (toPa a) fr (fun v=>resCell g n v H fun v=>getK un (toPa b) fr fun v'=>getK un (toPa c) fr fun v''=>oneRes [v,v',v''] H k) = _
 rw [getK_eq]
 show vP (V fr a) none (fun p off=>loadK g n p off H fun v=>getK un (toPa b) fr fun v'=>getK un (toPa c) fr fun v''=>oneRes [v,v',v''] H k) = vP (V fr a) none (fun p off=>loadK g n p off H fun v=>withK [V fr b,V fr c] k v H)
 congr 1
 funext p off
 congr 1
 funext v
 rw [getK_eq,getK_eq]; rfl
end
/-- Digits as a number. -/
theorem s265 {s : List UInt8} (hd : ∀ b ∈ s,isD b = true) (H : Heap) : Tells 265 (s.length + 400) [str s] H (resN (numP s)):=by
 by_cases h0 : s = []
 ·subst h0
  refine ⟨H,Grow.refl _,fun M hM R k=>?_⟩
  obtain ⟨m,rfl⟩ : ∃ m,M = m + 400:=⟨M - 400,by simp only [List.length_nil] at hM; omega⟩
  rw [call_eq L265,B265_eq]
  simp only [EX,reduceIte,Nat.reduceEqDiff,Nat.reduceAdd,Int.reduceEq,Int.reduceLT,Int.reduceLE,reduceCtorEq,Nat.reduceLeDiff,Nat.reduceSub,Nat.reduceLT,x_callv,clv_fn,x_mkfn,List.nil_append,List.append_nil,res_3,res_ct,res_ctt,s_eql]
  rfl
 ·obtain ⟨b,r,hs⟩ : ∃ b r,s = b :: r:=by
   cases s with
   | nil=>exact absurd rfl h0
   | cons b r=>exact ⟨b,r,rfl⟩
  have hb0 : s[0]? = some b:=by rw [hs]; rfl
  have hpos : 0 < s.length:=by rw [hs]; exact Nat.succ_pos _
  have e00 : (s = ([] : List UInt8)) = False:=eq_false h0
  by_cases hz : (b.toNat : Int) = 48∧(1 : Int) < (s.length : Int)
  ·have en : numP s = .error 12:=by
    unfold numP
    rw [if_pos]
    refine .inr ⟨?_,by omega⟩
    rw [hs]
    show some b = some 48
    congr 1
    exact UInt8.toNat_inj.mp (by rw [show (48 : UInt8).toNat = 48 from rfl]; omega)
   refine ⟨H,Grow.refl _,fun M hM R k=>?_⟩
   obtain ⟨m,rfl⟩ : ∃ m,M = (m + s.length) + 400:=⟨M - (s.length + 400),by omega⟩
   rw [call_eq L265,B265_eq,en]
   simp only [EX,reduceIte,Nat.reduceEqDiff,Nat.reduceAdd,Int.reduceEq,Int.reduceLT,Int.reduceLE,reduceCtorEq,Nat.reduceLeDiff,Nat.reduceSub,Nat.reduceLT,x_callv,clv_fn,x_mkfn,List.nil_append,List.append_nil,res_3,res_ct,res_ctt,s_eql,e00,ixs_0 hb0,by8,hz]
   rfl
  ·have hz' : ¬ (s = [] ∨ (s.head? = some 48∧1 < s.length)):=by
    rintro (q | ⟨q1,q2⟩)
    ·exact h0 q
    ·rw [hs] at q1
     have q1 : some b = some 48:=q1
     cases q1
     exact hz ⟨rfl,by omega⟩
   have en : numP s = if valD s < 9223372036854775808 then .ok (valD s) else .error 17:=by
    unfold numP; rw [if_neg hz']
   obtain ⟨G1,I1,el1⟩:=dig_loop hd (It.new H s)
   obtain ⟨G2,g2,el2⟩:=val_go hd s.length 0 _ (Nat.zero_add _) (It.new G1 s) (by rw [List.take_zero]; decide)
   have e48 : ((b.toNat : Int) = 48) = True ∨ ((b.toNat : Int) = 48) = False:=by
    by_cases q : (b.toNat : Int) = 48
    ·exact .inl (eq_true q)
    ·exact .inr (eq_false q)
   refine ⟨G2,(I1.g).trans g2,fun M hM R k=>?_⟩
   obtain ⟨m,rfl⟩ : ∃ m,M = (m + s.length) + 400:=⟨M - (s.length + 400),by omega⟩
   rw [call_eq L265,B265_eq,en]
   have fin : runK tbl (m + s.length + 398) R (.seq (.seq (.ops [O 23 (.mv (T 0)),O 24 (.rng (T 23))]) (.block 0 Lp265a)) (.seq (.ops [O 6 (.mv (K (.i .i64 0)))]) (.seq (.seq (.ops [O 34 (.mv (T 0)),O 35 (.rng (T 34))]) (.block 2 Lp265b)) (.seq (.ops [O 58 (.mv (T 6)),O 2 (.mv (T 58)),O 3 (.mv (K (.i .i64 0)))]) .ret))))
     = runK tbl (m + s.length + 398) R (.seq (.seq (.ops [O 23 (.mv (T 0)),O 24 (.rng (T 23))]) (.block 0 Lp265a)) (.seq (.ops [O 6 (.mv (K (.i .i64 0)))]) (.seq (.seq (.ops [O 34 (.mv (T 0)),O 35 (.rng (T 34))]) (.block 2 Lp265b)) (.seq (.ops [O 58 (.mv (T 6)),O 2 (.mv (T 58)),O 3 (.mv (K (.i .i64 0)))]) .ret)))):=rfl
   clear fin
   rcases e48 with e48 | e48
   ·have e1 : ((1 : Int) < (s.length : Int)) = False:=eq_false fun q=>hz ⟨of_eq_true e48,q⟩
    simp only [EX,reduceIte,Nat.reduceEqDiff,Nat.reduceAdd,Int.reduceEq,Int.reduceLT,Int.reduceLE,reduceCtorEq,Nat.reduceLeDiff,Nat.reduceSub,Nat.reduceLT,x_callv,clv_fn,x_mkfn,List.nil_append,List.append_nil,res_3,res_ct,res_ctt,s_eql,e00,ixs_0 hb0,by8,e48,e1,rng_str]
    refine el1 _ ⟨?_,?_⟩ _ (by omega) _ _ _ ?_
    ·simp only [EX,reduceIte,Nat.reduceEqDiff,Nat.reduceAdd,Int.reduceEq,Int.reduceLT,Int.reduceLE,reduceCtorEq,Nat.reduceLeDiff,Nat.reduceSub,Nat.reduceLT,x_callv,clv_fn,x_mkfn,List.nil_append,List.append_nil,res_3,res_ct,res_ctt]
    ·simp only [EX,reduceIte,Nat.reduceEqDiff,Nat.reduceAdd,Int.reduceEq,Int.reduceLT,Int.reduceLE,reduceCtorEq,Nat.reduceLeDiff,Nat.reduceSub,Nat.reduceLT,x_callv,clv_fn,x_mkfn,List.nil_append,List.append_nil,res_3,res_ct,res_ctt]
    ·rintro fr ⟨f0,f24⟩
     simp only [EX,reduceIte,Nat.reduceEqDiff,Nat.reduceAdd,Int.reduceEq,Int.reduceLT,Int.reduceLE,reduceCtorEq,Nat.reduceLeDiff,Nat.reduceSub,Nat.reduceLT,x_callv,clv_fn,x_mkfn,List.nil_append,List.append_nil,res_3,res_ct,res_ctt,f0,rng_str]
     refine el2 _ ?_ ?_ _ (by omega) _ _ _ ?_ ?_
     ·simp only [EX,reduceIte,Nat.reduceEqDiff,Nat.reduceAdd,Int.reduceEq,Int.reduceLT,Int.reduceLE,reduceCtorEq,Nat.reduceLeDiff,Nat.reduceSub,Nat.reduceLT,x_callv,clv_fn,x_mkfn,List.nil_append,List.append_nil,res_3,res_ct,res_ctt]
     ·simp only [EX,reduceIte,Nat.reduceEqDiff,Nat.reduceAdd,Int.reduceEq,Int.reduceLT,Int.reduceLE,reduceCtorEq,Nat.reduceLeDiff,Nat.reduceSub,Nat.reduceLT,x_callv,clv_fn,x_mkfn,List.nil_append,List.append_nil,res_3,res_ct,res_ctt]; rfl
     ·intro hv fr' h6
      rw [if_pos hv]
      simp only [EX,reduceIte,Nat.reduceEqDiff,Nat.reduceAdd,Int.reduceEq,Int.reduceLT,Int.reduceLE,reduceCtorEq,Nat.reduceLeDiff,Nat.reduceSub,Nat.reduceLT,x_callv,clv_fn,x_mkfn,List.nil_append,List.append_nil,res_3,res_ct,res_ctt,h6]; rfl
     ·intro hv fr' h2 h3
      rw [if_neg hv]
      simp only [EX,reduceIte,Nat.reduceEqDiff,Nat.reduceAdd,Int.reduceEq,Int.reduceLT,Int.reduceLE,reduceCtorEq,Nat.reduceLeDiff,Nat.reduceSub,Nat.reduceLT,x_callv,clv_fn,x_mkfn,List.nil_append,List.append_nil,res_3,res_ct,res_ctt,h2,h3]; rfl
   ·simp only [EX,reduceIte,Nat.reduceEqDiff,Nat.reduceAdd,Int.reduceEq,Int.reduceLT,Int.reduceLE,reduceCtorEq,Nat.reduceLeDiff,Nat.reduceSub,Nat.reduceLT,x_callv,clv_fn,x_mkfn,List.nil_append,List.append_nil,res_3,res_ct,res_ctt,s_eql,e00,ixs_0 hb0,by8,e48,rng_str]
    refine el1 _ ⟨?_,?_⟩ _ (by omega) _ _ _ ?_
    ·simp only [EX,reduceIte,Nat.reduceEqDiff,Nat.reduceAdd,Int.reduceEq,Int.reduceLT,Int.reduceLE,reduceCtorEq,Nat.reduceLeDiff,Nat.reduceSub,Nat.reduceLT,x_callv,clv_fn,x_mkfn,List.nil_append,List.append_nil,res_3,res_ct,res_ctt]
    ·simp only [EX,reduceIte,Nat.reduceEqDiff,Nat.reduceAdd,Int.reduceEq,Int.reduceLT,Int.reduceLE,reduceCtorEq,Nat.reduceLeDiff,Nat.reduceSub,Nat.reduceLT,x_callv,clv_fn,x_mkfn,List.nil_append,List.append_nil,res_3,res_ct,res_ctt]
    ·rintro fr ⟨f0,f24⟩
     simp only [EX,reduceIte,Nat.reduceEqDiff,Nat.reduceAdd,Int.reduceEq,Int.reduceLT,Int.reduceLE,reduceCtorEq,Nat.reduceLeDiff,Nat.reduceSub,Nat.reduceLT,x_callv,clv_fn,x_mkfn,List.nil_append,List.append_nil,res_3,res_ct,res_ctt,f0,rng_str]
     refine el2 _ ?_ ?_ _ (by omega) _ _ _ ?_ ?_
     ·simp only [EX,reduceIte,Nat.reduceEqDiff,Nat.reduceAdd,Int.reduceEq,Int.reduceLT,Int.reduceLE,reduceCtorEq,Nat.reduceLeDiff,Nat.reduceSub,Nat.reduceLT,x_callv,clv_fn,x_mkfn,List.nil_append,List.append_nil,res_3,res_ct,res_ctt]
     ·simp only [EX,reduceIte,Nat.reduceEqDiff,Nat.reduceAdd,Int.reduceEq,Int.reduceLT,Int.reduceLE,reduceCtorEq,Nat.reduceLeDiff,Nat.reduceSub,Nat.reduceLT,x_callv,clv_fn,x_mkfn,List.nil_append,List.append_nil,res_3,res_ct,res_ctt]; rfl
     ·intro hv fr' h6
      rw [if_pos hv]
      simp only [EX,reduceIte,Nat.reduceEqDiff,Nat.reduceAdd,Int.reduceEq,Int.reduceLT,Int.reduceLE,reduceCtorEq,Nat.reduceLeDiff,Nat.reduceSub,Nat.reduceLT,x_callv,clv_fn,x_mkfn,List.nil_append,List.append_nil,res_3,res_ct,res_ctt,h6]; rfl
     ·intro hv fr' h2 h3
      rw [if_neg hv]
      simp only [EX,reduceIte,Nat.reduceEqDiff,Nat.reduceAdd,Int.reduceEq,Int.reduceLT,Int.reduceLE,reduceCtorEq,Nat.reduceLeDiff,Nat.reduceSub,Nat.reduceLT,x_callv,clv_fn,x_mkfn,List.nil_append,List.append_nil,res_3,res_ct,res_ctt,h2,h3]; rfl
/-- A word's cells. -/
def tcs (t : Tok) : List AV:=[.i .i64 (t.k : Int),str t.s,.i .i64 (t.n : Int),.i .i64 (t.a : Int)]
def tz : List AV:=[.i .i64 0,str [],.i .i64 0,.i .i64 0]
theorem tcs_one (t : Tok) : ∀ v ∈ tcs t,oneC v = true:=by
 intro v hv
 simp only [tcs,List.mem_cons,List.not_mem_nil,or_false] at hv
 rcases hv with rfl | rfl | rfl | rfl
 ·exact one_i
 ·exact one_str
 ·exact one_i
 ·exact one_i
theorem tz_is : tz = tcs ⟨0,[],0,0⟩:=rfl
/-- What a word's reading tells. -/
def WRes (r : Except Nat (Tok × Nat)) (cs : List AV) (n e : Int) : Prop :=
 match r with
 | .ok (t,w)=>cs = tcs t∧n = (w : Int)∧e = 0
 | .error e'=>e = (e' : Int)∧e' ≠ 0
def TellsW (f c : Nat) (args : List AV) (H : Heap) (r : Except Nat (Tok × Nat)) : Prop:=∃ H' cs n e,Grow H H'∧cs.length = 4∧(∀ v ∈ cs,oneC v = true)∧WRes r cs n e∧∀ M,c≤M→∀ (R : Type) (k : HK R),callK tbl (runK tbl M) R (toPa f) args H k = k (.tu [.ag cs,.i .i64 n,.i .i64 e]) H'
/-- The room for a word,filled. -/
theorem tok_st {H G : Heap} {q : Pa} {zs cs : List AV} (g : Grow H G) (r : Row G q 236 zs) (hz : zs.length = 4) (hn : H.next.toN≤q.toN) (hq : q.toN < G.next.toN) (hl : cs.length = 4) (ho : ∀ v ∈ cs,oneC v = true) :
  ∃ G',Grow H G'∧Row G' q 236 cs∧G'.next = G.next∧(∀ (R : Type) (k : HK R),stC 4 (.p q 0) (.ag cs) k G = k un G')∧∀ (R : Type) (k : HK R),ldC true 4 (.p q 0) k G' = k (.ag cs) G':=by
 obtain ⟨G',r',b',n',e⟩:=r.st_all (n:=4) hq hl (by rw [hz]) ho
 exact ⟨G',b'.of g hn,r',n',e,r'.la 4 hl.symm⟩
theorem tok_new (H : Heap) : ∃ G,G = H.alloc (.cells false 0 236 4 (setCells [.i .i64 0,str [],.i .i64 0,.i .i64 0] 0 .leaf))∧Grow H G∧Row G H.next 236 tz∧H.next.toN < G.next.toN :=
 ⟨_,rfl,Grow.alloc H _,Row.new H 236 tz,by have:=next_alloc H (.cells false 0 236 4 (setCells [.i .i64 0,str [],.i .i64 0,.i .i64 0] 0 .leaf)); omega⟩
/-- A name. -/
theorem s226 {s : List UInt8} {b : UInt8} {r : List UInt8} (hs : s = b :: r) (hb : isL b = true) (hl : s.length≤1000) (H : Heap) : TellsW 226 (s.length + 300) [str s] H (word 0 s):=by
 obtain ⟨G,eG,g,rG,nG⟩:=tok_new H
 have e263:=s263 (f:=264) (c:=40) (p:=isLD) (s:=s) (fun b=>s264) (by decide) hl
 have hle:=cntW_le isLD s
 have ew : word 0 s = if 12 < cntW isLD s then .error 5 else .ok (⟨1,s.take (cntW isLD s),0,0⟩,cntW isLD s):=by
  rw [hs]
  show (if isL b = true then _ else _) = _
  rw [if_pos hb]; rfl
 by_cases h : 12 < cntW isLD s
 ·rw [ew,if_pos h]
  obtain ⟨G',g',r',n',est,eld⟩:=tok_st g rG rfl (Nat.le_refl _) nG (cs:=tz) rfl (tcs_one ⟨0,[],0,0⟩)
  refine ⟨G',tz,0,5,g',rfl,tcs_one ⟨0,[],0,0⟩,⟨rfl,by decide⟩,fun M hM R k=>?_⟩
  obtain ⟨m,rfl⟩ : ∃ m,M = (m + s.length) + 300:=⟨M - (s.length + 300),by omega⟩
  have h' : (12 : Int) < (cntW isLD s : Int):=by omega
  have est : ∀ (R : Type) (k : HK R),stC 4 (.p H.next 0) (.ag [.i .i64 0,str [],.i .i64 0,.i .i64 0]) k G = k un G':=est
  subst eG
  rw [call_eq L226]
  unfold B226
  simp (disch:=first | omega | (simp only [List.length_cons,List.length_nil]; omega)) only [EX,reduceIte,Nat.reduceEqDiff,Nat.reduceAdd,Int.reduceEq,Int.reduceLT,Int.reduceLE,reduceCtorEq,Nat.reduceLeDiff,Nat.reduceSub,Nat.reduceLT,x_callv,clv_fn,x_mkfn,List.nil_append,List.append_nil,res_3,res_ct,res_ctt,e263,h',est,eld,with_ap]
 ·rw [ew,if_neg h]
  obtain ⟨G',g',r',n',est,eld⟩:=tok_st g rG rfl (Nat.le_refl _) nG (cs:=tcs ⟨1,s.take (cntW isLD s),0,0⟩) rfl (tcs_one _)
  refine ⟨G',_,_,0,g',rfl,tcs_one ⟨1,s.take (cntW isLD s),0,0⟩,⟨rfl,rfl,rfl⟩,fun M hM R k=>?_⟩
  obtain ⟨m,rfl⟩ : ∃ m,M = (m + s.length) + 300:=⟨M - (s.length + 300),by omega⟩
  have h' : ¬ (12 : Int) < (cntW isLD s : Int):=by omega
  have est : ∀ (R : Type) (k : HK R),stC 4 (.p H.next 0) (.ag [.i .i64 1,str (s.take (cntW isLD s)),.i .i64 0,.i .i64 0]) k G = k un G':=est
  subst eG
  rw [call_eq L226]
  unfold B226
  simp (disch:=first | omega | (simp only [List.length_cons,List.length_nil]; omega)) only [EX,reduceIte,Nat.reduceEqDiff,Nat.reduceAdd,Int.reduceEq,Int.reduceLT,Int.reduceLE,reduceCtorEq,Nat.reduceLeDiff,Nat.reduceSub,Nat.reduceLT,x_callv,clv_fn,x_mkfn,List.nil_append,List.append_nil,res_3,res_ct,res_ctt,e263,h',sls_t hle,est,eld,with_ap]
theorem cntW_all {p : UInt8→Bool} {s : List UInt8} : ∀ b ∈ s.take (cntW p s),p b = true:=by
 intro b hb
 obtain ⟨i,hi,e⟩:=List.mem_iff_getElem.mp hb
 rw [List.length_take] at hi
 rw [List.getElem_take] at e
 exact cntW_at (s:=s) (i:=i) (by rw [List.getElem?_eq_getElem (by omega),e]) (by omega)
/-- A number. -/
theorem s227 {s : List UInt8} {b : UInt8} {r : List UInt8} (hs : s = b :: r) (hb0 : isL b = false) (hb : isD b = true) (hl : s.length≤1000) (H : Heap) : TellsW 227 (s.length + 600) [str s] H (word 0 s):=by
 obtain ⟨G,eG,g,rG,nG⟩:=tok_new H
 have e263:=s263 (f:=221) (c:=20) (p:=isD) (s:=s) (fun b=>s221) (by decide) hl
 have hle:=cntW_le isD s
 have ew : word 0 s = match numP (s.take (cntW isD s)) with | .error e=>.error e | .ok v=>.ok (⟨2,[],v,0⟩,cntW isD s):=by
  rw [hs]
  show (if isL b = true then _ else if isD b = true then _ else _) = _
  rw [if_neg (by rw [hb0]; decide),if_pos hb]; rfl
 obtain ⟨G1,g1,e265⟩:=s265 (s:=s.take (cntW isD s)) cntW_all G
 have hlt : (s.take (cntW isD s)).length≤s.length:=by rw [List.length_take]; omega
 have hn:=g1.next
 obtain ⟨v,e,he,hw⟩ : ∃ v e : Int,resN (numP (s.take (cntW isD s))) = .tu [.i .i64 v,.i .i64 e]∧WRes (word 0 s) [.i .i64 2,str [],.i .i64 v,.i .i64 0] (cntW isD s) e:=by
  rw [ew]
  cases hnp : numP (s.take (cntW isD s)) with
  | error e =>
   refine ⟨0,e,rfl,rfl,?_⟩
   unfold numP at hnp
   split at hnp
   ·cases hnp; decide
   ·split at hnp
    ·cases hnp
    ·cases hnp; decide
  | ok v=>exact ⟨v,0,rfl,rfl,rfl,rfl⟩
 have ho : ∀ x ∈ ([.i .i64 2,str [],.i .i64 v,.i .i64 0] : List AV),oneC x = true:=by
  intro x hx
  simp only [List.mem_cons,List.not_mem_nil,or_false] at hx
  rcases hx with rfl | rfl | rfl | rfl
  ·exact one_i
  ·exact one_str
  ·exact one_i
  ·exact one_i
 obtain ⟨G',g',r',n',est,eld⟩:=tok_st (g.trans g1) (rG.grow g1 nG) rfl (Nat.le_refl _) (by omega) (cs:=[.i .i64 2,str [],.i .i64 v,.i .i64 0]) rfl ho
 refine ⟨G',_,_,e,g',rfl,ho,hw,fun M hM R k=>?_⟩
 obtain ⟨m,rfl⟩ : ∃ m,M = (m + s.length) + 600:=⟨M - (s.length + 600),by omega⟩
 rw [he] at e265
 subst eG
 rw [call_eq L227]
 unfold B227
 simp (disch:=first | omega | (simp only [List.length_cons,List.length_nil]; omega)) only [EX,reduceIte,Nat.reduceEqDiff,Nat.reduceAdd,Int.reduceEq,Int.reduceLT,Int.reduceLE,reduceCtorEq,Nat.reduceLeDiff,Nat.reduceSub,Nat.reduceLT,x_callv,clv_fn,x_mkfn,List.nil_append,List.append_nil,res_3,res_ct,res_ctt,e263,sls_t hle,e265,est,eld,with_ap]
end Go.Proofs.YtgnfndhmfgghdaaGreatDoor

/- The signs of two letters,parted at the blanks (strings.Fields of one text). -/
namespace Go.Proofs.YtgnfndhmfgghdaaGreatDoor
open Go Go.Vai
set_option maxRecDepth 100000
set_option maxHeartbeats 3200000
set_option linter.unusedSimpArgs false
def sps : List Nat:=[9,10,11,12,13,32]
def spN (j : Nat) : Nat:=if j ∈ sps then 1 else 0
/-- Which letters are blanks: the library's table. -/
def GlS (H : Heap) : Prop:=(toPa 3).toN < H.next.toN∧∃ ro fz e c,H.get (toPa 3) = .cells ro fz e 256 c∧∀ j,j < 256→Tr.get .u c (toPa j) = .i .u8 (spN j : Int)
theorem GlS.grow {H H' : Heap} (h : GlS H) (g : Grow H H') : GlS H':=by
 obtain ⟨h1,ro,fz,e,c,h2,h3⟩:=h
 exact ⟨Nat.lt_of_lt_of_le h1 g.next,ro,fz,e,c,by rw [g.get _ h1,h2],h3⟩
theorem GlS.ld {R : Type} {H : Heap} {k : HK R} (h : GlS H) {j : Nat} (hj : j < 256) : ldC false 1 (.p (toPa 3) j) k H = k (.i .u8 (spN j : Int)) H:=by
 obtain ⟨h1,ro,fz,e,c,h2,h3⟩:=h
 rw [ld_one h2 (by omega),h3 j hj]
theorem ixp_256 {R : Type} {H : Heap} {k : HK R} {b : UInt8} {a : Pa} : ixpC 256 1 (.p a 0) (by8 b) k H = k (.p a b.toNat) H:=by
 have:=UInt8.toNat_lt b
 show ixpC 256 1 (.p a 0) (.i .u8 (b.toNat : Int)) k H = _
 rw [ixp_p (by omega) (by omega),Nat.zero_add,Nat.mul_one]; rfl
noncomputable def cplC {R : Type} (x : AV) (k : HK R) (H : Heap) : Option R:=vI x fun kd n=>guardK (inR kd n) (iN n fun n=>cplN kd n fun v=>k v H)
theorem x_cpl {R : Type} {call : CallK R} {fr : Tr AV} {H : Heap} {k : HK R} {x : Opd} : xopK (.cpl x) call fr H k = cplC (ev fr x) k H:=by
 show evK fr x (fun v=>vI v fun kd n=>guardK (inR kd n) (iN n fun n=>cplN kd n fun v=>k v H)) = _
 rw [evK_eq]; rfl
section
variable {R : Type} {H : Heap} {k : HK R}
theorem cpl_0 : cplC (.i .i64 0) k H = k (.i .i64 (-1)) H:=id rfl
theorem cpl_1 : cplC (.i .i64 1) k H = k (.i .i64 (-2)) H:=id rfl
theorem and_00 : binC .and .no (.i .i64 0) (.i .i64 (-1)) k H = k (.i .i64 0) H:=id rfl
theorem and_01 : binC .and .no (.i .i64 0) (.i .i64 (-2)) k H = k (.i .i64 0) H:=id rfl
theorem and_10 : binC .and .no (.i .i64 1) (.i .i64 (-1)) k H = k (.i .i64 1) H:=id rfl
theorem or_u8 {a b : Nat} (ha : a < 128) (hb : b < 128) : binC .or .no (.i .u8 (a : Int)) (.i .u8 (b : Int)) k H = k (.i .u8 ((a ||| b : Nat) : Int)) H :=
 i_or (kd:=.u8) (Nat.blt_eq.mpr (show a < 256 by omega)) (Nat.blt_eq.mpr (show b < 256 by omega))
noncomputable def mksC (e sz bytes : Nat) (zs : List AV) (l c : AV) (k : HK R) (H : Heap) : Option R:=vI l fun kl l=>vI c fun kc c=>guardK (Nat.beq (kix kl) 3) (guardK (Nat.beq (kix kc) 3) (iN l fun l=>iN c fun c =>
 guardK (Nat.ble l c) (guardK (Nat.ble (Nat.mul c bytes) roomN) (guardK (Nat.ble c sMax) (newK e (repK zs c) H fun id H=>k (.sl id 0 l (some c) sz) H)))))
theorem x_mks {call : CallK R} {fr : Tr AV} {e sz bytes : Nat} {zs : List AV} {l c : Opd} : xopK (.mks e sz bytes zs l c) call fr H k = mksC e sz bytes zs (ev fr l) (ev fr c) k H:=by
 show evK fr l (fun l=>evK fr c fun c=>_) = _
 rw [evK_eq,evK_eq]; rfl
theorem mks_8 : mksC 9 1 16 [str []] (.i .i64 8) (.i .i64 8) k H = k (.sl H.next 0 8 (some 8) 1) (H.alloc (.cells false 0 9 (List.replicate 8 (str [])).length (setCells (List.replicate 8 (str [])) 0 .leaf))):=by
 show newK 9 (List.replicate 8 (str [])) H (fun id H=>k (.sl id 0 8 (some 8) 1) H) = _
 unfold newK
 rw [setCellsK_eq,forceN_eq,Heap.allocK_eq,lenK_eq]
end
def s0 : List UInt8:=[58,58,32,61,61,32,33,61,32,60,61,32,62,61,32,38,38,32,124,124,32,45,62]
theorem s0_sp' : ∀ i,i < 23→i % 3 = 2→∃ b ∈ s0,s0[i]? = some b∧spN b.toNat = 1:=by decide
theorem s0_no' : ∀ i,i < 23→i % 3 ≠ 2→∃ b ∈ s0,s0[i]? = some b∧spN b.toNat = 0:=by decide
theorem s0_lt : ∀ b ∈ s0,b.toNat < 128:=by decide
/-- What is known of the text: every third letter is a blank,the others are none. -/
structure IsS (s : List UInt8) : Prop where
 len : s.length = 23
 sp : ∀ i,i < 23→i % 3 = 2→∃ b : UInt8,s[i]? = some b∧spN b.toNat = 1∧b.toNat < 128
 no : ∀ i,i < 23→i % 3 ≠ 2→∃ b : UInt8,s[i]? = some b∧spN b.toNat = 0∧b.toNat < 128
theorem s0_is : IsS s0:=by
 refine ⟨rfl,fun i hi h=>?_,fun i hi h=>?_⟩
 ·obtain ⟨b,h1,h2,h3⟩:=s0_sp' i hi h
  exact ⟨b,h2,h3,s0_lt b h1⟩
 ·obtain ⟨b,h1,h2,h3⟩:=s0_no' i hi h
  exact ⟨b,h2,h3,s0_lt b h1⟩
theorem s0_wd : ∀ j,j < 8→some ((s0.drop (3 * j)).take 2) = sg2[j]?:=by decide
def b2n (b : Bool) : Nat:=if b then 1 else 0
noncomputable def Lp268b : AC:=(.loop (.seq (.seq (.ops [O 42 (.mv (T 12)),O 43 (.mv (T 0)),O 44 (.len true (T 43)),O 45 (.bin .lss .no (T 42) (T 44)),O 46 (.mv (T 45)),G 47 46 true (.mv (T 0)),G 48 46 true (.mv (T 12)),G 49 46 true (.ixs (T 47) (T 48)),G 50 46 true (.ixp 256 1 (K (.p (toPa 3) 0)) (T 49)),G 51 46 true (.ld false 1 (T 50)),G 52 46 true (.bin .neq .no (T 51) (K (.i .u8 0))),O 53 (.pick (T 46) (T 52) (K (.b false)))]) (.cond (T 53) .skip (.exit 2))) (.block 3 (.ops [O 54 (.mv (T 12)),O 55 (.bin .add .no (T 54) (K (.i .i64 1))),O 12 (.mv (T 55))]))))
noncomputable def Lp268d : AC:=(.loop (.seq (.seq (.ops [O 80 (.mv (T 12)),O 81 (.mv (T 0)),O 82 (.len true (T 81)),O 83 (.bin .lss .no (T 80) (T 82)),O 84 (.mv (T 83)),G 85 84 true (.mv (T 0)),G 86 84 true (.mv (T 12)),G 87 84 true (.ixs (T 85) (T 86)),G 88 84 true (.ixp 256 1 (K (.p (toPa 3) 0)) (T 87)),G 89 84 true (.ld false 1 (T 88)),G 90 84 true (.bin .neq .no (T 89) (K (.i .u8 0))),O 91 (.pick (T 84) (T 90) (K (.b false)))]) (.cond (T 91) .skip (.exit 6))) (.block 7 (.ops [O 92 (.mv (T 12)),O 93 (.bin .add .no (T 92) (K (.i .i64 1))),O 12 (.mv (T 93))]))))
noncomputable def Lp268a : AC:=(.loop (.seq (.seq (.ops [O 13 (.mv (T 6)),O 14 (.mv (T 0)),O 15 (.len true (T 14)),O 16 (.bin .lss .no (T 13) (T 15))]) (.cond (T 16) .skip (.exit 0))) (.seq (.block 1 (.seq (.ops [O 19 (.mv (T 0)),O 20 (.mv (T 6)),O 21 (.ixs (T 19) (T 20)),O 7 (.mv (T 21))]) (.seq (.ops [O 22 (.mv (T 5)),O 23 (.mv (T 7)),O 24 (.bin .or .no (T 22) (T 23)),O 5 (.mv (T 24))]) (.seq (.ops [O 25 (.mv (T 7)),O 26 (.ixp 256 1 (K (.p (toPa 3) 0)) (T 25)),O 27 (.ld false 1 (T 26)),O 28 (.cvi .i64 (T 27)),O 8 (.mv (T 28))]) (.seq (.ops [O 29 (.mv (T 3)),O 30 (.mv (T 4)),O 31 (.mv (T 8)),O 32 (.cpl (T 31)),O 33 (.bin .and .no (T 30) (T 32)),O 34 (.bin .add .no (T 29) (T 33)),O 3 (.mv (T 34))]) (.ops [O 35 (.mv (T 8)),O 4 (.mv (T 35))])))))) (.ops [O 17 (.mv (T 6)),O 18 (.bin .add .no (T 17) (K (.i .i64 1))),O 6 (.mv (T 18))]))))
noncomputable def Lp268c : AC:=(.loop (.seq (.seq (.ops [O 57 (.mv (T 12)),O 58 (.mv (T 0)),O 59 (.len true (T 58)),O 60 (.bin .lss .no (T 57) (T 59))]) (.cond (T 60) .skip (.exit 4))) (.block 5 (.seq (.seq (.ops [O 61 (.mv (T 0)),O 62 (.mv (T 12)),O 63 (.ixs (T 61) (T 62)),O 64 (.ixp 256 1 (K (.p (toPa 3) 0)) (T 63)),O 65 (.ld false 1 (T 64)),O 66 (.bin .eql .no (T 65) (K (.i .u8 0)))]) (.cond (T 66) (.seq (.ops [O 67 (.mv (T 12)),O 68 (.bin .add .no (T 67) (K (.i .i64 1))),O 12 (.mv (T 68))]) (.exit 5)) .skip)) (.seq (.ops [O 69 (.mv (T 9)),O 70 (.mv (T 10)),O 71 (.mv (T 0)),O 72 (.mv (T 11)),O 73 (.mv (T 12)),O 74 (.sls (T 71) (some (T 72)) (some (T 73))),O 75 (.ixa 1 (T 69) (T 70)),O_ (.st 1 (T 75) (T 74))]) (.seq (.ops [O 76 (.mv (T 10)),O 77 (.bin .add .no (T 76) (K (.i .i64 1))),O 10 (.mv (T 77))]) (.seq (.ops [O 78 (.mv (T 12)),O 79 (.bin .add .no (T 78) (K (.i .i64 1))),O 12 (.mv (T 79))]) (.seq (.block 6 Lp268d) (.ops [O 94 (.mv (T 12)),O 11 (.mv (T 94))])))))))))
theorem B268_eq : B268 = (.seq (.ops [O 2 (.mv (K .ns))]) (.seq (.ops [O 3 (.mv (K (.i .i64 0)))]) (.seq (.ops [O 4 (.mv (K (.i .i64 1)))]) (.seq (.ops [O 5 (.mv (K (.i .u8 0)))]) (.seq (.seq (.ops [O 6 (.mv (K (.i .i64 0)))]) (.block 0 Lp268a)) (.seq (.seq (.ops [O 36 (.mv (T 5)),O 37 (.bin .geq .no (T 36) (K (.i .u8 128)))]) (.cond (T 37) (.seq (.ops [O 38 (.mv (T 0)),O 39 (.call (toPa 297) [(T 38),(K (.fn (.func 298) [] []))]),O 2 (.mv (T 39))]) .ret) .skip)) (.seq (.ops [O 40 (.mv (T 3)),O 41 (.mks 9 1 16 [(str [])] (T 40) (T 40)),O 9 (.mv (T 41))]) (.seq (.ops [O 10 (.mv (K (.i .i64 0)))]) (.seq (.ops [O 11 (.mv (K (.i .i64 0)))]) (.seq (.ops [O 12 (.mv (K (.i .i64 0)))]) (.seq (.block 2 Lp268b) (.seq (.ops [O 56 (.mv (T 12)),O 11 (.mv (T 56))]) (.seq (.block 4 Lp268c) (.seq (.seq (.ops [O 95 (.mv (T 11)),O 96 (.mv (T 0)),O 97 (.len true (T 96)),O 98 (.bin .lss .no (T 95) (T 97))]) (.cond (T 98) (.ops [O 99 (.mv (T 9)),O 100 (.mv (T 10)),O 101 (.mv (T 0)),O 102 (.mv (T 11)),O 103 (.sls (T 101) (some (T 102)) none),O 104 (.ixa 1 (T 99) (T 100)),O_ (.st 1 (T 104) (T 103))]) .skip)) (.seq (.ops [O 105 (.mv (T 9)),O 2 (.mv (T 105))]) .ret))))))))))))))):=rfl
structure F268a (s : List UInt8) (i : Nat) (fr : Tr AV) : Prop where
 f0 : V fr 0 = str s
 f3 : V fr 3 = .i .i64 ((i + 2) / 3 : Nat)
 f4 : V fr 4 = .i .i64 (b2n (decide (i % 3 = 0)) : Nat)
 f5 : ∃ x : Nat,x < 128∧V fr 5 = .i .u8 (x : Int)
 f6 : V fr 6 = .i .i64 (i : Int)
theorem loop268a {H : Heap} (G : GlS H) {s : List UInt8} (Z : IsS s) : ∀ fr,F268a s 0 fr→∀ M,100 + 23≤M→∀ (R : Type) (k : XK R) (res : Option R),(∀ fr',F268a s 23 fr'→k (.exit 0) fr' H = res)→runK tbl M R Lp268a fr H k = res:=by
 have hlen:=Z.len
 refine loop_still (Lp:=Lp268a) (ex:=0) (n:=23) (c:=100) (H:=H) (F268a s) ?_ ?_
 ·rintro fr ⟨f0,f3,f4,⟨x,hx,f5⟩,f6⟩ M hM R k res hr
  obtain ⟨m,rfl⟩:=fuel hM
  have hl : ¬ (((23 : Nat) : Int) < (s.length : Int)):=by omega
  unfold Lp268a
  rw [run_loop]
  simp only [EX,reduceIte,Nat.reduceEqDiff,Nat.reduceAdd,Int.reduceEq,Int.reduceLT,Int.reduceLE,reduceCtorEq,Nat.reduceLeDiff,Nat.reduceSub,Nat.reduceLT,x_callv,clv_fn,x_mkfn,List.nil_append,List.append_nil,res_3,res_ct,res_ctt,f0,f6,hl]
  refine hr _ ⟨?_,?_,?_,⟨x,hx,?_⟩,?_⟩
  all_goals simp only [V_S,Nat.reduceEqDiff,reduceIte]
  all_goals assumption
 ·rintro i hi fr ⟨f0,f3,f4,⟨x,hx,f5⟩,f6⟩ M hM R k res hr
  obtain ⟨m,rfl⟩:=fuel hM
  have hl : ((i : Int) < (s.length : Int)):=by omega
  have hr : ∀ fr',F268a s (i + 1) fr'→runK tbl (m + 100) R Lp268a fr' H k = res:=hr
  have hc : ∀ n : Nat,n < 256→IntKind.i64.wrap (n : Int) = (n : Int):=fun n hn=>wrap_n64 (by omega)
  by_cases h2 : i % 3 = 2
  ·obtain ⟨b,hb,hs,hbl⟩:=Z.sp i hi h2
   have hbl2 : b.toNat < 256:=by omega
   have h4 : V fr 4 = .i .i64 0:=by rw [f4,decide_eq_false (by omega)]; rfl
   have hc1 : IntKind.i64.wrap 1 = 1:=hc 1 (by decide)
   have hld : ∀ (R : Type) (k : HK R),ldC false 1 (.p (toPa 3) b.toNat) k H = k (.i .u8 1) H:=fun R k=>by rw [G.ld hbl2,hs]; rfl
   have hadd : IntKind.i64.wrap ((((i + 2) / 3 : Nat) : Int) + 0) = (((i + 2) / 3 : Nat) : Int):=by rw [Int.add_zero,wrap_n64 (by omega)]
   have hor : ∀ (R : Type) (k : HK R),binC .or .no (.i .u8 (x : Int)) (by8 b) k H = k (.i .u8 ((x ||| b.toNat : Nat) : Int)) H:=fun R k=>or_u8 hx hbl
   unfold Lp268a
   rw [run_loop]
   simp only [EX,reduceIte,Nat.reduceEqDiff,Nat.reduceAdd,Int.reduceEq,Int.reduceLT,Int.reduceLE,reduceCtorEq,Nat.reduceLeDiff,Nat.reduceSub,Nat.reduceLT,x_callv,clv_fn,x_mkfn,List.nil_append,List.append_nil,res_3,res_ct,res_ctt,f0,f3,h4,f5,f6,hl,ixs_n hb,hor,ixp_256,hld,hc1,x_cpl,cpl_1,and_01,i_add,hadd,inc64 (show i < 1000000000000 by omega)]
   refine hr _ ⟨?_,?_,?_,⟨x ||| b.toNat,Nat.or_lt_two_pow (n:=7) hx hbl,?_⟩,?_⟩
   all_goals simp only [V_S,Nat.reduceEqDiff,reduceIte]
   ·exact f0
   ·rw [show (i + 1 + 2) / 3 = (i + 2) / 3 by omega]
   ·rw [decide_eq_true (show (i + 1) % 3 = 0 by omega)]; rfl
  ·obtain ⟨b,hb,hs,hbl⟩:=Z.no i hi h2
   have hbl2 : b.toNat < 256:=by omega
   have hc1 : IntKind.i64.wrap 0 = 0:=hc 0 (by decide)
   have hld : ∀ (R : Type) (k : HK R),ldC false 1 (.p (toPa 3) b.toNat) k H = k (.i .u8 0) H:=fun R k=>by rw [G.ld hbl2,hs]; rfl
   have hcl : ∀ n : Nat,n≤1→∀ (R : Type) (k : HK R) (H : Heap),binC .and .no (.i .i64 (n : Int)) (.i .i64 (-1)) k H = k (.i .i64 (n : Int)) H:=by
    intro n hn R k H
    rcases (show n = 0 ∨ n = 1 by omega) with rfl | rfl
    ·exact and_00
    ·exact and_10
   have hq : b2n (decide (i % 3 = 0))≤1:=by unfold b2n; split <;> decide
   have hadd : IntKind.i64.wrap ((((i + 2) / 3 : Nat) : Int) + ((b2n (decide (i % 3 = 0)) : Nat) : Int)) = (((i + 2) / 3 + b2n (decide (i % 3 = 0)) : Nat) : Int):=add64 (by omega)
   have e1 : (i + 2) / 3 + b2n (decide (i % 3 = 0)) = (i + 1 + 2) / 3:=by
    unfold b2n
    by_cases q : i % 3 = 0
    ·rw [decide_eq_true q,if_pos rfl]; omega
    ·rw [decide_eq_false q,if_neg (by decide)]; omega
   have hor : ∀ (R : Type) (k : HK R),binC .or .no (.i .u8 (x : Int)) (by8 b) k H = k (.i .u8 ((x ||| b.toNat : Nat) : Int)) H:=fun R k=>or_u8 hx hbl
   have hcl:=hcl _ hq
   generalize b2n (decide (i % 3 = 0)) = w at *
   unfold Lp268a
   rw [run_loop]
   simp only [EX,reduceIte,Nat.reduceEqDiff,Nat.reduceAdd,Int.reduceEq,Int.reduceLT,Int.reduceLE,reduceCtorEq,Nat.reduceLeDiff,Nat.reduceSub,Nat.reduceLT,x_callv,clv_fn,x_mkfn,List.nil_append,List.append_nil,res_3,res_ct,res_ctt,f0,f3,f4,f5,f6,hl,ixs_n hb,hor,ixp_256,hld,hc1,x_cpl,cpl_0,hcl,i_add,hadd,inc64 (show i < 1000000000000 by omega)]
   refine hr _ ⟨?_,?_,?_,⟨x ||| b.toNat,Nat.or_lt_two_pow (n:=7) hx hbl,?_⟩,?_⟩
   all_goals simp only [V_S,Nat.reduceEqDiff,reduceIte]
   ·exact f0
   ·rw [e1]
   ·rw [decide_eq_false (show ¬ (i + 1) % 3 = 0 by omega)]; rfl
end Go.Proofs.YtgnfndhmfgghdaaGreatDoor

/- The signs of two letters,parted at the blanks (strings.Fields of one text),the whole; signs as words (lex.sign). -/
namespace Go.Proofs.YtgnfndhmfgghdaaGreatDoor
open Go Go.Vai
set_option maxRecDepth 100000
set_option maxHeartbeats 800000
set_option linter.unusedSimpArgs false
def wds (s : List UInt8) (j : Nat) : List AV:=(List.range 8).map fun n=>if n < j then str ((s.drop (3 * n)).take 2) else str []
theorem wds_len {s : List UInt8} {j : Nat} : (wds s j).length = 8:=by unfold wds; rw [List.length_map,List.length_range]
theorem wds_set {s : List UInt8} {j : Nat} (hj : j < 8) : (wds s j).set j (str ((s.drop (3 * j)).take 2)) = wds s (j + 1):=by
 apply List.ext_getElem?
 intro n
 unfold wds
 rw [List.getElem?_set,List.getElem?_map,List.getElem?_map,List.length_map,List.length_range]
 by_cases h : n < 8
 ·rw [List.getElem?_range h]
  by_cases q : j = n
  ·subst q
   rw [if_pos rfl,if_pos hj]
   show some _ = some (if j < j + 1 then _ else _)
   rw [if_pos (Nat.lt_succ_self _)]
  ·rw [if_neg q]
   show some (if n < j then _ else _) = some (if n < j + 1 then _ else _)
   by_cases q2 : n < j
   ·rw [if_pos q2,if_pos (by omega)]
   ·rw [if_neg q2,if_neg (by omega)]
 ·rw [if_neg (by omega),List.getElem?_eq_none (by rw [List.length_range]; omega)]; rfl
structure F268c (s : List UInt8) (q : Pa) (i : Nat) (fr : Tr AV) : Prop where
 f0 : V fr 0 = str s
 f9 : V fr 9 = .sl q 0 8 (some 8) 1
 f10 : V fr 10 = .i .i64 ((i / 3 : Nat) : Int)
 f11 : V fr 11 = .i .i64 ((3 * (i / 3) : Nat) : Int)
 f12 : V fr 12 = .i .i64 (i : Int)
structure I268 (s : List UInt8) (H0 : Heap) (q : Pa) (i : Nat) (G : Heap) : Prop where
 g : Grow H0 G
 n0 : H0.next.toN≤q.toN
 lt : q.toN < G.next.toN
 r : Row G q 9 (wds s (i / 3))
theorem loop268c {H0 G : Heap} {q : Pa} (T : GlS H0) {s : List UInt8} (Z : IsS s) (I : I268 s H0 q 0 G) :
  ∃ G',I268 s H0 q 23 G'∧∀ fr,F268c s q 0 fr→∀ M,200 + 23≤M→∀ (R : Type) (k : XK R) (res : Option R),(∀ fr',F268c s q 23 fr'→k (.exit 4) fr' G' = res)→runK tbl M R Lp268c fr G k = res:=by
 have hlen:=Z.len
 obtain ⟨G',_,J,e⟩:=loop_cps (Lp:=Lp268c) (ex:=4) (n:=23) (c:=200) (St:=Unit) (fun i G _=>I268 s H0 q i G) (fun i _ fr=>F268c s q i fr)
  (fun G _ I fr ⟨f0,f9,f10,f11,f12⟩ M hM R k res hr=>by
   obtain ⟨m,rfl⟩:=fuel hM
   have hl : ¬ (((23 : Nat) : Int) < (s.length : Int)):=by omega
   unfold Lp268c
   rw [run_loop]
   simp only [EX,reduceIte,Nat.reduceEqDiff,Nat.reduceAdd,Int.reduceEq,Int.reduceLT,Int.reduceLE,reduceCtorEq,Nat.reduceLeDiff,Nat.reduceSub,Nat.reduceLT,x_callv,clv_fn,x_mkfn,List.nil_append,List.append_nil,res_3,res_ct,res_ctt,f0,f12,hl]
   refine hr _ ⟨?_,?_,?_,?_,?_⟩
   all_goals simp only [V_S,Nat.reduceEqDiff,reduceIte]
   all_goals assumption)
  (fun i G _ hi I=>by
   have hl : (i : Int) < (s.length : Int):=by omega
   have T':=T.grow I.g
   by_cases h2 : i % 3 = 2
   ·obtain ⟨b,hb,hs,hbl⟩:=Z.sp i hi h2
    have hbl2 : b.toNat < 256:=by omega
    have hld : ∀ (R : Type) (k : HK R),ldC false 1 (.p (toPa 3) b.toNat) k G = k (.i .u8 1) G:=fun R k=>by rw [T'.ld hbl2,hs]; rfl
    have hi2 : i < 21:=by omega
    obtain ⟨b',hb',hs',hbl'⟩:=Z.no (i + 1) (by omega) (by omega)
    have hbl3 : b'.toNat < 256:=by omega
    obtain ⟨G',r',b1,n1,est⟩:=I.r.st_one (off:=i / 3) (v:=str ((s.drop (3 * (i / 3))).take 2)) I.lt (by rw [wds_len]; omega) one_str
    rw [wds_set (by omega)] at r'
    have J : I268 s H0 q (i + 1) G':=⟨b1.of I.g I.n0,I.n0,by rw [n1]; exact I.lt,by rw [show (i + 1) / 3 = i / 3 + 1 by omega]; exact r'⟩
    have T2:=T.grow J.g
    have hld2 : ∀ (R : Type) (k : HK R),ldC false 1 (.p (toPa 3) b'.toNat) k G' = k (.i .u8 0) G':=fun R k=>by rw [T2.ld hbl3,hs']; rfl
    refine ⟨G',(),J,fun fr ⟨f0,f9,f10,f11,f12⟩ M hM R k res hr=>?_⟩
    obtain ⟨m,rfl⟩:=fuel hM
    have hr : ∀ fr',F268c s q (i + 1) fr'→runK tbl (m + 200) R Lp268c fr' G' k = res:=hr
    have hl2 : ((i + 1 : Nat) : Int) < (s.length : Int):=by omega
    have hsl : ∀ (R : Type) (k : HK R) (H : Heap),slsC (str s) (some (.i .i64 ((3 * (i / 3) : Nat) : Int))) (some (.i .i64 (i : Int))) k H = k (str ((s.drop (3 * (i / 3))).take 2)) H:=fun R k H=>by
     rw [sls_ft (by omega) (by omega),show i - 3 * (i / 3) = 2 by omega]
    have hix : ∀ (R : Type) (k : HK R) (H : Heap),ixaC 1 (.sl q 0 8 (some 8) 1) (.i .i64 ((i / 3 : Nat) : Int)) k H = k (.p q (i / 3)) H:=fun R k H=>by
     rw [ixa_sl (by omega) (by omega),Nat.zero_add,Nat.mul_one]; rfl
    have hinc:=inc64 (show i < 1000000000000 by omega)
    have hinc2:=inc64 (show i / 3 < 1000000000000 by omega)
    unfold Lp268c
    rw [run_loop]
    simp only [EX,reduceIte,Nat.reduceEqDiff,Nat.reduceAdd,Int.reduceEq,Int.reduceLT,Int.reduceLE,reduceCtorEq,Nat.reduceLeDiff,Nat.reduceSub,Nat.reduceLT,x_callv,clv_fn,x_mkfn,List.nil_append,List.append_nil,res_3,res_ct,res_ctt,f0,f9,f10,f11,f12,hl,ixs_n hb,ixp_256,hld,hsl,hix,est,i_add,hinc,hinc2]
    unfold Lp268d
    rw [run_loop]
    simp only [EX,reduceIte,Nat.reduceEqDiff,Nat.reduceAdd,Int.reduceEq,Int.reduceLT,Int.reduceLE,reduceCtorEq,Nat.reduceLeDiff,Nat.reduceSub,Nat.reduceLT,x_callv,clv_fn,x_mkfn,List.nil_append,List.append_nil,res_3,res_ct,res_ctt,f0,hl2,ixs_n hb',ixp_256,hld2]
    refine hr _ ⟨?_,?_,?_,?_,?_⟩
    all_goals simp only [V_S,Nat.reduceEqDiff,reduceIte]
    ·exact f0
    ·exact f9
    ·rw [show (i + 1) / 3 = i / 3 + 1 by omega]
    ·rw [show 3 * ((i + 1) / 3) = i + 1 by omega]
   ·obtain ⟨b,hb,hs,hbl⟩:=Z.no i hi h2
    have hbl2 : b.toNat < 256:=by omega
    have hld : ∀ (R : Type) (k : HK R),ldC false 1 (.p (toPa 3) b.toNat) k G = k (.i .u8 0) G:=fun R k=>by rw [T'.ld hbl2,hs]; rfl
    have e3 : (i + 1) / 3 = i / 3:=by omega
    refine ⟨G,(),⟨I.g,I.n0,I.lt,by rw [e3]; exact I.r⟩,fun fr ⟨f0,f9,f10,f11,f12⟩ M hM R k res hr=>?_⟩
    obtain ⟨m,rfl⟩:=fuel hM
    have hr : ∀ fr',F268c s q (i + 1) fr'→runK tbl (m + 200) R Lp268c fr' G k = res:=hr
    have hinc:=inc64 (show i < 1000000000000 by omega)
    unfold Lp268c
    rw [run_loop]
    simp only [EX,reduceIte,Nat.reduceEqDiff,Nat.reduceAdd,Int.reduceEq,Int.reduceLT,Int.reduceLE,reduceCtorEq,Nat.reduceLeDiff,Nat.reduceSub,Nat.reduceLT,x_callv,clv_fn,x_mkfn,List.nil_append,List.append_nil,res_3,res_ct,res_ctt,f0,f12,hl,ixs_n hb,ixp_256,hld,i_add,hinc]
    refine hr _ ⟨?_,?_,?_,?_,?_⟩
    all_goals simp only [V_S,Nat.reduceEqDiff,reduceIte]
    ·exact f0
    ·exact f9
    ·rw [e3]; exact f10
    ·rw [e3]; exact f11)
  23 0 G () (Nat.zero_add _) I
 exact ⟨G',J,e⟩
/-- The text parted at its blanks. -/
theorem s268 {s : List UInt8} (Z : IsS s) {H : Heap} (T : GlS H) : ∃ H' q,Grow H H'∧H.next.toN≤q.toN∧q.toN < H'.next.toN∧Row H' q 9 (wds s 8)∧∀ M,500≤M→∀ (R : Type) (k : HK R),callK tbl (runK tbl M) R (toPa 268) [str s] H k = k (.sl q 0 8 (some 8) 1) H':=by
 have hlen:=Z.len
 have g1:=Grow.alloc H (.cells false 0 9 (List.replicate 8 (str [])).length (setCells (List.replicate 8 (str [])) 0 .leaf))
 have n1:=next_alloc H (.cells false 0 9 (List.replicate 8 (str [])).length (setCells (List.replicate 8 (str [])) 0 .leaf))
 have r1 : Row (H.alloc (.cells false 0 9 (List.replicate 8 (str [])).length (setCells (List.replicate 8 (str [])) 0 .leaf))) H.next 9 (wds s (0 / 3)):=Row.new H 9 (List.replicate 8 (str []))
 obtain ⟨H1,e1⟩ : ∃ H1,H1 = H.alloc (.cells false 0 9 (List.replicate 8 (str [])).length (setCells (List.replicate 8 (str [])) 0 .leaf)):=⟨_,rfl⟩
 rw [← e1] at g1 n1 r1
 have mk : ∀ (R : Type) (k : HK R),mksC 9 1 16 [str []] (.i .i64 8) (.i .i64 8) k H = k (.sl H.next 0 8 (some 8) 1) H1:=fun R k=>by rw [mks_8,e1]
 clear e1
 have T1:=T.grow g1
 obtain ⟨H2,J,ec⟩:=loop268c T Z ⟨g1,Nat.le_refl _,by omega,r1⟩
 obtain ⟨H3,r3,b3,n3,est⟩:=J.r.st_one (off:=7) (v:=str ((s.drop (3 * 7)).take 2)) J.lt (by rw [wds_len]; decide) one_str
 have r3 : Row H3 H.next 9 ((wds s 7).set 7 (str ((s.drop (3 * 7)).take 2))):=r3
 rw [wds_set (by decide)] at r3
 refine ⟨H3,H.next,b3.of J.g (Nat.le_refl _),Nat.le_refl _,by rw [n3]; exact J.lt,r3,fun M hM R k=>?_⟩
 obtain ⟨m,rfl⟩:=fuel hM
 obtain ⟨b,hb,hs,hbl⟩:=Z.no 0 (by decide) (by decide)
 have hbl2 : b.toNat < 256:=by omega
 have hld : ∀ (R : Type) (k : HK R),ldC false 1 (.p (toPa 3) b.toNat) k H1 = k (.i .u8 0) H1:=fun R k=>by rw [T1.ld hbl2,hs]; rfl
 have hl0 : (0 : Int) < (s.length : Int):=by omega
 have hl1 : (21 : Int) < (s.length : Int):=by omega
 have hsl : ∀ (R : Type) (k : HK R) (H : Heap),slsC (str s) (some (.i .i64 21)) none k H = k (str ((s.drop (3 * 7)).take 2)) H:=fun R k H=>by
  have:=sls_f (R:=R) (k:=k) (H:=H) (s:=s) (i:=21) (by omega)
  have e : (s.drop 21).take 2 = s.drop 21:=List.take_of_length_le (by rw [List.length_drop]; omega)
  rw [show 3 * 7 = 21 from rfl,e]
  exact this
 have hix : ∀ (R : Type) (k : HK R) (H' : Heap),ixaC 1 (.sl H.next 0 8 (some 8) 1) (.i .i64 7) k H' = k (.p H.next 7) H':=fun R k H'=>ixa_sl (i:=7) (by decide) (by decide)
 rw [call_eq L268,B268_eq]
 simp only [EX,reduceIte,Nat.reduceEqDiff,Nat.reduceAdd,Int.reduceEq,Int.reduceLT,Int.reduceLE,reduceCtorEq,Nat.reduceLeDiff,Nat.reduceSub,Nat.reduceLT,x_callv,clv_fn,x_mkfn,List.nil_append,List.append_nil,res_3,res_ct,res_ctt]
 refine loop268a T Z _ ⟨?_,?_,?_,⟨0,by decide,?_⟩,?_⟩ _ (by omega) _ _ _ ?_
 rotate_right
 ·rintro fr ⟨f0,f3,f4,⟨x,hx,f5⟩,f6⟩
  have f3 : V fr 3 = .i .i64 8:=f3
  have hx' : ¬ (128 : Int)≤(x : Int):=by omega
  simp only [EX,reduceIte,Nat.reduceEqDiff,Nat.reduceAdd,Int.reduceEq,Int.reduceLT,Int.reduceLE,reduceCtorEq,Nat.reduceLeDiff,Nat.reduceSub,Nat.reduceLT,x_callv,clv_fn,x_mkfn,List.nil_append,List.append_nil,res_3,res_ct,res_ctt,f0,f3,f5,hx',x_mks,mk]
  unfold Lp268b
  rw [run_loop]
  simp only [EX,reduceIte,Nat.reduceEqDiff,Nat.reduceAdd,Int.reduceEq,Int.reduceLT,Int.reduceLE,reduceCtorEq,Nat.reduceLeDiff,Nat.reduceSub,Nat.reduceLT,x_callv,clv_fn,x_mkfn,List.nil_append,List.append_nil,res_3,res_ct,res_ctt,f0,hl0,ixs_0 hb,ixp_256,hld]
  refine ec _ ⟨?_,?_,?_,?_,?_⟩ _ (by omega) _ _ _ ?_
  rotate_right
  ·rintro fr' ⟨g0,g9,g10,g11,g12⟩
   have g10 : V fr' 10 = .i .i64 7:=g10
   have g11 : V fr' 11 = .i .i64 21:=g11
   simp only [EX,reduceIte,Nat.reduceEqDiff,Nat.reduceAdd,Int.reduceEq,Int.reduceLT,Int.reduceLE,reduceCtorEq,Nat.reduceLeDiff,Nat.reduceSub,Nat.reduceLT,x_callv,clv_fn,x_mkfn,List.nil_append,List.append_nil,res_3,res_ct,res_ctt,g0,g9,g10,g11,hl1,hsl,hix,est]
  all_goals simp only [V_S,Nat.reduceEqDiff,reduceIte]
  ·exact f0
  ·rfl
  ·rfl
  ·rfl
 all_goals simp only [EX,reduceIte,Nat.reduceEqDiff,Nat.reduceAdd,Int.reduceEq,Int.reduceLT,Int.reduceLE,reduceCtorEq,Nat.reduceLeDiff,Nat.reduceSub,Nat.reduceLT,x_callv,clv_fn,x_mkfn,List.nil_append,List.append_nil,res_3,res_ct,res_ctt]
 all_goals rfl
end Go.Proofs.YtgnfndhmfgghdaaGreatDoor

/- Signs as words (lex.sign); the next word (lex.next),where it is no text. -/
namespace Go.Proofs.YtgnfndhmfgghdaaGreatDoor
open Go Go.Vai
set_option maxRecDepth 100000
set_option maxHeartbeats 800000
set_option linter.unusedSimpArgs false
theorem wds_at {w : Pa} {H : Heap} (r : Row H w 9 (wds s0 8)) {i : Nat} {p : List UInt8} (hp : sg2[i]? = some p) : ∀ (R : Type) (k : HK R),ldC false 1 (.p w i) k H = k (str p) H:=by
 have hi : i < 8:=(List.getElem?_eq_some_iff.mp hp).1
 have e:=s0_wd i hi
 rw [hp] at e
 refine r.l i ?_
 unfold wds
 rw [List.getElem?_map,List.getElem?_range hi]
 show some (if i < 8 then _ else _) = _
 rw [if_pos hi,Option.some.inj e]
theorem sg2_len : ∀ p ∈ sg2,p.length = 2:=by decide
noncomputable def Lp229 : AC:=(.loop (.seq (.ops [O 10 (.bin .lss .no (T 9) (T 8))]) (.seq (.cond (T 10) .skip (.exit 0)) (.seq (.block 1 (.seq (.ops [O 11 (.ixa 1 (T 7) (T 9)),O 12 (.ld false 1 (T 11)),O 6 (.mv (T 12))]) (.seq (.ops [O 13 (.mv (T 0)),O 14 (.mv (T 6)),O 15 (.call (toPa 223) [(T 13),(T 14)])]) (.cond (T 15) (.seq (.ops [O 16 (.mv (T 6)),O 17 (.build [(.i .i64 0),(str []),(.i .i64 0),(.i .i64 0)] [(0,1,(K (.i .i64 4))),(1,1,(T 16))]),O 18 (.mv (T 6)),O 19 (.len true (T 18)),O_ (.st 4 (T 2) (T 17)),O 3 (.mv (T 19)),O 4 (.mv (K (.i .i64 0)))]) .ret) .skip)))) (.ops [O 20 (.bin .add .no (T 9) (K (.i .i64 1))),O 9 (.mv (T 20))])))))
theorem B229_eq : B229 = (.seq (.ops [O 2 (.new 236 [(.i .i64 0),(str []),(.i .i64 0),(.i .i64 0)]),O 3 (.mv (K (.i .i64 0))),O 4 (.mv (K (.i .i64 0)))]) (.seq (.seq (.ops [O 7 (.call (toPa 268) [(K (str [58,58,32,61,61,32,33,61,32,60,61,32,62,61,32,38,38,32,124,124,32,45,62]))]),O 8 (.len false (T 7)),O 9 (.mv (K (.i .i64 0)))]) (.block 0 Lp229)) (.seq (.seq (.ops [O 21 (.mv (T 0)),O 22 (.sls (T 21) none (some (K (.i .i64 1)))),O 23 (.call (toPa 225) [(K (str [40,41,123,125,91,93,44,59,58,46,60,62,33,43,45,42])),(T 22)])]) (.cond (T 23) (.seq (.ops [O 24 (.mv (T 0)),O 25 (.sls (T 24) none (some (K (.i .i64 1)))),O 26 (.build [(.i .i64 0),(str []),(.i .i64 0),(.i .i64 0)] [(0,1,(K (.i .i64 4))),(1,1,(T 25))]),O_ (.st 4 (T 2) (T 26)),O 3 (.mv (K (.i .i64 1))),O 4 (.mv (K (.i .i64 0)))]) .ret) .skip)) (.seq (.ops [O 27 (.build [(.i .i64 0),(str []),(.i .i64 0),(.i .i64 0)] []),O_ (.st 4 (T 2) (T 27)),O 3 (.mv (K (.i .i64 0))),O 4 (.mv (K (.i .i64 12)))]) .ret)))):=rfl
structure F229 (s : List UInt8) (q w : Pa) (i : Nat) (fr : Tr AV) : Prop where
 f0 : V fr 0 = str s
 f2 : V fr 2 = .p q 0
 f7 : V fr 7 = .sl w 0 8 (some 8) 1
 f8 : V fr 8 = .i .i64 8
 f9 : V fr 9 = .i .i64 (i : Int)
theorem sgn_go {s : List UInt8} {q w : Pa} {H G' : Heap} (r : Row H w 9 (wds s0 8)) (hst : ∀ (R : Type) (k : HK R),stC 4 (.p q 0) (.ag [.i .i64 4,str (s.take 2),.i .i64 0,.i .i64 0]) k H = k un G') :
  ∀ (n i : Nat),i + n = 8→(∀ j,j < i→sg2[j]? ≠ some (s.take 2))→∀ fr,F229 s q w i fr→∀ M,100 + n≤M→∀ (R : Type) (k : XK R) (res : Option R),
   (s.take 2 ∉ sg2→∀ fr',V fr' 0 = str s→V fr' 2 = .p q 0→k (.exit 0) fr' H = res)→(s.take 2 ∈ sg2→∀ fr',V fr' 2 = .p q 0→V fr' 3 = .i .i64 2→V fr' 4 = .i .i64 0→k .ret fr' G' = res)→runK tbl M R Lp229 fr H k = res
 | 0,i,hn,hno,fr,⟨f0,f2,f7,f8,f9⟩,M,hM,R,k,res,hx,hr=>by
  obtain rfl : i = 8:=by omega
  obtain ⟨m,rfl⟩:=fuel hM
  have hl : ¬ (((8 : Nat) : Int) < 8):=by decide
  have hni : s.take 2 ∉ sg2:=by
   intro h
   obtain ⟨j,hj⟩:=List.mem_iff_getElem?.mp h
   exact hno j (List.getElem?_eq_some_iff.mp hj).1 hj
  unfold Lp229
  rw [run_loop]
  simp only [EX,reduceIte,Nat.reduceEqDiff,Nat.reduceAdd,Int.reduceEq,Int.reduceLT,Int.reduceLE,reduceCtorEq,Nat.reduceLeDiff,Nat.reduceSub,Nat.reduceLT,x_callv,clv_fn,x_mkfn,List.nil_append,List.append_nil,res_3,res_ct,res_ctt,f8,f9,hl]
  refine hx hni _ ?_ ?_
  all_goals simp only [V_S,Nat.reduceEqDiff,reduceIte]
  all_goals assumption
 | n + 1,i,hn,hno,fr,⟨f0,f2,f7,f8,f9⟩,M,hM,R,k,res,hx,hr=>by
  obtain ⟨m,rfl⟩ : ∃ m,M = (m + n) + 101:=⟨M - (100 + (n + 1)),by omega⟩
  have hi : i < 8:=by omega
  have hl : ((i : Int) < 8):=by omega
  obtain ⟨p,hp⟩ : ∃ p,sg2[i]? = some p:=⟨sg2[i],List.getElem?_eq_getElem hi⟩
  have hpl:=sg2_len p (List.mem_of_getElem? hp)
  have hix : ∀ (R : Type) (k : HK R) (H : Heap),ixaC 1 (.sl w 0 8 (some 8) 1) (.i .i64 (i : Int)) k H = k (.p w i) H:=fun R k H=>by
   rw [ixa_sl (by omega) (by omega),Nat.zero_add,Nat.mul_one]; rfl
  have hld:=wds_at r hp
  have hhp:=s223 (s:=s) (p:=p)
  rw [hpl] at hhp
  by_cases q : s.take 2 = p
  ·rw [decide_eq_true q] at hhp
   have hmem : s.take 2 ∈ sg2:=by rw [q]; exact List.mem_of_getElem? hp
   have hlp : ∀ (R : Type) (k : HK R) (H : Heap),lenC true (str p) k H = k (.i .i64 2) H:=fun R k H=>by rw [len_str,hpl]; rfl
   rw [q] at hst
   unfold Lp229
   rw [run_loop]
   simp only [EX,reduceIte,Nat.reduceEqDiff,Nat.reduceAdd,Int.reduceEq,Int.reduceLT,Int.reduceLE,reduceCtorEq,Nat.reduceLeDiff,Nat.reduceSub,Nat.reduceLT,x_callv,clv_fn,x_mkfn,List.nil_append,List.append_nil,res_3,res_ct,res_ctt,f0,f2,f7,f8,f9,hl,hix,hld,hhp _ (Nat.le_add_left 40 _),hlp,hst]
   refine hr hmem _ ?_ ?_ ?_
   all_goals simp only [V_S,Nat.reduceEqDiff,reduceIte]
   all_goals assumption
  ·rw [decide_eq_false q] at hhp
   unfold Lp229
   rw [run_loop]
   simp only [EX,reduceIte,Nat.reduceEqDiff,Nat.reduceAdd,Int.reduceEq,Int.reduceLT,Int.reduceLE,reduceCtorEq,Nat.reduceLeDiff,Nat.reduceSub,Nat.reduceLT,x_callv,clv_fn,x_mkfn,List.nil_append,List.append_nil,res_3,res_ct,res_ctt,f0,f2,f7,f8,f9,hl,hix,hld,hhp _ (Nat.le_add_left 40 _),i_add,inc64 (show i < 1000000000000 by omega)]
   refine sgn_go r hst n (i + 1) (by omega) ?_ _ ⟨?_,?_,?_,?_,?_⟩ _ (by omega) R k res hx hr
   ·intro j hj
    by_cases e : j = i
    ·rw [e,hp]; intro q2; exact q (Option.some.inj q2).symm
    ·exact hno j (by omega)
   all_goals simp only [V_S,Nat.reduceEqDiff,reduceIte]
   all_goals assumption
/-- A sign. -/
theorem s229 {s : List UInt8} {b : UInt8} {r : List UInt8} (hs : s = b :: r) (h1 : isL b = false) (h2 : isD b = false) (h3 : b ≠ 34) {H : Heap} (T : GlS H) : TellsW 229 700 [str s] H (word 0 s):=by
 obtain ⟨G,eG,g,rG,nG⟩:=tok_new H
 obtain ⟨G1,w,g1,n1,l1,rw1,e268⟩:=s268 s0_is (T.grow g)
 have hn1:=g1.next
 have rG1:=rG.grow g1 nG
 have ew : word 0 s = if s.take 2 ∈ sg2 then .ok (⟨4,s.take 2,0,0⟩,2) else if b ∈ sg1 then .ok (⟨4,[b],0,0⟩,1) else .error 12:=by
  rw [hs]
  show (if isL b = true then _ else if isD b = true then _ else if b = 34 then _ else _) = _
  rw [if_neg (by rw [h1]; decide),if_neg (by rw [h2]; decide),if_neg h3]
 obtain ⟨G2,g2,r2,n2,est2,eld2⟩:=tok_st (g.trans g1) rG1 rfl (Nat.le_refl _) (by omega) (cs:=tcs ⟨4,s.take 2,0,0⟩) rfl (tcs_one _)
 have e268 : ∀ M,500≤M→∀ (R : Type) (k : HK R),callK tbl (runK tbl M) R (toPa 268) [str [58,58,32,61,61,32,33,61,32,60,61,32,62,61,32,38,38,32,124,124,32,45,62]] G k = k (.sl w 0 8 (some 8) 1) G1:=e268
 have hh:=@sgn_go s H.next w G1 G2 rw1 est2 8 0 (by decide) (fun j hj=>absurd hj (Nat.not_lt_zero _))
 have ht1 : s.take 1 = [b]:=by rw [hs]; rfl
 have hsl : ∀ (R : Type) (k : HK R) (H : Heap),slsC (str s) none (some (.i .i64 1)) k H = k (str [b]) H:=fun R k H=>by
  have:=sls_t (R:=R) (k:=k) (H:=H) (s:=s) (n:=1) (by rw [hs]; exact Nat.succ_le_succ (Nat.zero_le _))
  rw [ht1] at this
  exact this
 have e225 : ∀ M,100≤M→∀ (R : Type) (k : HK R) (H : Heap),callK tbl (runK tbl M) R (toPa 225) [str [40,41,123,125,91,93,44,59,58,46,60,62,33,43,45,42],str [b]] H k = k (.b (decide (b ∈ sg1))) H:=s225 (s:=sg1) (c:=b)
 subst eG
 by_cases q : s.take 2 ∈ sg2
 ·rw [ew,if_pos q]
  refine ⟨G2,_,2,0,g2,rfl,tcs_one ⟨4,s.take 2,0,0⟩,⟨rfl,rfl,rfl⟩,fun M hM R k=>?_⟩
  obtain ⟨m,rfl⟩:=fuel hM
  rw [call_eq L229,B229_eq]
  simp only [EX,reduceIte,Nat.reduceEqDiff,Nat.reduceAdd,Int.reduceEq,Int.reduceLT,Int.reduceLE,reduceCtorEq,Nat.reduceLeDiff,Nat.reduceSub,Nat.reduceLT,x_callv,clv_fn,x_mkfn,List.nil_append,List.append_nil,res_3,res_ct,res_ctt,e268 _ (Nat.le_add_left 500 _)]
  refine hh _ ⟨?_,?_,?_,?_,?_⟩ _ (by omega) R _ _ (fun h=>absurd q h) ?_
  rotate_right
  ·intro _ fr f2 f3 f4
   simp only [EX,reduceIte,Nat.reduceEqDiff,Nat.reduceAdd,Int.reduceEq,Int.reduceLT,Int.reduceLE,reduceCtorEq,Nat.reduceLeDiff,Nat.reduceSub,Nat.reduceLT,x_callv,clv_fn,x_mkfn,List.nil_append,List.append_nil,res_3,res_ct,res_ctt,f2,f3,f4,eld2,with_ap]
  all_goals simp only [EX,reduceIte,Nat.reduceEqDiff,Nat.reduceAdd,Int.reduceEq,Int.reduceLT,Int.reduceLE,reduceCtorEq,Nat.reduceLeDiff,Nat.reduceSub,Nat.reduceLT,x_callv,clv_fn,x_mkfn,List.nil_append,List.append_nil,res_3,res_ct,res_ctt]
  all_goals rfl
 ·rw [ew,if_neg q]
  by_cases q1 : b ∈ sg1
  ·rw [if_pos q1]
   obtain ⟨G3,g3,r3,n3,est3,eld3⟩:=tok_st (g.trans g1) rG1 rfl (Nat.le_refl _) (by omega) (cs:=tcs ⟨4,[b],0,0⟩) rfl (tcs_one _)
   have est3 : ∀ (R : Type) (k : HK R),stC 4 (.p H.next 0) (.ag [.i .i64 4,str [b],.i .i64 0,.i .i64 0]) k G1 = k un G3:=est3
   rw [decide_eq_true q1] at e225
   refine ⟨G3,_,1,0,g3,rfl,tcs_one ⟨4,[b],0,0⟩,⟨rfl,rfl,rfl⟩,fun M hM R k=>?_⟩
   obtain ⟨m,rfl⟩:=fuel hM
   rw [call_eq L229,B229_eq]
   simp only [EX,reduceIte,Nat.reduceEqDiff,Nat.reduceAdd,Int.reduceEq,Int.reduceLT,Int.reduceLE,reduceCtorEq,Nat.reduceLeDiff,Nat.reduceSub,Nat.reduceLT,x_callv,clv_fn,x_mkfn,List.nil_append,List.append_nil,res_3,res_ct,res_ctt,e268 _ (Nat.le_add_left 500 _)]
   refine hh _ ⟨?_,?_,?_,?_,?_⟩ _ (by omega) R _ _ ?_ (fun h=>absurd h q)
   rotate_right
   ·intro _ fr f0 f2
    simp (disch:=first | omega | (simp only [List.length_cons,List.length_nil]; omega)) only [EX,reduceIte,Nat.reduceEqDiff,Nat.reduceAdd,Int.reduceEq,Int.reduceLT,Int.reduceLE,reduceCtorEq,Nat.reduceLeDiff,Nat.reduceSub,Nat.reduceLT,x_callv,clv_fn,x_mkfn,List.nil_append,List.append_nil,res_3,res_ct,res_ctt,f0,f2,hsl,e225 _ (Nat.le_add_left 100 _),est3,eld3,with_ap]
   all_goals simp only [EX,reduceIte,Nat.reduceEqDiff,Nat.reduceAdd,Int.reduceEq,Int.reduceLT,Int.reduceLE,reduceCtorEq,Nat.reduceLeDiff,Nat.reduceSub,Nat.reduceLT,x_callv,clv_fn,x_mkfn,List.nil_append,List.append_nil,res_3,res_ct,res_ctt]
   all_goals rfl
  ·rw [if_neg q1]
   obtain ⟨G3,g3,r3,n3,est3,eld3⟩:=tok_st (g.trans g1) rG1 rfl (Nat.le_refl _) (by omega) (cs:=tz) rfl (tcs_one ⟨0,[],0,0⟩)
   have est3 : ∀ (R : Type) (k : HK R),stC 4 (.p H.next 0) (.ag [.i .i64 0,str [],.i .i64 0,.i .i64 0]) k G1 = k un G3:=est3
   rw [decide_eq_false q1] at e225
   refine ⟨G3,tz,0,12,g3,rfl,tcs_one ⟨0,[],0,0⟩,⟨rfl,by decide⟩,fun M hM R k=>?_⟩
   obtain ⟨m,rfl⟩:=fuel hM
   rw [call_eq L229,B229_eq]
   simp only [EX,reduceIte,Nat.reduceEqDiff,Nat.reduceAdd,Int.reduceEq,Int.reduceLT,Int.reduceLE,reduceCtorEq,Nat.reduceLeDiff,Nat.reduceSub,Nat.reduceLT,x_callv,clv_fn,x_mkfn,List.nil_append,List.append_nil,res_3,res_ct,res_ctt,e268 _ (Nat.le_add_left 500 _)]
   refine hh _ ⟨?_,?_,?_,?_,?_⟩ _ (by omega) R _ _ ?_ (fun h=>absurd h q)
   rotate_right
   ·intro _ fr f0 f2
    simp (disch:=first | omega | (simp only [List.length_cons,List.length_nil]; omega)) only [EX,reduceIte,Nat.reduceEqDiff,Nat.reduceAdd,Int.reduceEq,Int.reduceLT,Int.reduceLE,reduceCtorEq,Nat.reduceLeDiff,Nat.reduceSub,Nat.reduceLT,x_callv,clv_fn,x_mkfn,List.nil_append,List.append_nil,res_3,res_ct,res_ctt,f0,f2,hsl,e225 _ (Nat.le_add_left 100 _),est3,eld3,with_ap]
   all_goals simp only [EX,reduceIte,Nat.reduceEqDiff,Nat.reduceAdd,Int.reduceEq,Int.reduceLT,Int.reduceLE,reduceCtorEq,Nat.reduceLeDiff,Nat.reduceSub,Nat.reduceLT,x_callv,clv_fn,x_mkfn,List.nil_append,List.append_nil,res_3,res_ct,res_ctt]
   all_goals rfl
/-- The next word,of what its own kind tells. -/
theorem s174 {s : List UInt8} {b : UInt8} {r : List UInt8} (hs : s = b :: r) (hl : s.length≤1000) {H : Heap} (T : GlS H)
  (hstr : ∀ H,GlS H→b = 34→isL b = false→isD b = false→TellsW 228 (s.length + 3000) [str s] H (word 0 s)) : TellsW 174 (s.length + 4000) [str s] H (word 0 s):=by
 obtain ⟨G,eG,g,rG,nG⟩:=tok_new H
 have hb0 : s[0]? = some b:=by rw [hs]; rfl
 have core : ∀ (f c : Nat),c≤s.length + 3000→TellsW f c [str s] G (word 0 s)→∃ G1 H' cs n e,Grow H H'∧cs.length = 4∧(∀ v ∈ cs,oneC v = true)∧WRes (word 0 s) cs n e ∧
   (∀ M,s.length + 3000≤M→∀ (R : Type) (k : HK R),callK tbl (runK tbl M) R (toPa f) [str s] G k = k (.tu [.ag cs,.i .i64 n,.i .i64 e]) G1) ∧
   (∀ (R : Type) (k : HK R),stC 4 (.p H.next 0) (.ag cs) k G1 = k un H')∧∀ (R : Type) (k : HK R),ldC true 4 (.p H.next 0) k H' = k (.ag cs) H':=by
  rintro f c hc ⟨G1,cs,n,e,g1,h1,h2,h3,h4⟩
  have hn:=g1.next
  obtain ⟨G2,g2,r2,n2,est2,eld2⟩:=tok_st (g.trans g1) (rG.grow g1 nG) rfl (Nat.le_refl _) (by omega) h1 h2
  exact ⟨G1,G2,cs,n,e,g2,h1,h2,h3,fun M hM=>h4 M (by omega),est2,eld2⟩
 cases hL : isL b with
 | true =>
  obtain ⟨G1,H',cs,n,e,g',h1,h2,h3,e4,est,eld⟩:=core 226 _ (by omega) (s226 hs hL hl G)
  refine ⟨H',cs,n,e,g',h1,h2,h3,fun M hM R k=>?_⟩
  obtain ⟨m,rfl⟩ : ∃ m,M = (m + s.length) + 4000:=⟨M - (s.length + 4000),by omega⟩
  subst eG
  rw [call_eq L174]
  unfold B174
  simp (disch:=first | omega | (simp only [List.length_cons,List.length_nil]; omega)) only [EX,reduceIte,Nat.reduceEqDiff,Nat.reduceAdd,Int.reduceEq,Int.reduceLT,Int.reduceLE,reduceCtorEq,Nat.reduceLeDiff,Nat.reduceSub,Nat.reduceLT,x_callv,clv_fn,x_mkfn,List.nil_append,List.append_nil,res_3,res_ct,res_ctt,ixs_0 hb0,s220 _ (Nat.le_add_left 20 _),hL,e4,est,eld,with_ap]
 | false =>
  cases hD : isD b with
  | true =>
   obtain ⟨G1,H',cs,n,e,g',h1,h2,h3,e4,est,eld⟩:=core 227 _ (by omega) (s227 hs hL hD hl G)
   refine ⟨H',cs,n,e,g',h1,h2,h3,fun M hM R k=>?_⟩
   obtain ⟨m,rfl⟩ : ∃ m,M = (m + s.length) + 4000:=⟨M - (s.length + 4000),by omega⟩
   subst eG
   rw [call_eq L174]
   unfold B174
   simp (disch:=first | omega | (simp only [List.length_cons,List.length_nil]; omega)) only [EX,reduceIte,Nat.reduceEqDiff,Nat.reduceAdd,Int.reduceEq,Int.reduceLT,Int.reduceLE,reduceCtorEq,Nat.reduceLeDiff,Nat.reduceSub,Nat.reduceLT,x_callv,clv_fn,x_mkfn,List.nil_append,List.append_nil,res_3,res_ct,res_ctt,ixs_0 hb0,s220 _ (Nat.le_add_left 20 _),s221 _ (Nat.le_add_left 20 _),hL,hD,e4,est,eld,with_ap]
  | false =>
   by_cases h34 : b = 34
   ·obtain ⟨G1,H',cs,n,e,g',h1,h2,h3,e4,est,eld⟩:=core 228 _ (by omega) (hstr G (T.grow g) h34 hL hD)
    refine ⟨H',cs,n,e,g',h1,h2,h3,fun M hM R k=>?_⟩
    obtain ⟨m,rfl⟩ : ∃ m,M = (m + s.length) + 4000:=⟨M - (s.length + 4000),by omega⟩
    have hq : ∀ (R : Type) (k : HK R) (H : Heap),binC .eql .no (by8 b) (.i .u8 34) k H = k (.b true) H:=fun R k H=>by rw [h34]; exact i_eql
    subst eG
    rw [call_eq L174]
    unfold B174
    simp (disch:=first | omega | (simp only [List.length_cons,List.length_nil]; omega)) only [EX,reduceIte,Nat.reduceEqDiff,Nat.reduceAdd,Int.reduceEq,Int.reduceLT,Int.reduceLE,reduceCtorEq,Nat.reduceLeDiff,Nat.reduceSub,Nat.reduceLT,x_callv,clv_fn,x_mkfn,List.nil_append,List.append_nil,res_3,res_ct,res_ctt,ixs_0 hb0,s220 _ (Nat.le_add_left 20 _),s221 _ (Nat.le_add_left 20 _),hL,hD,hq,e4,est,eld,with_ap]
   ·obtain ⟨G1,H',cs,n,e,g',h1,h2,h3,e4,est,eld⟩:=core 229 _ (by omega) (s229 hs hL hD h34 (T.grow g))
    refine ⟨H',cs,n,e,g',h1,h2,h3,fun M hM R k=>?_⟩
    obtain ⟨m,rfl⟩ : ∃ m,M = (m + s.length) + 4000:=⟨M - (s.length + 4000),by omega⟩
    have hq : ∀ (R : Type) (k : HK R) (H : Heap),binC .eql .no (by8 b) (.i .u8 34) k H = k (.b false) H:=fun R k H=>by
     unfold by8
     rw [i_eql,decide_eq_false]
     intro e
     exact h34 (UInt8.toNat_inj.mp (by show b.toNat = 34; omega))
    subst eG
    rw [call_eq L174]
    unfold B174
    simp (disch:=first | omega | (simp only [List.length_cons,List.length_nil]; omega)) only [EX,reduceIte,Nat.reduceEqDiff,Nat.reduceAdd,Int.reduceEq,Int.reduceLT,Int.reduceLE,reduceCtorEq,Nat.reduceLeDiff,Nat.reduceSub,Nat.reduceLT,x_callv,clv_fn,x_mkfn,List.nil_append,List.append_nil,res_3,res_ct,res_ctt,ixs_0 hb0,s220 _ (Nat.le_add_left 20 _),s221 _ (Nat.le_add_left 20 _),hL,hD,hq,e4,est,eld,with_ap]
end Go.Proofs.YtgnfndhmfgghdaaGreatDoor

/- How long a word is; words that begin at a place. -/
namespace Go.Proofs.YtgnfndhmfgghdaaGreatDoor
open Go Go.Vai
set_option maxRecDepth 100000
set_option maxHeartbeats 800000
set_option linter.unusedSimpArgs false
theorem hexs_lt : ∀ (n : Nat) (s : List UInt8) (v c : Nat),v < c→(hexs n s v).2 < c * 16 ^ (hexs n s v).1
 | 0,s,v,c,h=>by unfold hexs; simpa using h
 | n + 1,[],v,c,h=>by unfold hexs; simpa using h
 | n + 1,b :: r,v,c,h=>by
  unfold hexs
  cases hb : hexv b with
  | none=>simpa using h
  | some d =>
   have hd : d < 16:=by
    unfold hexv at hb
    repeat' split at hb
    all_goals first | (cases hb; omega) | cases hb
   have:=hexs_lt n r (16 * v + d) (16 * c) (by omega)
   show (hexs n r (16 * v + d)).2 < c * 16 ^ ((hexs n r (16 * v + d)).1 + 1)
   rw [Nat.pow_succ]
   have e : c * (16 ^ (hexs n r (16 * v + d)).1 * 16) = 16 * c * 16 ^ (hexs n r (16 * v + d)).1:=by
    rw [Nat.mul_comm (16 ^ _) 16,← Nat.mul_assoc,Nat.mul_comm c 16]
   rw [e]; exact this
theorem esc_ok {s : List UInt8} {c w : Nat} (h : esc s = .ok (c,w)) : isR c = true∧1≤w∧w≤s.length:=by
 match s,h with
 | b :: r,h =>
  unfold esc at h
  simp only at h
  have hb:=UInt8.toNat_lt b
  by_cases h1 : b = 92 ∨ b = 34
  ·rw [if_pos h1] at h; cases h
   exact ⟨isR_of (by omega),Nat.le_refl _,Nat.succ_le_succ (Nat.zero_le _)⟩
  rw [if_neg h1] at h
  by_cases h2 : b = 110
  ·rw [if_pos h2] at h; cases h
   exact ⟨by decide,Nat.le_refl _,Nat.succ_le_succ (Nat.zero_le _)⟩
  rw [if_neg h2] at h
  by_cases h3 : b = 116
  ·rw [if_pos h3] at h; cases h
   exact ⟨by decide,Nat.le_refl _,Nat.succ_le_succ (Nat.zero_le _)⟩
  rw [if_neg h3] at h
  by_cases h4 : b = 117∧r.head? = some 123
  ·rw [if_pos h4] at h
   by_cases h5 : (hexs 6 (r.drop 1) 0).1 = 0 ∨ (r.drop 1)[(hexs 6 (r.drop 1) 0).1]? ≠ some 125
   ·rw [if_pos h5] at h; cases h
   rw [if_neg h5] at h
   by_cases h6 : isR (hexs 6 (r.drop 1) 0).2 = true
   ·rw [if_pos h6] at h
    have hx : (r.drop 1)[(hexs 6 (r.drop 1) 0).1]? = some 125:=by
     refine Classical.byContradiction fun q=>h5 (.inr q)
    have hl:=(List.getElem?_eq_some_iff.mp hx).1
    cases h
    refine ⟨h6,by omega,?_⟩
    rw [List.length_drop] at hl
    rw [List.length_cons]
    omega
   ·rw [if_neg h6] at h; cases h
  ·rw [if_neg h4] at h; cases h
theorem onR_ok {s : List UInt8} {c w : Nat} (h : onR s = .ok (c,w)) : isR c = true∧1≤w∧w≤s.length:=by
 match s,h with
 | b :: r,h =>
  unfold onR at h
  simp only at h
  by_cases h1 : b.toNat < 32
  ·rw [if_pos h1] at h; cases h
  rw [if_neg h1] at h
  by_cases h2 : b = 92
  ·rw [if_pos h2] at h
   cases he : esc r with
   | error e=>rw [he] at h; cases h
   | ok x =>
    rw [he] at h
    cases h
    obtain ⟨k1,k2,k3⟩:=esc_ok (c:=x.1) (w:=x.2) he
    exact ⟨k1,by omega,by rw [List.length_cons]; omega⟩
  rw [if_neg h2] at h
  cases he : dec1 (b :: r) with
  | none=>rw [he] at h; cases h
  | some x =>
   rw [he] at h
   cases h
   exact dec1_ok he
theorem rdq_ok : ∀ (n : Nat) (s : List UInt8) (l : List Nat) (m : Nat),rdq n s = .ok (l,m)→(∀ c ∈ l,isR c = true)∧1≤m∧m≤s.length
 | 0,s,l,m,h=>by unfold rdq at h; cases h
 | n + 1,s,l,m,h=>by
  unfold rdq at h
  by_cases h1 : s.head? = some 34
  ·rw [if_pos h1] at h; cases h
   match s,h1 with
   | b :: r,_=>exact ⟨fun c hc=>(by cases hc),Nat.le_refl _,Nat.succ_le_succ (Nat.zero_le _)⟩
  rw [if_neg h1] at h
  cases he : onR s with
  | error e=>rw [he] at h; cases h
  | ok x =>
   rw [he] at h
   obtain ⟨k1,k2,k3⟩:=onR_ok (c:=x.1) (w:=x.2) he
   have h : (match rdq n (s.drop x.2) with | .error e=>.error e | .ok (l,m)=>.ok (x.1 :: l,x.2 + m)) = Except.ok (l,m):=h
   cases he2 : rdq n (s.drop x.2) with
   | error e=>rw [he2] at h; cases h
   | ok y =>
    rw [he2] at h
    cases h
    obtain ⟨j1,j2,j3⟩:=rdq_ok n _ y.1 y.2 he2
    rw [List.length_drop] at j3
    refine ⟨fun c hc=>?_,by omega,by omega⟩
    rcases List.mem_cons.mp hc with rfl | hc
    ·exact k1
    ·exact j1 c hc
/-- What is known of a word. -/
def TokOk (t : Tok) : Prop :=
 1≤t.k∧t.k≤4∧(t.k = 1→1≤t.s.length∧t.s.length≤12∧(∀ b ∈ t.s,isLD b = true)∧∃ b r,t.s = b :: r∧isL b = true)∧(t.k = 2→t.n < 9223372036854775808)∧(t.k ≠ 2→t.n = 0)∧(t.k = 3→∃ l : List Nat,t.s = enc l∧l.length≤30∧∀ c ∈ l,isR c = true)∧(t.k = 2→t.s = [])
theorem word_ok {a : Nat} {s : List UInt8} {t : Tok} {w : Nat} (h : word a s = .ok (t,w)) : TokOk t∧1≤w∧w≤s.length∧t.a = a:=by
 match s,h with
 | b :: r,h =>
  unfold word at h
  simp only at h
  by_cases h1 : isL b = true
  ·rw [if_pos h1] at h
   have hle:=cntW_le isLD (b :: r)
   have hpos : 1≤cntW isLD (b :: r):=by
    rw [cntW_cons,if_pos (by unfold isLD; rw [h1]; rfl)]
    exact Nat.succ_le_succ (Nat.zero_le _)
   have h : (if 12 < cntW isLD (b :: r) then Except.error 5 else Except.ok ((⟨1,(b :: r).take (cntW isLD (b :: r)),0,a⟩ : Tok),cntW isLD (b :: r))) = .ok (t,w):=h
   by_cases h2 : 12 < cntW isLD (b :: r)
   ·rw [if_pos h2] at h; cases h
   rw [if_neg h2] at h
   cases h
   have hl : ((b :: r).take (cntW isLD (b :: r))).length = cntW isLD (b :: r):=by rw [List.length_take]; omega
   refine ⟨⟨Nat.le_refl _,(show 1≤4 by decide),fun _=>⟨by rw [hl]; exact hpos,by rw [hl]; omega,cntW_all,?_⟩,(fun q=>by cases q),fun _=>rfl,(fun q=>by cases q),fun q=>by cases q⟩,hpos,hle,rfl⟩
   obtain ⟨n,hn⟩ : ∃ n,cntW isLD (b :: r) = n + 1:=⟨cntW isLD (b :: r) - 1,by omega⟩
   rw [hn]
   exact ⟨b,r.take n,rfl,h1⟩
  rw [if_neg h1] at h
  by_cases h2 : isD b = true
  ·rw [if_pos h2] at h
   have hle:=cntW_le isD (b :: r)
   have hpos : 1≤cntW isD (b :: r):=by
    rw [cntW_cons,if_pos h2]
    exact Nat.succ_le_succ (Nat.zero_le _)
   have h : (match numP ((b :: r).take (cntW isD (b :: r))) with | .error e=>Except.error e | .ok v=>Except.ok ((⟨2,[],v,a⟩ : Tok),cntW isD (b :: r))) = .ok (t,w):=h
   cases hn : numP ((b :: r).take (cntW isD (b :: r))) with
   | error e=>rw [hn] at h; cases h
   | ok v =>
    rw [hn] at h
    cases h
    refine ⟨⟨(show 1≤2 by decide),(show 2≤4 by decide),(fun q=>by cases q),fun _=>?_,(fun q=>absurd rfl q),(fun q=>by cases q),fun _=>rfl⟩,hpos,hle,rfl⟩
    unfold numP at hn
    split at hn
    ·cases hn
    ·split at hn
     ·rename_i q; cases hn; exact q
     ·cases hn
  rw [if_neg h2] at h
  by_cases h3 : b = 34
  ·rw [if_pos h3] at h
   cases hr : rdq (r.length + 1) r with
   | error e=>rw [hr] at h; cases h
   | ok x =>
    rw [hr] at h
    obtain ⟨k1,k2,k3⟩:=rdq_ok _ _ x.1 x.2 hr
    have h : (if 30 < x.1.length then Except.error 5 else Except.ok ((⟨3,enc x.1,0,a⟩ : Tok),x.2 + 1)) = .ok (t,w):=h
    by_cases h4 : 30 < x.1.length
    ·rw [if_pos h4] at h; cases h
    rw [if_neg h4] at h
    cases h
    exact ⟨⟨(show 1≤3 by decide),(show 3≤4 by decide),(fun q=>by cases q),(fun q=>by cases q),fun _=>rfl,fun _=>⟨x.1,rfl,by omega,k1⟩,fun q=>by cases q⟩,by omega,by rw [List.length_cons]; omega,rfl⟩
  rw [if_neg h3] at h
  by_cases h4 : (b :: r).take 2 ∈ sg2
  ·rw [if_pos h4] at h
   cases h
   have hl:=sg2_len _ h4
   rw [List.length_take] at hl
   exact ⟨⟨(show 1≤4 by decide),Nat.le_refl _,(fun q=>by cases q),(fun q=>by cases q),fun _=>rfl,(fun q=>by cases q),fun q=>by cases q⟩,by decide,by omega,rfl⟩
  rw [if_neg h4] at h
  by_cases h5 : b ∈ sg1
  ·rw [if_pos h5] at h
   cases h
   exact ⟨⟨(show 1≤4 by decide),Nat.le_refl _,(fun q=>by cases q),(fun q=>by cases q),fun _=>rfl,(fun q=>by cases q),fun q=>by cases q⟩,Nat.le_refl _,Nat.succ_le_succ (Nat.zero_le _),rfl⟩
  ·rw [if_neg h5] at h; cases h
theorem word_at (a : Nat) (s : List UInt8) : word a s = match word 0 s with | .error e=>.error e | .ok (t,w)=>.ok ({ t with a:=a },w):=by
 match s with
 | []=>rfl
 | b :: r =>
  unfold word
  simp only
  by_cases h1 : isL b = true
  ·rw [if_pos h1,if_pos h1]
   split <;> rfl
  rw [if_neg h1,if_neg h1]
  by_cases h2 : isD b = true
  ·rw [if_pos h2,if_pos h2]
   cases hn : numP ((b :: r).take (cntW isD (b :: r))) <;> rfl
  rw [if_neg h2,if_neg h2]
  by_cases h3 : b = 34
  ·rw [if_pos h3,if_pos h3]
   cases hr : rdq (r.length + 1) r with
   | error e=>rfl
   | ok x =>
    dsimp only
    split <;> rfl
  rw [if_neg h3,if_neg h3]
  by_cases h4 : (b :: r).take 2 ∈ sg2
  ·rw [if_pos h4,if_pos h4]
  rw [if_neg h4,if_neg h4]
  by_cases h5 : b ∈ sg1
  ·rw [if_pos h5,if_pos h5]
  ·rw [if_neg h5,if_neg h5]
end Go.Proofs.YtgnfndhmfgghdaaGreatDoor

/- All words of a text (lex.Tokens),of what its check tells. -/
namespace Go.Proofs.YtgnfndhmfgghdaaGreatDoor
open Go Go.Vai
set_option maxRecDepth 100000
set_option maxHeartbeats 1600000
set_option linter.unusedSimpArgs false
theorem _root_.Go.Vai.Held.len {R : Type} {H0 H H' : Heap} {e sz len : Nat} {x : AV} {l : List AV} {k : HK R} (h : Held H0 H e sz x len l) : lenC false x k H' = k (.i .i64 (len : Int)) H':=by
 obtain ⟨rfl,rfl,rfl⟩ | ⟨a,rfl,_⟩:=h <;> rfl
theorem fill_4 {R : Type} {a b c d z0 z1 z2 z3 : AV} {ps : List (Nat × Nat × AV)} {f : List AV→Option R} : fillV ((0,4,.ag [a,b,c,d]) :: ps) [z0,z1,z2,z3] f = fillV ps [a,b,c,d] f:=rfl
def tcL (l : List Tok) : List AV:=(l.map tcs).flatten
theorem tcL_app {l m : List Tok} : tcL (l ++ m) = tcL l ++ tcL m:=by unfold tcL; rw [List.map_append,List.flatten_append]
theorem tcL_1 {t : Tok} : tcL [t] = tcs t:=by unfold tcL; simp
theorem tcL_len (l : List Tok) : (tcL l).length = l.length * 4:=by
 induction l with
 | nil=>rfl
 | cons t l ih =>
  show (tcs t ++ tcL l).length = _
  rw [List.length_append,ih,List.length_cons]
  show 4 + _ = _
  omega
noncomputable def Lp116 : AC:=(.loop (.seq (.seq (.ops [O 20 (.mv (T 6)),O 21 (.mv (T 0)),O 22 (.len true (T 21)),O 23 (.bin .lss .no (T 20) (T 22))]) (.cond (T 23) .skip (.exit 0))) (.seq (.block 1 (.seq (.ops [O 31 (.mv (T 0)),O 32 (.mv (T 6)),O 33 (.sls (T 31) (some (T 32)) none),O 34 (.call (toPa 174) [(T 33)]),O 30 (.mv (T 34)),O 35 (.ext 0 (T 30)),O 36 (.ext 1 (T 30)),O 37 (.ext 2 (T 30)),O 7 (.new 236 [(.i .i64 0),(str []),(.i .i64 0),(.i .i64 0)]),O_ (.st 4 (T 7) (T 35)),O 8 (.mv (T 36)),O 9 (.mv (T 37))]) (.seq (.seq (.ops [O 38 (.mv (T 9)),O 39 (.bin .neq .no (T 38) (K (.i .i64 0)))]) (.cond (T 39) (.seq (.ops [O 40 (.mv (T 9)),O 2 (.mv (K .ns)),O 3 (.mv (T 40))]) .ret) .skip)) (.seq (.seq (.ops [O 41 (.mv (T 5)),O 42 (.len false (T 41)),O 43 (.bin .geq .no (T 42) (K (.i .i64 200)))]) (.cond (T 43) (.seq (.ops [O 2 (.mv (K .ns)),O 3 (.mv (K (.i .i64 4)))]) .ret) .skip)) (.seq (.ops [O 44 (.mv (T 6)),O 45 (.fa 3 (T 7)),O_ (.st 1 (T 45) (T 44))]) (.seq (.ops [O 46 (.mv (T 5)),O 47 (.ld true 4 (T 7)),O 48 (.bsl 236 4 1 [(.i .i64 0),(str []),(.i .i64 0),(.i .i64 0)] [(0,4,(T 47))]),O 49 (.app 236 4 40 (T 46) (T 48)),O 5 (.mv (T 49))]) (.ops [O 50 (.mv (T 6)),O 51 (.mv (T 8)),O 52 (.bin .add .no (T 50) (T 51)),O 6 (.mv (T 52))]))))))) (.ops [O 24 (.mv (T 6)),O 25 (.mv (T 0)),O 26 (.mv (T 6)),O 27 (.sls (T 25) (some (T 26)) none),O 28 (.call (toPa 173) [(T 27)]),O 29 (.bin .add .no (T 24) (T 28)),O 6 (.mv (T 29))]))))
theorem B116_eq : B116 = (.seq (.ops [O 2 (.mv (K .ns)),O 3 (.mv (K (.i .i64 0)))]) (.seq (.seq (.ops [O 10 (.mv (T 0)),O 11 (.len true (T 10)),O 12 (.bin .gtr .no (T 11) (K (.i .i64 600)))]) (.cond (T 12) (.seq (.ops [O 2 (.mv (K .ns)),O 3 (.mv (K (.i .i64 5)))]) .ret) .skip)) (.seq (.seq (.ops [O 13 (.mv (T 0)),O 14 (.call (toPa 172) [(T 13)]),O 4 (.mv (T 14))]) (.seq (.ops [O 15 (.mv (T 4)),O 16 (.bin .neq .no (T 15) (K (.i .i64 0)))]) (.cond (T 16) (.seq (.ops [O 17 (.mv (T 4)),O 2 (.mv (K .ns)),O 3 (.mv (T 17))]) .ret) .skip))) (.seq (.ops [O 5 (.mv (K .ns))]) (.seq (.seq (.ops [O 18 (.mv (T 0)),O 19 (.call (toPa 173) [(T 18)]),O 6 (.mv (T 19))]) (.block 0 Lp116)) (.seq (.ops [O 53 (.mv (T 5)),O 2 (.mv (T 53)),O 3 (.mv (K (.i .i64 0)))]) .ret)))))):=rfl
structure F116 (s : List UInt8) (x : AV) (a : Nat) (fr : Tr AV) : Prop where
 f0 : V fr 0 = str s
 f5 : V fr 5 = x
 f6 : V fr 6 = .i .i64 (a : Int)
/-- Where the next word begins. -/
def nxA (s : List UInt8) (a w : Nat) : Nat:=a + w + blkS (s.drop (a + w))
theorem tok_go {s : List UInt8} (hs : s.length≤1000) {H0 : Heap} (T : GlS H0)
  (hstr : ∀ (H : Heap) (s' : List UInt8) (b : UInt8),(∃ a,s' = s.drop a)→s'.head? = some b→GlS H→b = 34→isL b = false→isD b = false→TellsW 228 (s'.length + 3000) [str s'] H (word 0 s')) :
  ∀ (n a : Nat) (acc : List Tok) (x : AV) (G : Heap),a≤s.length→(s.drop a).length < n→acc.length≤200→Grow H0 G→Held H0 G 236 4 x acc.length (tcL acc) →
  ∃ G' x',Grow H0 G'∧(∀ l,wordsF n a (s.drop a) acc.length = .ok l→(acc ++ l).length≤200∧Held H0 G' 236 4 x' (acc ++ l).length (tcL (acc ++ l)))∧∀ fr,F116 s x a fr→∀ M,s.length + 5000 + n≤M→∀ (R : Type) (k : XK R) (res : Option R),
   (∀ l,wordsF n a (s.drop a) acc.length = .ok l→∀ fr',V fr' 5 = x'→k (.exit 0) fr' G' = res)→(∀ e,wordsF n a (s.drop a) acc.length = .error e→∀ fr',V fr' 2 = .ns→V fr' 3 = .i .i64 (e : Int)→k .ret fr' G' = res)→runK tbl M R Lp116 fr G k = res
 | 0,a,acc,x,G,ha,hn,h2,g,hh=>absurd hn (Nat.not_lt_zero _)
 | n + 1,a,acc,x,G,ha,hn,h2,g,hh=>by
  have hlen : (s.drop a).length = s.length - a:=List.length_drop
  by_cases hz : a < s.length
  ·obtain ⟨b,hb⟩ : ∃ b,s[a]? = some b:=⟨s[a],List.getElem?_eq_getElem hz⟩
   have hd:=drop_at hb
   have hne : s.drop a ≠ []:=by rw [hd]; exact List.cons_ne_nil _ _
   have hz' : (a : Int) < (s.length : Int):=by omega
   obtain ⟨G1,cs,nn,e,g1,c1,c2,hw,e174⟩:=s174 hd (by omega) (T.grow g) (fun H hG h34 hL hD=>hstr H (s.drop a) b ⟨a,rfl⟩ (by rw [hd]; rfl) hG h34 hL hD)
   obtain ⟨G2,eG2,g2,r2,n2⟩:=tok_new G1
   obtain ⟨G3,g3,r3,n3,est3,_⟩:=tok_st g2 r2 rfl (Nat.le_refl _) n2 c1 c2
   have ew : wordsF (n + 1) a (s.drop a) acc.length = match word a (s.drop a) with
     | .error e=>.error e
     | .ok (t,w)=>if 200≤acc.length then .error 4 else match wordsF n (nxA s a w) (s.drop (nxA s a w)) (acc.length + 1) with | .error e=>.error e | .ok l=>.ok (t :: l):=by
    conv=>lhs; unfold wordsF
    rw [if_neg hne]
    cases hwo : word a (s.drop a) with
    | error e=>rfl
    | ok p =>
     obtain ⟨t,w⟩:=p
     dsimp only
     rw [show blk ((s.drop a).drop w).length ((s.drop a).drop w) = blkS ((s.drop a).drop w) from rfl,List.drop_drop,List.drop_drop]
     show (if 200≤acc.length then _ else (match wordsF n (a + (w + blkS (s.drop (a + w)))) (s.drop (a + w + blkS (s.drop (a + w)))) (acc.length + 1) with | .error e=>_ | .ok l=>_)) = _
     rw [← Nat.add_assoc]; rfl
   rw [word_at] at ew
   cases hwo : word 0 (s.drop a) with
   | error e' =>
    rw [hwo] at ew hw
    obtain ⟨he,he0⟩:=hw
    have ew : wordsF (n + 1) a (s.drop a) acc.length = .error e':=ew
    have hne0 : ¬ (e : Int) = 0:=by omega
    refine ⟨G3,.ns,g.trans (g1.trans g3),fun l hl=>(by rw [ew] at hl; cases hl),fun fr ⟨f0,f5,f6⟩ M hM R k res hx hr=>?_⟩
    obtain ⟨m,rfl⟩ : ∃ m,M = (m + s.length + n) + 5001:=⟨M - (s.length + 5000 + (n + 1)),by omega⟩
    subst eG2
    unfold Lp116
    rw [run_loop]
    simp (disch:=first | omega | (simp only [List.length_cons,List.length_nil]; omega)) only [EX,reduceIte,Nat.reduceEqDiff,Nat.reduceAdd,Int.reduceEq,Int.reduceLT,Int.reduceLE,reduceCtorEq,Nat.reduceLeDiff,Nat.reduceSub,Nat.reduceLT,x_callv,clv_fn,x_mkfn,List.nil_append,List.append_nil,res_3,res_ct,res_ctt,ext_2,f0,f5,f6,hz',sls_f (Nat.le_of_lt hz),e174,est3,hne0]
    refine hr e' ew _ ?_ ?_
    all_goals simp only [V_S,Nat.reduceEqDiff,reduceIte]
    rw [he]
   | ok p =>
    obtain ⟨t,w⟩:=p
    rw [hwo] at ew hw
    obtain ⟨rfl,rfl,rfl⟩:=hw
    obtain ⟨hok,w1,w2,_⟩:=word_ok hwo
    have ew : wordsF (n + 1) a (s.drop a) acc.length = if 200≤acc.length then .error 4 else match wordsF n (nxA s a w) (s.drop (nxA s a w)) (acc.length + 1) with | .error e=>.error e | .ok l=>.ok ({ t with a:=a } :: l):=ew
    have hh3:=hh.grow ((g1.trans g3))
    by_cases h200 : 200≤acc.length
    ·rw [if_pos h200] at ew
     have h200' : (200 : Int)≤(acc.length : Int):=by omega
     refine ⟨G3,.ns,g.trans (g1.trans g3),fun l hl=>(by rw [ew] at hl; cases hl),fun fr ⟨f0,f5,f6⟩ M hM R k res hx hr=>?_⟩
     obtain ⟨m,rfl⟩ : ∃ m,M = (m + s.length + n) + 5001:=⟨M - (s.length + 5000 + (n + 1)),by omega⟩
     subst eG2
     unfold Lp116
     rw [run_loop]
     simp (disch:=first | omega | (simp only [List.length_cons,List.length_nil]; omega)) only [EX,reduceIte,Nat.reduceEqDiff,Nat.reduceAdd,Int.reduceEq,Int.reduceLT,Int.reduceLE,reduceCtorEq,Nat.reduceLeDiff,Nat.reduceSub,Nat.reduceLT,x_callv,clv_fn,x_mkfn,List.nil_append,List.append_nil,res_3,res_ct,res_ctt,ext_2,f0,f5,f6,hz',sls_f (Nat.le_of_lt hz),e174,est3,hh3.len,h200']
     refine hr 4 ew _ ?_ ?_
     all_goals simp only [V_S,Nat.reduceEqDiff,reduceIte]
     rfl
    ·rw [if_neg h200] at ew
     have h200' : ¬ (200 : Int)≤(acc.length : Int):=by omega
     have hq3 : G1.next.toN < G3.next.toN:=by rw [n3]; exact n2
     obtain ⟨G4,r4,b4,n4,est4⟩:=r3.st_one (off:=3) (v:=.i .i64 (a : Int)) hq3 (show 3 < 4 by decide) one_i
     have r4 : Row G4 G1.next 236 (tcs { t with a:=a }):=r4
     have g4 : Grow G G4:=b4.of (g1.trans g3) g1.next
     have ld4:=r4.la 4 rfl
     have g5:=Grow.alloc G4 (.cells false 0 236 4 (setCells (tcs { t with a:=a }) 0 .leaf))
     have n5:=next_alloc G4 (.cells false 0 236 4 (setCells (tcs { t with a:=a }) 0 .leaf))
     have r5 : Row (G4.alloc (.cells false 0 236 4 (setCells (tcs { t with a:=a }) 0 .leaf))) G4.next 236 (tcs { t with a:=a }):=Row.new G4 236 (tcs { t with a:=a })
     obtain ⟨G5,eG5⟩ : ∃ G5,G5 = G4.alloc (.cells false 0 236 4 (setCells (tcs { t with a:=a }) 0 .leaf)):=⟨_,rfl⟩
     rw [← eG5] at g5 n5 r5
     have hh5:=hh.grow (g4.trans g5)
     have room : (200 * 40 : Nat)≤roomN:=by decide
     obtain ⟨G6,g6,n6,hh6,eapp⟩:=hh5.app (bytes:=40) (n:=0) (ys:=tcs { t with a:=a }) (g.trans (g4.trans g5)) (by decide) rfl (tcs_one _) (by omega)
     have hh6 : Held H0 G6 236 4 (.sl G5.next 0 (acc.length + (0 + 1)) none 4) (acc ++ [{ t with a:=a }]).length (tcL (acc ++ [{ t with a:=a }])):=by
      rw [List.length_append,tcL_app,tcL_1]; exact hh6
     have eapp:=fun (R : Type) (k : HK R)=>eapp R k (.sl G4.next 0 1 (some 1) 4) (fun f=>src_all (n:=0 + 1) r5 rfl f)
     have hnx : nxA s a w≤s.length:=by
      unfold nxA
      have:=blkS_le (s.drop (a + w))
      rw [List.length_drop] at this
      omega
     have hge : a + w≤nxA s a w:=by unfold nxA; omega
     obtain ⟨G7,x7,g7,q7,e7⟩:=tok_go hs T hstr n (nxA s a w) (acc ++ [{ t with a:=a }]) _ G6 hnx (by rw [List.length_drop]; omega) (by rw [List.length_append,List.length_singleton]; omega) g6 hh6
     have hl1 : (acc ++ [({ t with a:=a } : Tok)]).length = acc.length + 1:=by rw [List.length_append]; rfl
     rw [hl1] at q7 e7
     refine ⟨G7,x7,g7,fun l hl=>?_,fun fr ⟨f0,f5,f6⟩ M hM R k res hx hr=>?_⟩
     ·rw [ew] at hl
      cases hwf : wordsF n (nxA s a w) (s.drop (nxA s a w)) (acc.length + 1) with
      | error e=>rw [hwf] at hl; cases hl
      | ok l' =>
       rw [hwf] at hl; cases hl
       have:=q7 l' hwf
       rw [List.append_assoc] at this
       exact this
     ·obtain ⟨m,rfl⟩ : ∃ m,M = (m + s.length + n) + 5001:=⟨M - (s.length + 5000 + (n + 1)),by omega⟩
      have e173 : ∀ M,s.length + 400≤M→∀ (R : Type) (k : HK R) (H : Heap),callK tbl (runK tbl M) R (toPa 173) [str (s.drop (a + w))] H k = k (.i .i64 (blkS (s.drop (a + w)) : Int)) H:=fun M hM=>s173 (s:=s.drop (a + w)) (by rw [List.length_drop]; omega) M (by rw [List.length_drop]; omega)
      have ld4 : ∀ (R : Type) (k : HK R),ldC true 4 (.p G1.next 0) k G4 = k (.ag [.i .i64 (t.k : Int),str t.s,.i .i64 (t.n : Int),.i .i64 (a : Int)]) G4:=ld4
      have eG5 : G5 = G4.alloc (.cells false 0 236 4 (setCells [.i .i64 (t.k : Int),str t.s,.i .i64 (t.n : Int),.i .i64 (a : Int)] 0 .leaf)):=eG5
      subst eG2 eG5
      unfold Lp116
      rw [run_loop]
      simp (disch:=first | omega | (simp only [List.length_cons,List.length_nil]; omega)) only [EX,reduceIte,Nat.reduceEqDiff,Nat.reduceAdd,Int.reduceEq,Int.reduceLT,Int.reduceLE,reduceCtorEq,Nat.reduceLeDiff,Nat.reduceSub,Nat.reduceLT,x_callv,clv_fn,x_mkfn,List.nil_append,List.append_nil,res_3,res_ct,res_ctt,ext_2,f0,f5,f6,hz',sls_f (Nat.le_of_lt hz),e174,est3,hh3.len,h200',est4,ld4,fill_4,eapp,i_add,add64 (show a + w < 9223372036854775808 by omega),sls_f (show a + w≤s.length by omega),e173,add64 (show a + w + blkS (s.drop (a + w)) < 9223372036854775808 by unfold nxA at hnx; omega)]
      refine e7 _ ⟨?_,?_,?_⟩ _ (by omega) R k res ?_ ?_
      ·simp only [V_S,Nat.reduceEqDiff,reduceIte]; exact f0
      ·simp only [V_S,Nat.reduceEqDiff,reduceIte]
      ·simp only [V_S,Nat.reduceEqDiff,reduceIte]; rfl
      ·intro l hl
       exact hx ({ t with a:=a } :: l) (by rw [ew,hl])
      ·intro e he
       exact hr e (by rw [ew,he])
  ·have hnil : s.drop a = []:=List.drop_of_length_le (by omega)
   have ew : wordsF (n + 1) a (s.drop a) acc.length = .ok []:=by
    rw [hnil]; rfl
   have hz' : ¬ (a : Int) < (s.length : Int):=by omega
   refine ⟨G,x,g,fun l hl=>?_,fun fr ⟨f0,f5,f6⟩ M hM R k res hx hr=>?_⟩
   ·rw [ew] at hl; cases hl
    rw [List.append_nil]
    exact ⟨h2,hh⟩
   ·obtain ⟨m,rfl⟩ : ∃ m,M = (m + s.length + n) + 5001:=⟨M - (s.length + 5000 + (n + 1)),by omega⟩
    unfold Lp116
    rw [run_loop]
    simp only [EX,reduceIte,Nat.reduceEqDiff,Nat.reduceAdd,Int.reduceEq,Int.reduceLT,Int.reduceLE,reduceCtorEq,Nat.reduceLeDiff,Nat.reduceSub,Nat.reduceLT,x_callv,clv_fn,x_mkfn,List.nil_append,List.append_nil,res_3,res_ct,res_ctt,f0,f5,f6,hz']
    refine hx [] ew _ ?_
    simp only [V_S,Nat.reduceEqDiff,reduceIte]
    exact f5
end Go.Proofs.YtgnfndhmfgghdaaGreatDoor
