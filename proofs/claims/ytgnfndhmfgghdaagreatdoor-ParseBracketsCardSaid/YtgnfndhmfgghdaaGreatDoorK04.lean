/- A verified interpreter of the model's code, and what the functions that read expressions tell by it: part 4 (VaiU, VaiV, VaiW, VaiX, VaiY, VaiZ, Vaia, Vaib, Vaic, Vaid). No condition but those that each statement bears. -/
import Derived.Test.YtgnfndhmfgghdaaGreatDoorK03
import Derived.Below
import Derived.Orders
import Derived.RangeFuncRecord
import Derived.RangeFuncSeq
set_option linter.unusedVariables false
set_option linter.unusedSimpArgs false
set_option linter.unusedSectionVars false
set_option linter.constructorNameAsVariable false
set_option linter.unnecessarySimpa false
/- VAI,part U: code,calls,and the whole. -/
namespace Go.Vai
section
variable {R : Type} {P : Program} {pr : Pr} {n : Nat} {ι : Emb} {H : Heap} {fr : Tr AV} {a : Act} {w : World}
variable {r : R} {call : CallK R}
section
variable {ng : Nat}
/-- Memory that has grown alone. -/
theorem Rel.below {h h' : Array Obj} (R : Rel pr ng ι H h) (hs : h.size≤h'.size) (hk : ∀ b,b < h.size→h'[b]? = h[b]?) : Rel pr ng ι H h' :=
 ⟨R.fresh,R.freshH,fun a=>(R.dom a).mono (Ext.refl ι) (fun _ e=>e) fun _ hj=>hk _ (R.lt _ _ hj),R.sep,fun a _ hj=>Nat.lt_of_lt_of_le (R.lt a _ hj) hs,fun b hb=>Nat.lt_of_lt_of_le (R.prot b hb) hs,R.glob,R.resv⟩
end
def exitOf : Ex→Exit
 | .norm=>.normal
 | .exit id=>.exit id
 | .ret=>.ret
/-- The machine's steps,in a frame that is a round's of a range over a function,or in one that is none's. -/
def fen (ro : Option Nat) : Fence:={ Fence.wide with round:=ro }
theorem room_fen (ro : Option Nat) (n : Nat) : (fen ro).room n:=room_wide n
theorem callsIn_fen {ro : Option Nat} {m f : Nat} {args : Array Value} {w : World} {E : Ending→World→Prop} : CallsIn (fen ro) m P f args w E ↔ Calls P f args w E:=by
 show CallsIn Fence.wide m P f args w E ↔ _
 exact callsIn_wide
theorem rowsIn_fen {ro : Option Nat} {m : Nat} {row : String} {args : Array Value} {w : World} {E : Value→World→Prop} (h : Rows P row args w E) : RowsIn (fen ro) m P row args w E :=
 fun c cs _=>let ⟨v,w',r,s⟩:=h c cs; ⟨v,w',r,stepsIn_wide.2 s⟩
theorem op_in {ro : Option Nat} {m : Nat} {o : Oper} (hnd : ∀ c,o.op ≠ .defer c) {a : Act} {w : World} {K : Act→World→Prop} {Q : Exit→Act→World→Prop} (h : o.wp P a w K Q) : o.wpIn (fen ro) m P a w K Q:=by
 refine ⟨fun _ _=>trivial,?_⟩
 rw [Oper.semAt_eq _ _ _ hnd]
 unfold Oper.wp at h
 revert h
 generalize (execOp a.eval o).run P w = x
 intro h
 cases x with
 | ok nx w' =>
  cases nx with
  | value v=>exact h
  | skip=>exact h
  | defer d=>exact h
  | enter f args=>exact ⟨(fun q=>by simp [fen,Fence.wide] at q),callsIn_fen.2 h⟩
  | row rw args=>exact ⟨(fun q=>by simp [fen,Fence.wide] at q),rowsIn_fen h⟩
  | _=>exact h.elim
 | halt y w'=>cases y <;> first | exact h | exact h.elim
theorem notDefer_op {o : Oper} (h : notDefer o = true) : ∀ c,o.op ≠ .defer c:=by
 intro c e
 unfold notDefer at h
 rw [e] at h
 cases h
theorem wpOps_in {ro : Option Nat} {m : Nat} {ops : Array Oper} (hnd : ops.toList.all notDefer = true) {Q : Exit→Act→World→Prop} (hlo : ¬ LetsOut Q) : ∀ (l : List Nat) (a : Act) (w : World),wpOps P ops Q l a w→wpOpsIn (fen ro) m P ops Q l a w
 | [],a,w,h=>h
 | i :: l,a,w,h=>by
  unfold wpOps at h
  unfold wpOpsIn
  cases ho : ops[i]? with
  | none=>rw [ho] at h; exact wpOps_in hnd hlo l a w h
  | some o =>
   rw [ho] at h
   have h : (if Region.wanted o (yielded ops a.tmps) then o.wp P a w (wpOps P ops Q l) Q ∨ (o.asks P a w∧LetsOut Q) else wpOps P ops Q l (a.put o.dst undef) w):=h
   show (if Region.wanted o (yielded ops a.tmps) then _ else _)
   have hd : notDefer o = true:=List.all_eq_true.mp hnd o (by
    obtain ⟨hi,e⟩:=Array.getElem?_eq_some_iff.mp ho
    rw [← e]; exact Array.getElem_mem_toList hi)
   cases hw : Region.wanted o (yielded ops a.tmps) with
   | true =>
    rw [hw,if_pos rfl] at h
    rw [if_pos rfl]
    rcases h with h | ⟨_,h⟩
    ·exact op_in (notDefer_op hd) (Oper.wp_mono (fun a w=>wpOps_in hnd hlo l a w) h)
    ·exact absurd h hlo
   | false =>
    rw [hw,if_neg (by simp)] at h
    rw [if_neg (by simp)]
    exact ⟨fun _ _=>trivial,wpOps_in hnd hlo l _ w h⟩
/-- Within a loop,a round done. -/
def InLoop (P : Program) (ro : Option Nat) (m : Nat) (c : Code) (Q : Exit→Act→World→Prop) (a : Act) (w : World) : Prop :=
 ∀ (b : Frame) (k : List Item) (cs : List Frame),b.roundOf = ro→∃ e a' w',Q e a' w'∧ArrivesIn (Machine.fenced P (fen ro)) P (lone (b.atR a (.inLoop c :: k)) cs w) b k cs e a' w'
theorem loop_round {ro : Option Nat} {m : Nat} {c : Code} {Q : Exit→Act→World→Prop} (h : c.wpIn (fen ro) m P (Exit.then (InLoop P ro m c Q) Q) a w) (b : Frame) (k : List Item) (cs : List Frame) (hro : b.roundOf = ro) :
  ∃ e a' w',Q e a' w'∧ArrivesIn (Machine.fenced P (fen ro)) P (lone (b.atR a (.code c :: .inLoop c :: k)) cs w) b k cs e a' w':=by
 obtain ⟨e,a₁,w₁,hq,harr⟩:=h b (.inLoop c :: k) cs hro trivial (room_fen _ _)
 cases e with
 | normal =>
  obtain ⟨e₂,a₂,w₂,hq₂,harr₂⟩:=hq b k cs hro
  exact ⟨e₂,a₂,w₂,hq₂,.of_steps harr harr₂⟩
 | exit id=>exact ⟨_,a₁,w₁,hq,.pass (x:=.inLoop c) rfl (fun _ _=>.inl (by simp)) harr⟩
 | goto l=>exact ⟨_,a₁,w₁,hq,.pass (x:=.inLoop c) rfl (fun _ _=>.inl (by simp)) harr⟩
 | ret=>exact ⟨_,a₁,w₁,hq,.pass (x:=.inLoop c) rfl (fun _ _=>.inl (by simp)) harr⟩
 | panic ch=>exact ⟨_,a₁,w₁,hq,.pass (x:=.inLoop c) rfl (fun _ _=>.inl (by simp)) harr⟩
 | outgrown=>exact ⟨_,a₁,w₁,hq,.pass (x:=.inLoop c) rfl (fun _ _=>.inl (by simp)) harr⟩
theorem inLoop_of {ro : Option Nat} {m : Nat} {c : Code} {Q : Exit→Act→World→Prop} (h : c.wpIn (fen ro) m P (Exit.then (InLoop P ro m c Q) Q) a w) : InLoop P ro m c Q a w:=by
 intro b k cs hro
 obtain ⟨e,a',w',hq,harr⟩:=loop_round h b k cs hro
 exact ⟨e,a',w',hq,.of_steps (.one (fenced_calm (n:=m) trivial (room_fen _ _) rfl) stepR_inLoop) harr⟩
theorem loop_of {ro : Option Nat} {m : Nat} {c : Code} {Q : Exit→Act→World→Prop} (h : c.wpIn (fen ro) m P (Exit.then (InLoop P ro m c Q) Q) a w) : (Code.loop c).wpIn (fen ro) m P Q a w:=by
 intro b k cs hro _ _
 obtain ⟨e,a',w',hq,harr⟩:=loop_round h b k cs hro
 exact ⟨e,a',w',hq,.of_steps (.one (fenced_calm (n:=m) trivial (room_fen _ _) rfl) stepR_loop) harr⟩
/-- What is deferred: blocks for the rounds' deferred calls,with none in them. -/
def Coll (pr : Pr) (w : World) : Prop:=(∀ d ∈ pr.ds,∃ D,d = { target:=.collected D,args:=#[] }∧pr D∧w.heap[D]? = some (.deferred (some [])))∧pr.ds.Pairwise (· ≠ ·)
theorem Coll.keep {pr : Pr} {w w' : World} (h : Coll pr w) (f : Fr pr w w') : Coll pr w' :=
 ⟨fun d hd=>let ⟨D,h1,h2,h3⟩:=h.1 d hd; ⟨D,h1,h2,by rw [f.keep D h2,h3]⟩,h.2⟩
/-- More is left alone,more is deferred. -/
structure More (pr pr' : Pr) (w' : World) : Prop where
 le : ∀ b,pr b→pr' b
 hard : ∀ b,pr.hard b→pr'.hard b
 res : ∀ a,pr.res a→pr'.res a
 new : ∀ d ∈ pr'.ds,d ∈ pr.ds ∨ ∃ D,d = { target:=.collected D,args:=#[] }∧¬ pr D
 coll : Coll pr' w'
theorem More.same {pr : Pr} {w w' : World} (h : Coll pr w) (f : Fr pr w w') : More pr pr w':=⟨fun _ h=>h,fun _ h=>h,fun _ h=>h,fun _ h=>.inl h,h.keep f⟩
theorem More.trans {pr pr' pr'' : Pr} {w' w'' : World} (h : More pr pr' w') (h' : More pr' pr'' w'') : More pr pr'' w'' :=
 ⟨fun b hb=>h'.le b (h.le b hb),fun b hb=>h'.hard b (h.hard b hb),fun b hb=>h'.res b (h.res b hb),fun d hd=>by
  rcases h'.new d hd with q | ⟨D,e,q⟩
  ·exact h.new d q
  ·exact .inr ⟨D,e,fun x=>q (h.le D x)⟩,h'.coll⟩
theorem More.frm {pr pr' : Pr} {w0 w w' : World} (h : More pr pr' w0) (f : Fr pr' w w') : Fr pr w w':=⟨f.os,f.tape,f.output,f.size,fun b hb=>f.keep b (h.le b hb)⟩
/-- What a run of code is worth. -/
structure RunOK (P : Program) (run : Run1) : Prop where
 bad : ∀ R fr H k,run R .bad fr H k = none
 ok : ∀ (ro : Option Nat) (m : Nat) (R : Type) (pr : Pr) (n : Nat) (cd : Code) (ac : AC),compC P n cd = some ac→(ro.isSome = true→noRF cd = true)→∀ (ι : Emb) (H : Heap) (fr : Tr AV) (a : Act) (w : World) (k : XK R) (r : R),At P pr n ι H fr a w→Coll pr w→run R ac fr H k = some r →
  ∀ Q : Exit→Act→World→Prop,(∀ e fr' H' ι' a' w' pr',k e fr' H' = some r→Ext ι ι'→At P pr' n ι' H' fr' a' w'→Fr pr w w'→More pr pr' w'→Q (exitOf e) a' w') →
   cd.wpIn (fen ro) m P Q a w∧∀ c,cd = .loop c→InLoop P ro m c Q a w
/-- What calls are worth. -/
def CallsOK (P : Program) (call : Call1) : Prop:=∀ (R : Type) (pr : Pr),CallOK P pr (call R)
def dfl : AF:=.mk .bad []
/-- A function that is known by a contract: what it tells of its arguments alone; it leaves all that was there. -/
def PrimOK (P : Program) (f : Nat) (g : List AV→Option AV) : Prop :=
 (∃ fn c,P.funcs[f]? = some fn∧fn.body = some c∧fn.name ≠ "runtime.NumGoroutine") ∧
 ∀ (ι : Emb) (args : List AV) (args' : Array Value) (w : World) (v : AV),P.globals.size≤w.heap.size→VRs ι args args'.toList→g args = some v →
  Calls P f args' w fun e w'=>∃ v',e = .returned v'∧VR ι v v'∧Go.RowKit.Below w.heap.size w w'
/-- What a slice's length is,as it is captured. -/
def lenIs (s : Value) (n : Nat) : Prop:=(s = .slice none 0 0∧n = 0) ∨ ∃ sa cap,s = .slice (some sa) n cap
/-- A function that yields the things of the slice that it has captured,with their numbers,the last one first. -/
def IterOK (P : Program) (f z : Nat) (agg : Bool) : Prop :=
 (∃ fn c,P.funcs[f]? = some fn∧fn.body = some c∧fn.name ≠ "runtime.NumGoroutine")∧(agg = true ∨ z = 1) ∧
 ∃ ts te : TypeId,aggOf P ts = some false∧szOf P ts = some 1∧aggOf P te = some agg∧szOf P te = some z ∧
  ∀ (l : Nat) (ad : Addr) (n : Nat) (J : Nat→World→Prop) (w : World) (s0 : Value),(loadVar ts ad).run P w = .ok s0 w→lenIs s0 n→n < 1152921504606846976 →
   (∀ i W,i < n→J (i + 1) W→∃ sa len cap v,(loadVar ts ad).run P W = .ok (.slice (some sa) len cap) W∧i < len∧(loadVar te (sa.add (i * z))).run P W = .ok v W ∧
    ∀ m,YieldAt Fence.wide m P l #[.int .i64 (i : Int),v] W fun e W'=>e = .returned (.bool true)∧J i W') →
   J n w→CallsIn Fence.wide 0 P f (#[.func (.yield l) #[] #[]] ++ #[.pointer (some ad)]) w fun e W'=>(∃ v,e = .returned v)∧J 0 W'
/-- A table of functions. -/
def TblOK (P : Program) (Φ : Tr AF) : Prop:=∀ f : Nat,Tr.get dfl Φ (toPa f) = dfl ∨ (∃ fn,P.funcs[f]? = some fn∧compF P fn = some (Tr.get dfl Φ (toPa f))) ∨ (∃ g,Tr.get dfl Φ (toPa f) = .prim g∧PrimOK P f g) ∨ ∃ z agg,Tr.get dfl Φ (toPa f) = .iter z agg∧IterOK P f z agg
/-- A region that draws. -/
def DrawOK (P : Program) : Prop :=
 ∀ (call : Call1),CallsOK P call→∀ (R : Type) (pr : Pr) (n id : Nat) (ops : Array Oper) (l : List AI) (nA : Nat) (xs : List (AI × DI)),ops.toList.mapM (compAI P n ops) = some l→compDraw P ops l = some (.draw nA xs) →
  ∀ (ι : Emb) (H : Heap) (fr : Tr AV) (a : Act) (w : World) (k : Tr AV→Heap→Option R) (r : R),At P pr n ι H fr a w→draw0K call nA xs fr H k = some r →
   ∀ Q : Exit→Act→World→Prop,(∀ fr' H' ι' a' w',k fr' H' = some r→Ext ι ι'→At P pr n ι' H' fr' a' w'→Fr pr w w'→Q .normal a' w')→∀ t',wpOps P ops Q (Region.schedule (P.follows .mixedOrders) ops t') a { w with drawn:=w.drawn + 1 }
theorem argsK_eq : ∀ (l : List AV) (i : Nat) (t : Tr AV) (k : Tr AV→Option R),∃ t',argsK l i t k = k t'∧∀ j,Tr.get un t' (toPa j) = if i≤j∧j < i + l.length then (l[j - i]?).getD un else Tr.get un t (toPa j)
 | [],i,t,k=>⟨t,rfl,fun j=>by rw [if_neg (by simp only [List.length_nil]; omega)]⟩
 | v :: l,i,t,k=>by
  have e : argsK (v :: l) i t k = setK un v (toPa i) t (fun t=>forceN (Nat.succ i) fun i=>argsK l i t k):=rfl
  rw [e,setK_eq,forceN_eq]
  obtain ⟨t',h1,h2⟩:=argsK_eq l (Nat.succ i) (Tr.set un v t (toPa i)) k
  refine ⟨t',h1,fun j=>?_⟩
  rw [h2,Tr.get_set]
  by_cases h : j = i
  ·subst h
   rw [if_neg (by omega),if_pos rfl,if_pos ⟨by omega,by simp⟩]
   simp
  ·have hne : ¬ toPa i = toPa j:=fun e=>h (toPa_inj e).symm
   by_cases g : Nat.succ i≤j∧j < Nat.succ i + l.length
   ·rw [if_pos g,if_pos ⟨by omega,by simp; omega⟩]
    have : j - i = (j - (Nat.succ i)) + 1:=by omega
    rw [this]; simp
   ·rw [if_neg g,if_neg hne,if_neg (by simp; omega)]
theorem leaf_get (p : Pa) : Tr.get un (.leaf : Tr AV) p = un:=Tr.get_leaf un p
/-- The frame that a call begins with. -/
theorem args_ok {args : List AV} {args' : Array Value} (hv : VRs ι args args'.toList) {t' : Tr AV} (h : ∀ j,Tr.get un t' (toPa j) = if 0≤j∧j < 0 + args.length then (args[j - 0]?).getD un else Tr.get un (.leaf : Tr AV) (toPa j)) (m : Nat) :
  FR ι t' { tmps:=args' ++ Array.replicate m undef,defers:=[] }:=by
 intro t
 have hl:=VRs_length hv
 have hsz : args'.size = args.length:=by simpa using hl
 rw [h]
 show VR ι _ ((args' ++ Array.replicate m undef).getD t undef)
 rw [Array.getD_eq_getD_getElem?]
 by_cases g : t < args.length
 ·rw [if_pos ⟨by omega,by omega⟩,Nat.sub_zero]
  have hx : args[t]? = some args[t]:=List.getElem?_eq_getElem g
  obtain ⟨y,hy,hvy⟩:=VRs_get hv t _ hx
  rw [Array.getElem?_append_left (by omega),← Array.getElem?_toList,hy,hx]
  exact hvy
 ·rw [if_neg (by omega),leaf_get]
  rw [Array.getElem?_append_right (by omega),Array.getElem?_replicate]
  split <;> exact un_undef ι
theorem res_ok (C : Ctx P pr ι H fr a w) : ∀ (rs : List ResultVar) (l : List ARes) (f : List AV→Option R) (r : R),rs.mapM (compRes P) = some l→resK l fr H f = some r →
  ∃ avs vs,f avs = some r∧VRs ι avs vs∧(rs.mapM (fun x=>(match x with | .tmp t=>pure (a.tmps.getD t undef) | .cell p t=>do loadVar t (← asAddr (a.tmps.getD p undef)) : Sem Value))).run P w = .ok vs w
 | [],l,f,r,hl,h=>by
  rw [mapM_nil_some hl] at h
  exact ⟨[],[],h,rfl,rfl⟩
 | x :: rs,l,f,r,hl,h=>by
  obtain ⟨y,ys,h1,h2,e⟩:=mapM_some_cons hl
  subst e
  rw [List.mapM_cons]
  cases x with
  | tmp t =>
   cases h1
   have h : getK un (toPa t) fr (fun v=>resK ys fr H fun vs=>f (v :: vs)) = some r:=h
   rw [getK_eq] at h
   obtain ⟨avs,vs,h3,h4,h5⟩:=res_ok C rs ys _ r h2 h
   exact ⟨_,_,h3,⟨_,_,rfl,C.fr t,h4⟩,by simp only [Sem.run_bind,Sem.run_pure,Result.andThen_ok,h5]⟩
  | cell p t =>
   unfold compRes at h1
   obtain ⟨g,hg,h1⟩:=bind_some h1
   obtain ⟨m,hm,h1⟩:=bind_some h1
   obtain ⟨hgm,e⟩:=ite_none h1
   subst e
   have h : getK un (toPa p) fr (fun v=>resCell g m v H fun v=>resK ys fr H fun vs=>f (v :: vs)) = some r:=h
   rw [getK_eq] at h
   unfold resCell at h
   have hv:=C.fr p
   rcases vP_some h with ⟨_,h3⟩ | ⟨pa,off,e,h3⟩
   ·cases h3
   ·rw [e] at hv
    obtain ⟨j,hj,hve⟩:=hv
    obtain ⟨v,h4,j',v',hj',hvr,hrun⟩:=loadK_ok C hg hm (by simpa using hgm) h3
    rw [hj] at hj'; cases hj'
    obtain ⟨avs,vs,h5,h6,h7⟩:=res_ok C rs ys _ r h2 h4
    refine ⟨_,_,h5,⟨_,_,rfl,hvr,h6⟩,?_⟩
    have hve : a.tmps.getD p undef = .pointer (some ⟨j.blk,j.d + off,none⟩):=hve
    have q1 : (do loadVar t (← asAddr (a.tmps.getD p undef)) : Sem Value).run P w = .ok v' w:=by
     rw [hve]
     simp only [asAddr,Sem.run_bind,Sem.run_pure,Result.andThen_ok,hrun]
    rw [Sem.run_bind]
    show ((do loadVar t (← asAddr (a.tmps.getD p undef)) : Sem Value).run P w).andThen _ = _
    rw [q1,Result.andThen_ok,Sem.run_bind,h7]
    rfl
theorem run_array_mapM {α β : Type} {f : α→Sem β} {l : Array α} {vs : List β} (h : (l.toList.mapM f).run P w = .ok vs w) : (l.mapM f).run P w = .ok vs.toArray w:=by
 rw [Array.mapM_eq_mapM_toList,Sem.run_map,h]
 rfl
theorem results_ok (C : Ctx P pr ι H fr a w) {fn : Func} {l : List ARes} {k : HK R} (hl : fn.results.toList.mapM (compRes P) = some l) (h : resK l fr H (fun l=>oneRes l H k) = some r) :
  ∃ v v',k v H = some r∧VR ι v v'∧(results fn a.tmps).run P w = .ok v' w:=by
 obtain ⟨avs,vs,h1,h2,h3⟩:=res_ok C _ _ _ _ hl h
 have h4:=run_array_mapM h3
 have hrun : ∀ v',(if h : vs.toArray.size = 1 then vs.toArray[0] else .tuple vs.toArray) = v'→(results fn a.tmps).run P w = .ok v' w:=by
  intro v' hv'
  unfold results
  rw [Sem.run_bind]
  refine (congrArg (fun q=>Result.andThen q _) h4).trans ?_
  simp only [Result.andThen_ok,Sem.run_pure,hv']
 cases avs with
 | nil =>
  cases h2
  exact ⟨_,_,h1,un_undef ι,hrun _ rfl⟩
 | cons x avs =>
  obtain ⟨y,ys,e,hy,hys⟩:=h2
  subst e
  cases avs with
  | nil=>cases hys; exact ⟨_,_,h1,hy,hrun _ rfl⟩
  | cons x2 avs =>
   obtain ⟨y2,ys2,e,hy2,hys2⟩:=hys
   subst e
   exact ⟨.tu _,.tuple _,h1,⟨_,rfl,_,_,rfl,hy,_,_,rfl,hy2,hys2⟩,hrun _ (by rw [dif_neg (by simp)])⟩
theorem compF_some {fn : Func} {af : AF} (h : compF P fn = some af) : fn.name ≠ "runtime.NumGoroutine"∧∃ c ac l,fn.body = some c∧compC P fn.ntmps c = some ac∧fn.results.toList.mapM (compRes P) = some l∧af = .mk ac l:=by
 unfold compF at h
 obtain ⟨h0,h1⟩:=ite_none'' h
 obtain ⟨c,hc,h2⟩:=bind_some h1
 obtain ⟨ac,hac,h3⟩:=bind_some h2
 obtain ⟨l,hl,e⟩:=map_some h3
 exact ⟨h0,c,ac,l,hc,hac,hl,e.symm⟩
/-- Less is left alone. -/
theorem Rel.less {pr' : Pr} {ng : Nat} {h : Array Obj} (R : Rel pr' ng ι H h) (hp : ∀ b,pr b→pr' b) (hh : ∀ b,pr.hard b→pr'.hard b) (hr : ∀ a,pr.res a→pr'.res a) : Rel pr ng ι H h:=by
 refine ⟨R.fresh,R.freshH,fun a=>?_,R.sep,R.lt,fun b hb=>R.prot b (hp b hb),R.glob,fun a ha=>R.resv a (hr a ha)⟩
 have:=R.dom a
 cases hb : H.get a with
 | dead=>trivial
 | cells ro fz e size c =>
  rw [hb] at this
  obtain ⟨j,h1,⟨h2,cs,e',f,h3,h4,h5,h6,h7,h8⟩,h9⟩:=this
  exact ⟨j,h1,⟨h2,cs,e',f,h3,h4,h5,h6,h7,fun e=>⟨fun q=>(h8 e).1 (hp _ q),(h8 e).2⟩⟩,fun q=>h9 (hh _ q)⟩
 | iter len n pos =>
  rw [hb] at this
  obtain ⟨j,h1,h2,h3,h4⟩:=this
  exact ⟨j,h1,h2,fun q=>h3 (hp _ q),h4⟩
/-- More is left alone: what is no cells. -/
theorem Rel.guard {pr' : Pr} {ng : Nat} {h : Array Obj} (R : Rel pr ng ι H h) (hp : ∀ b,pr' b→pr b ∨ ∃ o,h[b]? = some o∧(∀ cs e f,o ≠ .cells cs e f)∧∀ s p,o ≠ .stringIter s p) (hh : ∀ b,pr'.hard b→pr.hard b) (hr : ∀ a,pr'.res a→pr.res a) : Rel pr' ng ι H h:=by
 refine ⟨R.fresh,R.freshH,fun a=>?_,R.sep,R.lt,fun b hb=>?_,R.glob,fun a ha=>R.resv a (hr a ha)⟩
 ·have:=R.dom a
  cases hb : H.get a with
  | dead=>trivial
  | cells ro fz e size c =>
   rw [hb] at this
   obtain ⟨j,h1,⟨h2,cs,e',f,h3,h4,h5,h6,h7,h8⟩,h9⟩:=this
   refine ⟨j,h1,⟨h2,cs,e',f,h3,h4,h5,h6,h7,fun e=>⟨fun q=>?_,(h8 e).2⟩⟩,fun q=>h9 (hh _ q)⟩
   rcases hp _ q with q | ⟨o,q1,q2,_⟩
   ·exact (h8 e).1 q
   ·rw [h3] at q1; exact q2 _ _ _ (Option.some.inj q1).symm
  | iter len n pos =>
   rw [hb] at this
   obtain ⟨j,h1,h2,h3,s,h4,h5⟩:=this
   refine ⟨j,h1,h2,fun q=>?_,s,h4,h5⟩
   rcases hp _ q with q | ⟨o,q1,_,q2⟩
   ·exact h3 q
   ·rw [h4] at q1; exact q2 _ _ (Option.some.inj q1).symm
 ·rcases hp b hb with q | ⟨o,q1,_⟩
  ·exact R.prot b q
  ·exact (Array.getElem?_eq_some_iff.mp q1).1
theorem Rel.ds {ng : Nat} {h : Array Obj} (R : Rel pr ng ι H h) : Rel ⟨pr.soft,pr.hard,pr.res,[]⟩ ng ι H h:=⟨R.fresh,R.freshH,R.dom,R.sep,R.lt,R.prot,R.glob,R.resv⟩
/-- A block that is no cells is turned. -/
theorem Rel.obj {ng : Nat} {h : Array Obj} (R : Rel pr ng ι H h) {D : Nat} {o o' : Obj} (ho : h[D]? = some o) (h1 : ∀ cs e f,o ≠ .cells cs e f) (h2 : ∀ s p,o ≠ .stringIter s p) : Rel pr ng ι H (h.setIfInBounds D o'):=by
 refine ⟨R.fresh,R.freshH,fun a=>?_,R.sep,fun a j hj=>by rw [Array.size_setIfInBounds]; exact R.lt a j hj,fun b hb=>by rw [Array.size_setIfInBounds]; exact R.prot b hb,R.glob,R.resv⟩
 have hd:=R.dom a
 cases hb : H.get a with
 | dead=>trivial
 | cells ro fz e size c =>
  rw [hb] at hd
  have hd0:=hd
  obtain ⟨j,hj,⟨_,cs,e',f,q,_⟩,_⟩:=hd0
  refine hd.mono (Ext.refl _) (fun _ e=>e) fun k hk=>?_
  rw [hj] at hk; cases hk
  rw [Array.getElem?_setIfInBounds,if_neg]
  rintro rfl
  rw [q] at ho
  exact h1 _ _ _ (Option.some.inj ho).symm
 | iter len n pos =>
  rw [hb] at hd
  have hd0:=hd
  obtain ⟨j,hj,_,_,s,q,_⟩:=hd0
  refine hd.mono (Ext.refl _) (fun _ e=>e) fun k hk=>?_
  rw [hj] at hk; cases hk
  rw [Array.getElem?_setIfInBounds,if_neg]
  rintro rfl
  rw [q] at ho
  exact h2 _ _ (Option.some.inj ho).symm
/-- What is to be done as a function is left. -/
theorem leaves_ok {fn : Func} {l : List ARes} {k : HK R} {r : R} {ι0 : Emb} {w0 : World} {pr0 : Pr} (hl : fn.results.toList.mapM (compRes P) = some l) (h : resK l fr H (fun l=>oneRes l H k) = some r) (hext : Ext ι0 ι) (hfr : FR ι fr a) :
  ∀ (ds : List Deferred) (w : World),Rel pr0 P.globals.size ι H w.heap→(∀ d ∈ ds,∃ D,d = { target:=.collected D,args:=#[] }∧w.heap[D]? = some (.deferred (some []))∧¬ pr0 D)→ds.Pairwise (· ≠ ·)→Fr pr0 w0 w →
   LeavesInM Fence.wide 0 P fn a.tmps (fun e w'=>∃ v H' v' ι',k v H' = some r∧e = .returned v'∧Ext ι0 ι'∧Rel pr0 P.globals.size ι' H' w'.heap∧Fr pr0 w0 w'∧VR ι' v v') ds .returning w
 | [],w,hr,_,_,hf=>by
  obtain ⟨v,v',h5,h6,h7⟩:=results_ok (w:=w) ⟨hr,hfr⟩ hl h
  exact ⟨v',h7,v,H,v',ι,h5,rfl,hext,hr,hf,h6⟩
 | d :: ds,w,hr,hd,hp,hf=>by
  obtain ⟨D,e,hD,hn⟩:=hd d (List.mem_cons_self ..)
  rw [List.pairwise_cons] at hp
  refine ⟨by simp,.inl ⟨D,w.putObj D (.deferred none),by rw [e],run_takeDeferred hD,leaves_ok hl h hext hfr ds _ (hr.obj hD (by intro _ _ _ q; cases q) (by intro _ _ q; cases q)) (fun d' hd'=>?_) hp.2 ?_⟩⟩
  ·obtain ⟨D',e',hD',hn'⟩:=hd d' (List.mem_cons_of_mem _ hd')
   refine ⟨D',e',?_,hn'⟩
   rw [World.putObj_heap_other]
   ·exact hD'
   ·rintro rfl
    exact hp.1 d' hd' (e.trans e'.symm)
  ·exact ⟨hf.os,hf.tape,hf.output,by rw [World.putObj_size]; exact hf.size,fun b hb=>by rw [World.putObj_heap_other (fun q=>hn (by rw [← q]; exact hb))]; exact hf.keep b hb⟩
theorem leaves_mono {fn : Func} {tmps : Array Value} {E E' : Ending→World→Prop} (hE : ∀ e w,E e w→E' e w) : ∀ {ds : List Deferred} {u : FrameMode} {w : World},(∀ d ∈ ds,∃ D,d.target = .collected D)→LeavesInM Fence.wide 0 P fn tmps E ds u w→LeavesInM Fence.wide 0 P fn tmps E' ds u w
 | [],u,w,_,h=>by
  cases u with
  | returning=>obtain ⟨v,h1,h2⟩:=h; exact ⟨v,h1,hE _ _ h2⟩
  | panicking c=>exact hE _ _ h
  | run=>exact h
 | d :: ds,u,w,hd,h=>by
  obtain ⟨h0,h | ⟨_,fv,cap,f,args,h1,_⟩⟩:=h
  ·obtain ⟨r,w',h1,h2,h3⟩:=h
   exact ⟨h0,.inl ⟨r,w',h1,h2,leaves_mono hE (fun d hd'=>hd d (List.mem_cons_of_mem _ hd')) h3⟩⟩
  ·obtain ⟨D,q⟩:=hd d (List.mem_cons_self ..)
   rw [h1] at q; cases q
theorem callK_ok {Φ : Tr AF} {run : Run1} (hΦ : TblOK P Φ) (hrun : RunOK P run) : CallsOK P (callK Φ run):=by
 intro R pr f args args' ι H w k r hrel hv h
 unfold callK at h
 rw [getK_eq] at h
 rcases hΦ f with e | ⟨fn,hf,hc⟩ | ⟨g,e,hfn,hg⟩ | ⟨z,agg,e,_⟩
 rotate_right
 ·have e : Tr.get (.mk .bad []) Φ (toPa f) = .iter z agg:=e
  rw [e] at h
  cases h
 rotate_right
 ·have e : Tr.get (.mk .bad []) Φ (toPa f) = .prim g:=e
  rw [e] at h
  replace h : (Option.casesOn (g args) none fun v=>k v H : Option R) = some r:=h
  cases hv1 : g args with
  | none=>rw [hv1] at h; cases h
  | some v =>
   rw [hv1] at h
   have hroom : P.globals.size≤w.heap.size:=by
    rcases Nat.lt_or_ge w.heap.size P.globals.size with q | q
    ·obtain ⟨n',m',e'⟩:=hrel.glob w.heap.size q
     have:=hrel.lt _ _ e'
     exact absurd this (Nat.lt_irrefl _)
    ·exact q
   refine ⟨hfn,(hg ι args args' w v hroom hv hv1).mono ?_⟩
   rintro e w' ⟨v',rfl,hvr,hb⟩
   exact ⟨v,H,v',ι,h,rfl,Ext.refl _,hrel.below hb.size hb.block,⟨hb.os,hb.tape,hb.output,hb.size,fun b hb'=>hb.block b (hrel.prot b hb')⟩,hvr⟩
 ·have e : Tr.get (.mk .bad []) Φ (toPa f) = .mk .bad []:=e
  rw [e] at h
  obtain ⟨t',h1,_⟩:=argsK_eq args 0 .leaf (fun fr=>run R .bad fr H (leaveK [] k))
  have h : argsK args 0 .leaf (fun fr=>run R .bad fr H (leaveK [] k)) = some r:=h
  rw [h1,hrun.bad] at h
  cases h
 ·obtain ⟨hn,c,ac,l,hb,hac,hl,e⟩:=compF_some hc
  have e : Tr.get (.mk .bad []) Φ (toPa f) = .mk ac l:=e
  rw [e] at h
  have h : argsK args 0 .leaf (fun fr=>run R ac fr H (leaveK l k)) = some r:=h
  obtain ⟨t',h1,h2⟩:=argsK_eq args 0 .leaf (fun fr=>run R ac fr H (leaveK l k))
  rw [h1] at h
  obtain ⟨pr0,hpr0⟩ : ∃ pr0 : Pr,pr0 = ⟨pr.soft,pr.hard,pr.res,[]⟩:=⟨_,rfl⟩
  have hrel0 : Rel pr0 P.globals.size ι H w.heap:=by subst hpr0; exact hrel.ds
  have hle : ∀ b,pr b→pr0 b:=by subst hpr0; exact fun b hb=>hb
  have hds : pr0.ds = []:=by subst hpr0; rfl
  refine ⟨⟨fn,c,hf,hb,hn⟩,callsIn_wide.1 (callsIn_of_wp_marks (F:=Fence.wide) (n:=0) hf hb trivial ?_)⟩
  refine (hrun.ok none 0 R pr0 fn.ntmps c ac hac (fun q=>by cases q) ι H t' _ w _ r ⟨⟨hrel0,args_ok hv h2 _⟩,by show fn.ntmps≤(args' ++ Array.replicate (fn.ntmps - args'.size) undef).size; simp; omega,hds.symm⟩ ⟨(fun d hd=>by rw [hds] at hd; cases hd),(by rw [hds]; exact List.Pairwise.nil)⟩ h _ ?_).1
  intro e fr' H' ι' a' w' pr' h3 hext hat hfr hmore
  have leave : resK l fr' H' (fun l=>oneRes l H' k) = some r→LeavesInM Fence.wide 0 P fn a'.tmps (fun e w'=>∃ v H' v' ι',k v H' = some r∧e = .returned v'∧Ext ι ι'∧Rel pr P.globals.size ι' H' w'.heap∧Fr pr w w'∧VR ι' v v') a'.defers .returning w':=by
   intro h4
   rw [hat.nd]
   refine leaves_ok (pr0:=pr) hl h4 hext hat.ctx.fr pr'.ds w' (hat.ctx.rel.less (fun b hb=>hmore.le b (hle b hb)) (fun b hb=>hmore.hard b (by subst hpr0; exact hb)) (fun b hb=>hmore.res b (by subst hpr0; exact hb))) (fun d hd=>?_) hmore.coll.2 ⟨hfr.os,hfr.tape,hfr.output,hfr.size,fun b hb=>hfr.keep b (hle b hb)⟩
   obtain ⟨D,q1,q2,q3⟩:=hmore.coll.1 d hd
   refine ⟨D,q1,q3,fun q=>?_⟩
   rcases hmore.new d hd with g | ⟨D',g1,g2⟩
   ·rw [hds] at g; cases g
   ·rw [q1] at g1
    cases g1
    exact g2 (hle D q)
  cases e with
  | norm=>exact leave h3
  | ret=>exact leave h3
  | exit id=>cases h3
end
end Go.Vai

/- VAI,part V: the run of code,by its fuel. -/
namespace Go.Vai
section
variable {R : Type} {P : Program} {pr : Pr} {Φ : Tr AF}
theorem compDraw_some {P : Program} {ops : Array Oper} {l : List AI} {ac : AC} (h : compDraw P ops l = some ac) : ∃ nA xs,ac = .draw nA xs:=by
 unfold compDraw at h
 split at h
 ·obtain ⟨xs,_,e⟩:=map_some h
  exact ⟨_,_,e.symm⟩
 ·cases h
/-- Where one stands in a round: a value more. -/
theorem FR.set2 {ι : Emb} {fr : Tr AV} {a : Act} (h : FR ι fr a) {p0 p1 n : Nat} (hs : n≤a.tmps.size) (h0 : p0 < n) (h1 : p1 < n) {x y : AV} {x' y' : Value} (hx : VR ι x x') (hy : VR ι y y') {ds : List Deferred} :
  FR ι (Tr.set un y (Tr.set un x fr (toPa p0)) (toPa p1)) { tmps:=(a.tmps.setIfInBounds p0 x').setIfInBounds p1 y',defers:=ds }:=by
 have g1:=h.put (d:=p0) (Nat.lt_of_lt_of_le h0 hs) hx
 exact FR.put (a:=a.put (some p0) x') g1 (d:=p1) (by show p1 < (a.tmps.setIfInBounds p0 x').size; rw [Array.size_setIfInBounds]; exact Nat.lt_of_lt_of_le h1 hs) hy
/-- The blocks that a range over a function lays. -/
def recOf (a : Act) (fn : FuncId) (ps : Array Tmp) (as_ b : Code) (D : Nat) (st : LoopState) (pe : Option Code) : Loop:={ state:=st,pending:=pe,fn:=fn,tmps:=a.tmps,params:=ps,assign:=as_,body:=b,defers:=D }
theorem Coll.obj {pr : Pr} {w : World} {l : Nat} {o o' : Obj} (h : Coll pr w) (ho : w.heap[l]? = some o) (hne : o ≠ .deferred (some [])) : Coll pr (w.putObj l o') :=
 ⟨fun d hd=>by
  obtain ⟨D,h1,h2,h3⟩:=h.1 d hd
  refine ⟨D,h1,h2,?_⟩
  rw [World.putObj_heap_other]
  ·exact h3
  ·rintro rfl
   rw [ho] at h3
   exact hne (Option.some.inj h3),h.2⟩
theorem back_ok (hΦ : TblOK P Φ) {run : Run1} (ih : RunOK P run) {m : Nat} {R : Type} {pr : Pr} {n : Nat} {g : Operand} {g' : Opd} {p0 p1 : Nat} {as_ b : Code} {as' b' : AC} (h0 : p0 < n) (h1 : p1 < n) (hg : compOpd P g = some g') (has : compC P n as_ = some as') (hb : compC P n b = some b')
  (hr1 : noRF as_ = true) (hr2 : noRF b = true) {ι : Emb} {H : Heap} {fr : Tr AV} {a : Act} {w : World} {k : XK R} {r : R} (hat : At P pr n ι H fr a w) (hcl : Coll pr w) (h : cBack g' (toPa p0) (toPa p1) as' b' Φ run R fr H k = some r)
  {Q : Exit→Act→World→Prop} (hQ : ∀ e fr' H' ι' a' w' pr',k e fr' H' = some r→Ext ι ι'→At P pr' n ι' H' fr' a' w'→Fr pr w w'→More pr pr' w'→Q (exitOf e) a' w') : (Code.rangeFunc g #[p0,p1] as_ b).wpIn (fen none) m P Q a w:=by
 unfold cBack at h
 rw [evK_eq] at h
 rcases vF_some h with ⟨_,hA⟩ | ⟨fv,first,caps,eg,hA⟩
 ·cases hA
 obtain ⟨f,efv,hB⟩:=fnF_some hA
 clear hA h
 subst efv
 rw [getK_eq] at hB
 have h:=hB
 clear hB
 rcases hΦ f with e | ⟨fn,hf,hc⟩ | ⟨q,e,_⟩ | ⟨z,agg,e,hit⟩
 ·have e : Tr.get (.mk .bad []) Φ (toPa f) = .mk .bad []:=e
  rw [e] at h; cases h
 ·obtain ⟨_,c,ac,l,_,_,_,e⟩:=compF_some hc
  have e : Tr.get (.mk .bad []) Φ (toPa f) = .mk ac l:=e
  rw [e] at h; cases h
 ·have e : Tr.get (.mk .bad []) Φ (toPa f) = .prim q:=e
  rw [e] at h; cases h
 have e : Tr.get (.mk .bad []) Φ (toPa f) = .iter z agg:=e
 rw [e] at h
 obtain ⟨⟨fn0,c0,hf0,hbody0,hname0⟩,hagg,ts,te,ts1,ts2,te1,te2,hit⟩:=hit
 cases first with
 | cons _ _=>cases h
 | nil =>
 cases caps with
 | nil=>cases h
 | cons cv cs =>
 cases cs with
 | cons _ _=>cases h
 | nil =>
 have h : vP cv none (fun c o=>backAt run z agg c o (toPa p0) (toPa p1) as' b' fr k H) = some r:=h
 rcases vP_some h with ⟨_,hA⟩ | ⟨c,o,ec,hA⟩
 ·cases hA
 clear h
 have h:=hA
 clear hA
 subst ec
 -- the closure's value
 have hgv:=hat.ctx.opd hg
 rw [eg] at hgv
 obtain ⟨a1,c1,hev,hv1,hv2⟩:=hgv
 have ha1 : a1 = #[]:=by
  have : a1.toList = []:=hv1
  exact Array.toList_eq_nil_iff.mp this
 obtain ⟨y,ys,hy,hyv,hys⟩:=hv2
 obtain ⟨j,hj,hye⟩:=hyv
 have hc1 : c1 = #[.pointer (some ⟨j.blk,j.d + o,none⟩)]:=by
  have hys : ys = []:=hys
  subst hys hye
  rw [← Array.toArray_toList (xs:=c1),hy]
 subst ha1 hc1
 obtain ⟨ad,had⟩ : ∃ ad : Addr,ad = ⟨j.blk,j.d + o,none⟩:=⟨_,rfl⟩
 rw [← had] at hev
 -- the blocks
 obtain ⟨D,hD⟩ : ∃ D,D = w.heap.size:=⟨_,rfl⟩
 have hprw : ∀ b,pr b→b < D:=fun b hb=>by rw [hD]; exact hat.ctx.rel.prot b hb
 refine wpIn_rangeFunc ?_
 intro fn _
 obtain ⟨rec,hrec⟩ : ∃ rec : LoopState→Option Code→Loop,rec = recOf a fn #[p0,p1] as_ b D:=⟨_,rfl⟩
 obtain ⟨W1,hW1⟩ : ∃ W1,(w.alloc (.deferred (some []))).alloc (.loop (rec .ready none)) = W1:=⟨_,rfl⟩
 have hL1 : W1.heap[D + 1]? = some (.loop (rec .ready none)):=by
  rw [← hW1,hD]; have:=World.alloc_heap_new (w.alloc (.deferred (some []))) (.loop (rec .ready none)); rwa [World.size_alloc] at this
 have hbl1 : ∀ b,b < D→W1.heap[b]? = w.heap[b]?:=fun b hb=>by
  rw [hD] at hb
  rw [← hW1]
  show ((w.heap.push _).push _)[b]? = _
  rw [Array.getElem?_push,if_neg (by rw [Array.size_push]; omega),Array.getElem?_push,if_neg (by omega)]
 have hK1 : W1.heap[D]? = some (.deferred (some [])):=by
  rw [← hW1,hD]
  show ((w.heap.push _).push _)[w.heap.size]? = _
  rw [Array.getElem?_push,if_neg (by rw [Array.size_push]; omega),Array.getElem?_push,if_pos rfl]
 have hsz1 : W1.heap.size = D + 2:=by rw [← hW1,hD]; show ((w.heap.push _).push _).size = _; rw [Array.size_push,Array.size_push]
 obtain ⟨pr1,hpr1⟩ : ∃ pr1 : Pr,pr1 = ⟨fun b=>pr.soft b ∨ b = D ∨ b = D + 1,pr.hard,pr.res,[]⟩:=⟨_,rfl⟩
 have hsub : ∀ b,pr b→pr1 b:=by subst hpr1; exact fun b hb=>hb.elim (fun q=>.inl (.inl q)) .inr
 have hprD : pr1 D:=by subst hpr1; exact .inl (.inr (.inl rfl))
 have hprL : pr1 (D + 1):=by subst hpr1; exact .inl (.inr (.inr rfl))
 have hds1 : pr1.ds = []:=by subst hpr1; rfl
 have guard : ∀ {ι' : Emb} {H' : Heap} {W : World},Rel pr P.globals.size ι' H' W.heap→W.heap[D]? = some (.deferred (some []))→(∃ lp,W.heap[D + 1]? = some (.loop lp))→Rel pr1 P.globals.size ι' H' W.heap:=by
  intro ι' H' W R hd ⟨lp,hl⟩
  subst hpr1
  refine R.guard (fun b hb=>?_) (fun b hb=>hb) (fun b hb=>hb)
  rcases hb with (q | rfl | rfl) | q
  ·exact .inl (.inl q)
  ·exact .inr ⟨_,hd,(by intro _ _ _ q; cases q),(by intro _ _ q; cases q)⟩
  ·exact .inr ⟨_,hl,(by intro _ _ _ q; cases q),(by intro _ _ q; cases q)⟩
  ·exact .inl (.inr q)
 have less : ∀ {ι' : Emb} {H' : Heap} {h' : Array Obj},Rel pr1 P.globals.size ι' H' h'→Rel pr P.globals.size ι' H' h':=by
  intro ι' H' h' R
  exact R.less hsub (by subst hpr1; exact fun b hb=>hb) (by subst hpr1; exact fun b hb=>hb)
 have hR1 : Rel pr1 P.globals.size ι H W1.heap:=guard (hat.ctx.rel.below (by rw [hsz1]; omega) (fun b hb=>hbl1 b (by omega))) hK1 ⟨_,hL1⟩
 have hF1 : Fr pr w W1:=⟨by rw [← hW1]; rfl,by rw [← hW1]; rfl,by rw [← hW1]; rfl,by rw [hsz1]; omega,fun b hb=>hbl1 b (hprw b hb)⟩
 unfold backAt at h
 obtain ⟨x0,hA,j0,s0,hj0,hs0,hrun0⟩:=loadK_ok (w:=W1) (a:=a) (fr:=fr) (pr:=pr1) ⟨hR1,hat.ctx.fr⟩ ts1 ts2 (.inr rfl) h
 clear h
 have h:=hA
 clear hA
 rw [hj] at hj0; cases hj0
 rw [← had] at hrun0
 obtain ⟨N,hlen,hbig,hgo⟩ : ∃ N,lenIs s0 N∧N < 1152921504606846976∧backGo run z agg c o (toPa p0) (toPa p1) as' b' fr k N H = some r:=by
  rcases vL_some h with ⟨ex,hA⟩ | ⟨sa,so,sl,sc,sz,ex,hA⟩
  ·rw [ex] at hs0; exact ⟨0,.inl ⟨hs0,rfl⟩,by omega,hA⟩
  ·rw [ex] at hs0
   obtain ⟨ad',cp,j',hve,_⟩:=hs0
   obtain ⟨gb,hA⟩:=guardK_some hA
   exact ⟨sl,.inr ⟨ad',cp,hve⟩,Nat.blt_eq.mp gb,hA⟩
 let J : Nat→World→Prop:=fun i W=>∃ Hi ιi,backGo run z agg c o (toPa p0) (toPa p1) as' b' fr k i Hi = some r∧Ext ι ιi∧Rel pr1 P.globals.size ιi Hi W.heap∧Fr pr w W∧W.heap[D + 1]? = some (.loop (rec .ready none))∧W.heap[D]? = some (.deferred (some []))
 have hJ0 : J N W1:=⟨H,ι,hgo,Ext.refl _,hR1,hF1,hL1,hK1⟩
 have hround : ∀ i W,i < N→J (i + 1) W→∃ sa len cap v,(loadVar ts ad).run P W = .ok (.slice (some sa) len cap) W∧i < len∧(loadVar te (sa.add (i * z))).run P W = .ok v W ∧
   ∀ m,YieldAt Fence.wide m P (D + 1) #[.int .i64 (i : Int),v] W fun e W'=>e = .returned (.bool true)∧J i W':=by
  rintro i W hi ⟨Hi,ιi,hk,hext,hR,hF,hl,hk0⟩
  have C : Ctx P pr1 ιi Hi fr a W:=⟨hR,hat.ctx.fr.mono hext⟩
  have hk : loadK false 1 c o Hi (fun x=>vL x none fun a off len _ sz=>guardK (Nat.beq sz z) (guardK (Nat.blt i len) (loadK agg z a (Nat.add off (Nat.mul i z)) Hi fun v =>
   setK un (.i .i64 (.ofNat i)) (toPa p0) fr fun fr1=>setK un v (toPa p1) fr1 fun fr2=>run R as' fr2 Hi fun e fr3 H3=>Ex.casesOn e (run R b' fr3 H3 fun e _ H4=>Ex.casesOn e (backGo run z agg c o (toPa p0) (toPa p1) as' b' fr k i H4) (fun _=>none) none) (fun _=>none) none))) = some r:=hk
  obtain ⟨x1,hk1,j1,s1,hj1,hs1,hrun1⟩:=loadK_ok C ts1 ts2 (.inr rfl) hk
  rw [hext _ _ hj] at hj1; cases hj1
  rw [← had] at hrun1
  rcases vL_some hk1 with ⟨_,hk2⟩ | ⟨sa,so,sl,sc,sz,ex,hk2⟩
  ·cases hk2
  subst ex
  obtain ⟨gz,hk3⟩:=guardK_some hk2
  obtain ⟨gi,hk4⟩:=guardK_some hk3
  have gz:=Nat.eq_of_beq_eq_true gz
  have gi : i < sl:=Nat.blt_eq.mp gi
  obtain ⟨ad',cp,j2,hve,hj2,hle,_,_,hadr,_,_⟩:=hs1
  have hadr:=hadr.resolve_left (by omega)
  obtain ⟨v,hk5,j3,v',hj3,hv,hrunv⟩:=loadK_ok C te1 te2 hagg hk4
  rw [hj2] at hj3; cases hj3
  have hadd : ad'.add (i * z) = ⟨j2.blk,j2.d + Nat.add so (Nat.mul i z),none⟩:=by
   rw [hadr,Addr.add_lit,Nat.add_assoc]; rfl
  refine ⟨ad',sl,cp,v',by rw [hrun1,hve],gi,by rw [hadd]; exact hrunv,fun m=>?_⟩
  rw [setK_eq,setK_eq] at hk5
  obtain ⟨fr2,hfr2⟩ : ∃ fr2,fr2 = Tr.set un v (Tr.set un (.i .i64 (.ofNat i)) fr (toPa p0)) (toPa p1):=⟨_,rfl⟩
  rw [← hfr2] at hk5
  have hly : (Instr.yield (D + 1) #[.int .i64 (i : Int),v']).run P W = .ok (.round (D + 1) fn ((a.tmps.setIfInBounds p0 (.int .i64 (i : Int))).setIfInBounds p1 v') as_ b) W:=by
   have:=run_yield (P:=P) (args:=#[.int .i64 (i : Int),v']) hl (by rw [hrec]; rfl)
   rw [hrec] at this
   have hz : ((#[p0,p1] : Array Tmp).zip #[.int .i64 (i : Int),v']).foldl (fun tmps (t,a)=>tmps.setIfInBounds t a) a.tmps = (a.tmps.setIfInBounds p0 (.int .i64 (i : Int))).setIfInBounds p1 v':=by simp
   exact this.trans (congrArg (fun q=>Result.ok (Next.round (D + 1) fn q as_ b) W) hz)
  refine ⟨fn,_,as_,b,hly,roundIn_of_wpIn (F:=Fence.wide) trivial ?_⟩
  have hat1 : At P pr1 n ιi Hi fr2 { tmps:=(a.tmps.setIfInBounds p0 (.int .i64 (i : Int))).setIfInBounds p1 v',defers:=[] } W :=
   ⟨⟨hR,by rw [hfr2]; exact C.fr.set2 (x:=.i .i64 (.ofNat i)) (x':=.int .i64 (i : Int)) hat.sz h0 h1 rfl hv⟩,by show n≤((a.tmps.setIfInBounds p0 _).setIfInBounds p1 v').size; rw [Array.size_setIfInBounds,Array.size_setIfInBounds]; exact hat.sz,hds1.symm⟩
  refine (ih.ok (some (D + 1)) m R pr1 n as_ as' has (fun _=>hr1) ιi Hi fr2 _ W _ r hat1 ⟨(fun d hd=>by rw [hds1] at hd; cases hd),(by rw [hds1]; exact List.Pairwise.nil)⟩ hk5 _ fun e fr3 H3 ι3 a3 w3 pr3 h3 hext3 hat3 hfr3 hmore3=>?_).1
  cases e with
  | exit id=>cases h3
  | ret=>cases h3
  | norm =>
   have h3 : run R b' fr3 H3 (fun e _ H4=>Ex.casesOn e (backGo run z agg c o (toPa p0) (toPa p1) as' b' fr k i H4) (fun _=>none) none) = some r:=h3
   have hl3 : w3.heap[D + 1]? = some (.loop (rec .ready none)):=by rw [hfr3.keep _ hprL,hl]
   have hk3 : w3.heap[D]? = some (.deferred (some [])):=by rw [hfr3.keep _ hprD,hk0]
   have hlt3 : D + 1 < w3.heap.size:=(Array.getElem?_eq_some_iff.mp hl3).1
   refine ⟨w3.putObj (D + 1) (.loop { rec .ready none with state:=.busy }),run_beginRound hl3 (by rw [hrec]; rfl),?_⟩
   have hat4 : At P pr3 n ι3 H3 fr3 a3 (w3.putObj (D + 1) (.loop { rec .ready none with state:=.busy })) :=
    ⟨⟨hat3.ctx.rel.obj hl3 (by intro _ _ _ q; cases q) (by intro _ _ q; cases q),hat3.ctx.fr⟩,hat3.sz,hat3.nd⟩
   refine (ih.ok (some (D + 1)) m R pr3 n b b' hb (fun _=>hr2) ι3 H3 fr3 a3 _ _ r hat4 (hmore3.coll.obj hl3 (by intro q; cases q)) h3 _ fun e fr4 H4 ι4 a4 w4 pr4 h4 hext4 hat5 hfr4 hmore4=>?_).1
   cases e with
   | exit id=>cases h4
   | ret=>cases h4
   | norm =>
    have h4 : backGo run z agg c o (toPa p0) (toPa p1) as' b' fr k i H4 = some r:=h4
    have hl4 : w4.heap[D + 1]? = some (.loop { rec .ready none with state:=.busy }):=by rw [hfr4.keep _ (hmore3.le _ hprL),World.putObj_heap_same hlt3]
    have hk4 : w4.heap[D]? = some (.deferred (some [])):=by rw [hfr4.keep _ (hmore3.le _ hprD),World.putObj_heap_other (by omega),hk3]
    have hlt4 : D + 1 < w4.heap.size:=(Array.getElem?_eq_some_iff.mp hl4).1
    have hend:=run_endRound (P:=P) none hl4
    refine ⟨_,_,hend,rfl,H4,ι4,h4,(hext.trans hext3).trans hext4,?_,?_,?_,?_⟩
    ·have:=hat5.ctx.rel.obj (o':=.loop { rec .ready none with state:=.ready,pending:=none }) hl4 (by intro _ _ _ q; cases q) (by intro _ _ q; cases q)
     have:=this.less (pr:=pr1) (fun b hb=>hmore4.le b (hmore3.le b hb)) (fun b hb=>hmore4.hard b (hmore3.hard b hb)) (fun b hb=>hmore4.res b (hmore3.res b hb))
     exact this
    ·have f3 : Fr pr w w3:=hF.trans ⟨hfr3.os,hfr3.tape,hfr3.output,hfr3.size,fun b hb=>hfr3.keep b (hsub b hb)⟩
     have f4 : Fr pr (w3.putObj (D + 1) (.loop { rec .ready none with state:=.busy })) w4:=⟨hfr4.os,hfr4.tape,hfr4.output,hfr4.size,fun b hb=>hfr4.keep b (hmore3.le b (hsub b hb))⟩
     have np : ∀ b,pr b→b ≠ D + 1:=fun b hb=>by have:=hprw b hb; omega
     refine ⟨f4.os.trans f3.os,f4.tape.trans f3.tape,f4.output.trans f3.output,?_,fun b hb=>?_⟩
     ·have s3:=f3.size
      have s4:=f4.size
      rw [World.putObj_size] at s4
      rw [World.putObj_size]; omega
     ·rw [World.putObj_heap_other (np b hb),f4.keep b hb,World.putObj_heap_other (np b hb),f3.keep b hb]
    ·rw [World.putObj_heap_same hlt4,hrec]; rfl
    ·rw [World.putObj_heap_other (by omega),hk4]
 refine ⟨D + 1,[{ target:=.collected D,args:=#[] }],W1,{ target:=.fn (.func f) #[.pointer (some ad)],args:=#[.func (.yield (D + 1)) #[] #[]] },W1,f,#[.func (.yield (D + 1)) #[] #[]] ++ #[.pointer (some ad)],W1,?_,?_,?_,?_,fun q=>by simp [fen,Fence.wide] at q,?_⟩
 ·rw [← hW1,hrec,hD]; exact run_enterLoop_outer _ _ _ _ _
 ·simp only [resolve,hev]
  simp [go_sem]
 ·intro f' _; trivial
 ·have eg0 : ∀ args w,(callFunc f args).run P w = .ok (.enter f args) w:=fun args w=>run_callFunc_body hf0 hname0 hbody0 args
  simp [invoke,go_sem,eg0]
 ·refine callsIn_fen.2 ((callsIn_wide.1 (hit (D + 1) ad N J W1 s0 hrun0 hlen hbig hround hJ0)).mono ?_)
  rintro e W' ⟨⟨v,rfl⟩,H',ι',hk,hext,hR,hF,hl,hk0⟩
  have hk : k .norm fr H' = some r:=hk
  have hlt : D + 1 < W'.heap.size:=(Array.getElem?_eq_some_iff.mp hl).1
  have hend:=run_endLoop (P:=P) hl (by rw [hrec]; intro q; cases q)
  have hp : (rec .ready none).pending = none:=by rw [hrec]; rfl
  refine ⟨none,W'.putObj (D + 1) (.loop { rec .ready none with state:=.exhausted }),hend.trans (congrArg (fun q=>Result.ok q (W'.putObj (D + 1) (.loop { rec .ready none with state:=.exhausted }))) hp),?_⟩
  have np : ∀ b,pr b→b ≠ D + 1:=fun b hb=>by have:=hprw b hb; omega
  obtain ⟨pr2,hpr2⟩ : ∃ pr2 : Pr,pr2 = ⟨fun b=>pr.soft b ∨ b = D,pr.hard,pr.res,{ target:=.collected D,args:=#[] } :: pr.ds⟩:=⟨_,rfl⟩
  have hR4 : Rel pr1 P.globals.size ι' H' (W'.putObj (D + 1) (.loop { rec .ready none with state:=.exhausted })).heap:=hR.obj hl (by intro _ _ _ q; cases q) (by intro _ _ q; cases q)
  have hR5 : Rel pr2 P.globals.size ι' H' (W'.putObj (D + 1) (.loop { rec .ready none with state:=.exhausted })).heap:=by
   subst hpr1 hpr2
   refine hR4.less (fun b hb=>?_) (fun b hb=>hb) (fun b hb=>hb)
   rcases hb with (q | q) | q
   ·exact .inl (.inl q)
   ·exact .inl (.inr (.inl q))
   ·exact .inr q
  have hk5 : (W'.putObj (D + 1) (.loop { rec .ready none with state:=.exhausted })).heap[D]? = some (.deferred (some [])):=by rw [World.putObj_heap_other (by omega),hk0]
  have hF5 : Fr pr w (W'.putObj (D + 1) (.loop { rec .ready none with state:=.exhausted })):=⟨hF.os,hF.tape,hF.output,by rw [World.putObj_size]; exact hF.size,fun b hb=>by rw [World.putObj_heap_other (np b hb),hF.keep b hb]⟩
  refine hQ .norm fr H' ι' _ _ pr2 hk hext ⟨⟨hR5,hat.ctx.fr.mono hext⟩,hat.sz,?_⟩ hF5 ⟨?_,?_,?_,?_,?_,?_⟩
  ·rw [hpr2]
   show [({ target:=.collected D,args:=#[] } : Deferred)] ++ a.defers = _
   rw [hat.nd]; rfl
  ·subst hpr2; exact fun b hb=>hb.elim (fun q=>.inl (.inl q)) .inr
  ·subst hpr2; exact fun b hb=>hb
  ·subst hpr2; exact fun b hb=>hb
  ·intro d hd
   have hd : d ∈ ({ target:=.collected D,args:=#[] } : Deferred) :: pr.ds:=by rw [hpr2] at hd; exact hd
   rcases List.mem_cons.mp hd with q | q
   ·exact .inr ⟨D,q,fun x=>by have:=hprw D x; omega⟩
   ·exact .inl q
  ·intro d hd
   have hd : d ∈ ({ target:=.collected D,args:=#[] } : Deferred) :: pr.ds:=by rw [hpr2] at hd; exact hd
   rcases List.mem_cons.mp hd with q | q
   ·exact ⟨D,q,by subst hpr2; exact .inl (.inr rfl),hk5⟩
   ·obtain ⟨D',q1,q2,q3⟩:=hcl.1 d q
    exact ⟨D',q1,by subst hpr2; exact q2.elim (fun x=>.inl (.inl x)) .inr,by rw [hF5.keep D' q2,q3]⟩
  ·rw [hpr2]
   refine List.pairwise_cons.mpr ⟨fun d hd=>?_,hcl.2⟩
   obtain ⟨D',q1,q2,_⟩:=hcl.1 d hd
   rintro rfl
   cases q1
   have:=hprw _ q2
   omega
theorem runK_ok (hΦ : TblOK P Φ) (hdraw : DrawOK P) : ∀ f,RunOK P (runK Φ f)
 | 0=>⟨fun _ _ _ _=>rfl,fun ro m R pr n cd ac _ _ ι H fr a w k r _ _ h=>by cases h⟩
 | f + 1=>by
  have ih:=runK_ok hΦ hdraw f
  have hcall:=callK_ok hΦ ih
  refine ⟨fun _ _ _ _=>rfl,fun ro m R pr n cd ac hc hrf ι H fr a w k r hat hcl h Q hQ=>?_⟩
  have h : runC ac Φ (runK Φ f) R fr H k = some r:=h
  unfold compC at hc
  split at hc
  ·cases hc
   have h : k .norm fr H = some r:=h
   exact ⟨wpIn_skip (hQ .norm fr H ι a w pr h (Ext.refl _) hat (Fr.refl _ _) (.same hcl (Fr.refl _ _))),fun c e=>by cases e⟩
  ·rename_i id ops draw
   refine ⟨?_,fun c e=>by cases e⟩
   obtain ⟨hnd,hc⟩:=ite_none' hc
   obtain ⟨l,hl,hc⟩:=bind_some hc
   have hlo : ¬ LetsOut (fun e a' w'=>e = Exit.normal∧Q .normal a' w'):=by rintro ⟨_,_,q,_⟩; cases q
   cases draw with
   | false =>
    rw [if_neg (by simp)] at hc
    cases hc
    have h : opsK (callK Φ (runK Φ f) R) l fr H (fun fr H=>k .norm fr H) = some r:=h
    refine wpIn_mono (Q:=fun e a' w'=>e = Exit.normal∧Q .normal a' w') (wpIn_region (wpOps_in hnd hlo _ _ _ ?_)) (fun e a w q=>by obtain ⟨rfl,q⟩:=q; exact q)
    rw [List.range_eq_range']
    exact ops_ok hl (hcall R pr) ops.size 0 ι H fr a w (by omega) hat h fun fr' H' ι' a' w' h1 hext hat' hfr=>⟨rfl,hQ .norm fr' H' ι' a' w' pr h1 hext hat' hfr (.same hcl hfr)⟩
   | true =>
    rw [if_pos rfl] at hc
    obtain ⟨nA,xs,e⟩:=compDraw_some hc
    subst e
    have h : draw0K (callK Φ (runK Φ f)) nA xs fr H (fun fr H=>k .norm fr H) = some r:=h
    refine wpIn_mono (Q:=fun e a' w'=>e = Exit.normal∧Q .normal a' w') (wpIn_region_draw fun t'=>wpOps_in hnd hlo _ _ _ ?_) (fun e a w q=>by obtain ⟨rfl,q⟩:=q; exact q)
    exact hdraw _ hcall R pr n id ops l nA xs hl hc ι H fr a w _ r hat h _ (fun fr' H' ι' a' w' h1 hext hat' hfr=>⟨rfl,hQ .norm fr' H' ι' a' w' pr h1 hext hat' hfr (.same hcl hfr)⟩) t'
  ·rename_i x y
   refine ⟨?_,fun c e=>by cases e⟩
   obtain ⟨x',hx,hc⟩:=bind_some hc
   obtain ⟨y',hy,e⟩:=map_some hc
   subst e
   have hrx : ro.isSome = true→noRF x = true∧noRF y = true:=fun q=>by
    have q : (noRF x && noRF y) = true:=hrf q
    rwa [Bool.and_eq_true] at q
   have h : runK Φ f R x' fr H (thenK (runK Φ f) y' k) = some r:=h
   refine wpIn_seq (ih.ok ro m R pr n x x' hx (fun q=>(hrx q).1) ι H fr a w _ r hat hcl h _ fun e fr' H' ι' a' w' pr' h1 hext hat' hfr hm=>?_).1
   cases e with
   | norm =>
    have h1 : runK Φ f R y' fr' H' k = some r:=h1
    exact (ih.ok ro m R pr' n y y' hy (fun q=>(hrx q).2) ι' H' fr' a' w' k r hat' hm.coll h1 Q fun e fr'' H'' ι'' a'' w'' pr'' h2 hext' hat'' hfr' hm'=>hQ e fr'' H'' ι'' a'' w'' pr'' h2 (hext.trans hext') hat'' (hfr.trans (hm.frm hfr')) (hm.trans hm')).1
   | exit id=>exact hQ (.exit id) fr' H' ι' a' w' pr' h1 hext hat' hfr hm
   | ret=>exact hQ .ret fr' H' ι' a' w' pr' h1 hext hat' hfr hm
  ·rename_i o x y
   refine ⟨?_,fun c e=>by cases e⟩
   obtain ⟨o',ho,hc⟩:=bind_some hc
   obtain ⟨x',hx,hc⟩:=bind_some hc
   obtain ⟨y',hy,e⟩:=map_some hc
   subst e
   have hrx : ro.isSome = true→noRF x = true∧noRF y = true:=fun q=>by
    have q : (noRF x && noRF y) = true:=hrf q
    rwa [Bool.and_eq_true] at q
   have h : evK fr o' (fun v=>vB v fun t=>Bool.casesOn t (runK Φ f R y' fr H k) (runK Φ f R x' fr H k)) = some r:=h
   rw [evK_eq] at h
   obtain ⟨t,e,h1⟩:=vB_some h
   have hv:=hat.ctx.opd ho
   rw [e] at hv
   refine wpIn_cond (VRb hv) ?_
   cases t with
   | true =>
    have h1 : runK Φ f R x' fr H k = some r:=h1
    rw [if_pos rfl]
    exact (ih.ok ro m R pr n x x' hx (fun q=>(hrx q).1) ι H fr a w k r hat hcl h1 Q hQ).1
   | false =>
    have h1 : runK Φ f R y' fr H k = some r:=h1
    rw [if_neg (by simp)]
    exact (ih.ok ro m R pr n y y' hy (fun q=>(hrx q).2) ι H fr a w k r hat hcl h1 Q hQ).1
  ·rename_i id c
   refine ⟨?_,fun c e=>by cases e⟩
   obtain ⟨c',hcc,e⟩:=map_some hc
   subst e
   have h : runK Φ f R c' fr H (blockK id k) = some r:=h
   refine wpIn_block (ih.ok ro m R pr n c c' hcc hrf ι H fr a w _ r hat hcl h _ fun e fr' H' ι' a' w' pr' h1 hext hat' hfr hm=>?_).1
   cases e with
   | norm=>exact hQ .norm fr' H' ι' a' w' pr' h1 hext hat' hfr hm
   | ret=>exact hQ .ret fr' H' ι' a' w' pr' h1 hext hat' hfr hm
   | exit id' =>
    have h1 : (Bool.casesOn (Nat.beq id id') (k (.exit id') fr' H') (k .norm fr' H') : Option R) = some r:=h1
    show (if id' = id then Q .normal a' w' else Q (.exit id') a' w')
    cases e : Nat.beq id id' with
    | true =>
     rw [e] at h1
     rw [if_pos (Nat.eq_of_beq_eq_true e).symm]
     exact hQ .norm fr' H' ι' a' w' pr' h1 hext hat' hfr hm
    | false =>
     rw [e] at h1
     rw [if_neg (fun e'=>by rw [e',Nat.beq_refl] at e; cases e)]
     exact hQ (.exit id') fr' H' ι' a' w' pr' h1 hext hat' hfr hm
  ·rename_i c
   obtain ⟨c',hcc,e⟩:=map_some hc
   subst e
   have h : runK Φ f R c' fr H (thenK (runK Φ f) (.loop c') k) = some r:=h
   have hlc : compC P n (.loop c) = some (.loop c'):=by unfold compC; rw [hcc]; rfl
   have hw : c.wpIn (fen ro) m P (Exit.then (InLoop P ro m c Q) Q) a w:=by
    refine (ih.ok ro m R pr n c c' hcc hrf ι H fr a w _ r hat hcl h _ fun e fr' H' ι' a' w' pr' h1 hext hat' hfr hm=>?_).1
    cases e with
    | norm =>
     have h1 : runK Φ f R (.loop c') fr' H' k = some r:=h1
     exact (ih.ok ro m R pr' n (.loop c) (.loop c') hlc hrf ι' H' fr' a' w' k r hat' hm.coll h1 Q fun e fr'' H'' ι'' a'' w'' pr'' h2 hext' hat'' hfr' hm'=>hQ e fr'' H'' ι'' a'' w'' pr'' h2 (hext.trans hext') hat'' (hfr.trans (hm.frm hfr')) (hm.trans hm')).2 c rfl
    | exit id=>exact hQ (.exit id) fr' H' ι' a' w' pr' h1 hext hat' hfr hm
    | ret=>exact hQ .ret fr' H' ι' a' w' pr' h1 hext hat' hfr hm
   exact ⟨loop_of hw,fun c2 e=>by cases e; exact inLoop_of hw⟩
  ·rename_i id
   cases hc
   exact ⟨wpIn_exit (hQ (.exit id) fr H ι a w pr h (Ext.refl _) hat (Fr.refl _ _) (.same hcl (Fr.refl _ _))),fun c e=>by cases e⟩
  ·cases hc
   exact ⟨wpIn_ret (hQ .ret fr H ι a w pr h (Ext.refl _) hat (Fr.refl _ _) (.same hcl (Fr.refl _ _))),fun c e=>by cases e⟩
  ·cases hc
   exact ⟨wpIn_label (hQ .norm fr H ι a w pr h (Ext.refl _) hat (Fr.refl _ _) (.same hcl (Fr.refl _ _))),fun c e=>by cases e⟩
  ·rename_i g ps as_ b
   refine ⟨?_,fun c e=>by cases e⟩
   cases ro with
   | some l=>have:=hrf rfl; cases this
   | none =>
    obtain ⟨hrr,hc⟩:=ite_none' hc
    rw [Bool.and_eq_true] at hrr
    split at hc
    ·rename_i p0 p1 hps
     obtain ⟨⟨h0,h1,_⟩,hc⟩:=ite_none' hc
     obtain ⟨g',hg,hc⟩:=bind_some hc
     obtain ⟨as',has,hc⟩:=bind_some hc
     obtain ⟨b',hb,e⟩:=map_some hc
     subst e
     have hps : ps = #[p0,p1]:=by rw [← Array.toArray_toList (xs:=ps),hps]
     subst hps
     exact back_ok hΦ ih h0 h1 hg has hb hrr.1 hrr.2 hat hcl h hQ
    ·cases hc
  ·cases hc
   cases h
/-- A function called: what the abstract run tells,the call gives,in every world that is as the abstract memory says. -/
theorem goK_ok (hΦ : TblOK P Φ) (hdraw : DrawOK P) {fuel f : Nat} {args : List AV} {args' : Array Value} {ι : Emb} {H : Heap} {w : World} {k : HK R} {r : R} (hrel : Rel pr P.globals.size ι H w.heap) (hv : VRs ι args args'.toList)
  (h : goK Φ fuel (toPa f) args H k = some r) :
  Calls P f args' w fun e w'=>∃ v H' v' ι',k v H' = some r∧e = .returned v'∧Ext ι ι'∧Rel pr P.globals.size ι' H' w'.heap∧Fr pr w w'∧VR ι' v v' :=
 (callK_ok hΦ (runK_ok hΦ hdraw fuel) R pr f args args' ι H w k r hrel hv h).2
end
end Go.Vai

/- VAI,part W: what an operation looks at. -/
namespace Go.Vai
section
variable {R : Type} {P : Program} {pr : Pr} {ι : Emb} {H : Heap} {fr fr' : Tr AV}
theorem evs_congr {l : List Opd} (h : ∀ x ∈ l,ev fr x = ev fr' x) : l.map (ev fr) = l.map (ev fr'):=List.map_congr_left h
theorem evo_congr {o : Option Opd} (h : ∀ x ∈ o.toList,ev fr x = ev fr' x) : o.map (ev fr) = o.map (ev fr'):=by
 cases o with
 | none=>rfl
 | some x=>simp only [Option.map_some]; rw [h x (by simp)]
theorem fillK_congr : ∀ (ps : List (Nat × Nat × Opd)) (cs : List AV) (k : List AV→Option R),(∀ x ∈ ps.map (·.2.2),ev fr x = ev fr' x)→fillK fr ps cs k = fillK fr' ps cs k
 | [],_,_,_=>rfl
 | p :: ps,cs,k,h=>by
  show (evK fr p.2.2 fun v=>cellsK v fun l=>fill1K p.1 p.2.1 cs l fun cs=>fillK fr ps cs k) = (evK fr' p.2.2 fun v=>cellsK v fun l=>fill1K p.1 p.2.1 cs l fun cs=>fillK fr' ps cs k)
  have e : (fun cs=>fillK fr ps cs k) = fun cs=>fillK fr' ps cs k:=funext fun cs=>fillK_congr ps cs k fun x hx=>h x (by simp only [List.map_cons,List.mem_cons]; exact .inr hx)
  rw [evK_eq,evK_eq,h p.2.2 (by simp),e]
/-- An operation looks at its operands alone. -/
theorem xop_congr {o : AOp} (h : ∀ x ∈ o.opds,ev fr x = ev fr' x) (call : CallK R) (H : Heap) (k : HK R) : xopK o call fr H k = xopK o call fr' H k:=by
 cases o
 case build zs ps=>exact fillK_congr ps _ _ h
 case bsl e sz len zs ps=>exact fillK_congr ps _ _ h
 case mkfn f first caps =>
  have h1:=evs_congr (l:=first) fun x hx=>h x (List.mem_append_left _ hx)
  have h2:=evs_congr (l:=caps) fun x hx=>h x (List.mem_append_right _ hx)
  show xMkfn f first caps call fr H k = xMkfn f first caps call fr' H k
  unfold xMkfn
  rw [evsK_eq,evsK_eq,evsK_eq,evsK_eq,h1,h2]
 case sls x lo hi =>
  have h0:=h x (by simp [AOp.opds])
  have h1:=evo_congr (o:=lo) fun x hx=>h x (by simp [AOp.opds]; right; left; simpa using hx)
  have h2:=evo_congr (o:=hi) fun x hx=>h x (by simp [AOp.opds]; right; right; simpa using hx)
  show xSls x lo hi call fr H k = xSls x lo hi call fr' H k
  unfold xSls
  rw [evK_eq,evK_eq,evoK_eq,evoK_eq,evoK_eq,evoK_eq,h0,h1,h2]
 case sll sz x lo hi mx =>
  have h0:=h x (by simp [AOp.opds])
  have h1:=evo_congr (o:=lo) fun x hx=>h x (by simp [AOp.opds]; right; left; simpa using hx)
  have h2:=evo_congr (o:=hi) fun x hx=>h x (by simp [AOp.opds]; right; right; left; simpa using hx)
  have h3:=evo_congr (o:=mx) fun x hx=>h x (by simp [AOp.opds]; right; right; right; simpa using hx)
  show xSll sz x lo hi mx call fr H k = xSll sz x lo hi mx call fr' H k
  unfold xSll
  rw [evK_eq,evK_eq,evoK_eq,evoK_eq,evoK_eq,evoK_eq,evoK_eq,evoK_eq,h0,h1,h2,h3]
 case sla n sz x lo hi mx =>
  have h0:=h x (by simp [AOp.opds])
  have h1:=evo_congr (o:=lo) fun x hx=>h x (by simp [AOp.opds]; right; left; simpa using hx)
  have h2:=evo_congr (o:=hi) fun x hx=>h x (by simp [AOp.opds]; right; right; left; simpa using hx)
  have h3:=evo_congr (o:=mx) fun x hx=>h x (by simp [AOp.opds]; right; right; right; simpa using hx)
  show xSla n sz x lo hi mx call fr H k = xSla n sz x lo hi mx call fr' H k
  unfold xSla
  rw [evK_eq,evK_eq,evoK_eq,evoK_eq,evoK_eq,evoK_eq,evoK_eq,evoK_eq,h0,h1,h2,h3]
 case call f bs =>
  have h1:=evs_congr (l:=bs) h
  show xCall f bs call fr H k = xCall f bs call fr' H k
  unfold xCall
  rw [evsK_eq,evsK_eq,h1]
 case callv f bs =>
  have h0:=h f (by simp [AOp.opds])
  have h1:=evs_congr (l:=bs) fun x hx=>h x (by simp [AOp.opds,hx])
  show xCallv f bs call fr H k = xCallv f bs call fr' H k
  unfold xCallv
  rw [evK_eq,evK_eq,evsK_eq,evsK_eq,h0,h1]
 case inv tbl x bs =>
  have h0:=h x (by simp [AOp.opds])
  have h1:=evs_congr (l:=bs) fun x hx=>h x (by simp [AOp.opds,hx])
  show xInv tbl x bs call fr H k = xInv tbl x bs call fr' H k
  unfold xInv
  rw [evK_eq,evK_eq,evsK_eq,evsK_eq,h0,h1]
 case pick c x y =>
  have h0:=h c (by simp [AOp.opds])
  have h1:=h x (by simp [AOp.opds])
  have h2:=h y (by simp [AOp.opds])
  show xPick c x y call fr H k = xPick c x y call fr' H k
  unfold xPick
  simp only [evK_eq,h0,h1,h2]
 all_goals
  simp only [AOp.opds,List.mem_cons,List.not_mem_nil,or_false,forall_eq_or_imp,forall_eq] at h
  simp only [xopK,xMv,xNew,xBox,mkBox,mkNew,xLd,xSt,xNilck,xBin,xNot,xNeg,xCpl,xCvi,xCvs,xI2s,xS2b,xB2s,xS2r,xR2s,xP2u,xU2p,xMkif,xFa,xFld,xIxa,xIxp,xIxs,xIxg,xExt,xLen,xLenc,xCap,xApp,xCpy,xMm,xMks,xRng,xNxt,xTas,xUsd,xUstr,xMnz,xIxb,xFrz,xBad,evK_eq,h]
/-- The operations of class 0 look at no memory,and call nothing. -/
theorem pure_mem {o : AOp} (h : clsOf o = 0) (call call' : CallK R) (fr : Tr AV) (H H0 : Heap) (k : HK R) : xopK o call fr H k = xopK o call' fr H0 (fun v _=>k v H):=by
 cases o <;> first | (exfalso; simp [clsOf] at h; done) | rfl
/-- Those of class 1 turn none. -/
theorem read_mem {o : AOp} (h : clsOf o = 1) (call call' : CallK R) (fr : Tr AV) (H : Heap) (k : HK R) : xopK o call fr H k = xopK o call' fr H (fun v _=>k v H):=by
 cases o <;> first | (exfalso; simp [clsOf] at h; done) | rfl
theorem wantK_none {R : Type} (k : Bool→Option R) : wantK none fr k = k true:=rfl
/-- Is it wanted? -/
noncomputable def wantB (g : Option (Pa × Bool)) (fr : Tr AV) : Option Bool:=wantK g fr some
theorem wantK_eq (g : Option (Pa × Bool)) (fr : Tr AV) (k : Bool→Option R) : wantK g fr k = (wantB g fr).bind k:=by
 unfold wantB
 cases g with
 | none=>rfl
 | some x =>
  show (getK un x.1 fr fun v=>wantV v x.2 k) = (getK un x.1 fr fun v=>wantV v x.2 some).bind k
  rw [getK_eq,getK_eq]
  cases Tr.get un fr x.1 <;> rfl
theorem wantB_congr {p : Pa} {b : Bool} (h : Tr.get un fr p = Tr.get un fr' p) : wantB (some (p,b)) fr = wantB (some (p,b)) fr':=by
 show (getK un p fr fun v=>wantV v b some) = (getK un p fr' fun v=>wantV v b some)
 rw [getK_eq,getK_eq,h]
theorem capEq_eq {a b : Option Nat} (h : capEq a b = true) : a = b:=by
 cases a <;> cases b <;> first | rfl | (cases h; done) | exact congrArg some (Nat.eq_of_beq_eq_true h)
theorem casesB {a b : Bool} (h : (Bool.casesOn a false b : Bool) = true) : a = true∧b = true:=by cases a <;> cases b <;> first | exact ⟨rfl,rfl⟩ | cases h
theorem oB_some {x : Option Bool} (h : oB x = true) : x = some true:=by cases x <;> first | (cases h; done) | exact congrArg some h
theorem avEq1_eq {x y : AV} (h : avEq1 x y = true) : x = y:=by
 cases x <;> try (cases h; done)
 case b x =>
  obtain ⟨y,e,h1⟩:=vB_some (oB_some h)
  subst e
  have h1:=Option.some.inj h1
  rw [bEq_eq] at h1
  have : x = y:=by simpa using h1
  rw [this]
 case i k n =>
  obtain ⟨k',m,e,h1⟩:=vI_some (oB_some h)
  subst e
  have h1:=Option.some.inj h1
  obtain ⟨h2,h3⟩:=casesB h1
  rw [iEq_eq] at h3
  have h3 : n = m:=by simpa using h3
  rw [kix_inj h2,h3]
 case s l n =>
  obtain ⟨l',m,e,h1⟩:=vS_some (oB_some h)
  subst e
  have h1:=Option.some.inj h1
  obtain ⟨h2,h3⟩:=casesB h1
  rw [Nat.eq_of_beq_eq_true h2,Nat.eq_of_beq_eq_true h3]
 case p a o =>
  rcases vP_some (oB_some h) with ⟨_,h1⟩ | ⟨b,o',e,h1⟩
  ·cases h1
  ·subst e
   obtain ⟨h2,h3⟩:=casesB (Option.some.inj h1)
   rw [Pa.same_eq h2,Nat.eq_of_beq_eq_true h3]
 case np =>
  rcases vP_some (oB_some h) with ⟨e,_⟩ | ⟨b,o',e,h1⟩
  ·exact e.symm
  ·cases h1
 case sl a o l c z =>
  rcases vL_some (oB_some h) with ⟨_,h1⟩ | ⟨b,o',l',c',z',e,h1⟩
  ·cases h1
  ·subst e
   obtain ⟨h2,h3⟩:=casesB (Option.some.inj h1)
   obtain ⟨h4,h5⟩:=casesB h3
   obtain ⟨h6,h7⟩:=casesB h5
   obtain ⟨h8,h9⟩:=casesB h7
   rw [Pa.same_eq h2,Nat.eq_of_beq_eq_true h4,Nat.eq_of_beq_eq_true h6,Nat.eq_of_beq_eq_true h8,capEq_eq h9]
 case ns =>
  rcases vL_some (oB_some h) with ⟨e,_⟩ | ⟨b,o',l',c',z',e,h1⟩
  ·exact e.symm
  ·cases h1
 case nf =>
  rcases vF_some (oB_some h) with ⟨e,_⟩ | ⟨f,a,c,e,h1⟩
  ·exact e.symm
  ·cases h1
 case ni =>
  rcases vE_some (oB_some h) with ⟨e,_⟩ | ⟨t,v,e,h1⟩
  ·exact e.symm
  ·cases h1
theorem avEqs_eq : ∀ {xs ys : List AV},avEqs xs ys = true→xs = ys
 | [],[],_=>rfl
 | [],_ :: _,h=>by cases h
 | _ :: _,[],h=>by cases h
 | x :: xs,y :: ys,h=>by
  have h : (Bool.casesOn (avEq1 x y) false (avEqs xs ys) : Bool) = true:=h
  obtain ⟨h1,h2⟩:=casesB h
  rw [avEq1_eq h1,avEqs_eq h2]
theorem avEq_eq {x y : AV} (h : avEq x y = true) : x = y:=by
 unfold avEq at h
 cases ho : oneC x with
 | true=>rw [ho] at h; exact avEq1_eq h
 | false =>
  rw [ho] at h
  obtain ⟨xs,e,h1⟩:=vA_some (oB_some h)
  obtain ⟨ys,e2,h2⟩:=vA_some h1
  rw [e,e2,avEqs_eq (Option.some.inj h2)]
end
end Go.Vai

/- VAI,part X: a region that draws: the facts of its order,and what the one run tells of each operation. -/
namespace Go.Vai
theorem mapM_getL {α β : Type} {f : α→Option β} {l : List α} {ys : List β} (h : l.mapM f = some ys) (i : Nat) (y : β) (hy : ys[i]? = some y) : ∃ x,l[i]? = some x∧f x = some y:=by
 obtain ⟨hl,hg⟩:=mapM_get h
 have hi : i < l.length:=by rw [← hl]; exact lt_of_get hy
 have hx : l[i]? = some l[i]:=List.getElem?_eq_getElem hi
 obtain ⟨y',h1,h2⟩:=hg i _ hx
 rw [h1] at hy; cases hy
 exact ⟨_,hx,h2⟩
/-- The facts of an order. -/
structure OrdOK (b : Array Nat) (ops : Array Oper) (heavy : Nat→Bool) (n : Nat) (l : List Nat) : Prop where
 edge : ∀ j o e,j < n→ops[j]? = some o→e ∈ o.after.toList→Region.binds .any e = true→e.on < n∧(b.getD j 0).testBit e.on = true
 close : ∀ j o i,j < n→ops[j]? = some o→i < n→(b.getD j 0).testBit i = true→∃ e ∈ o.after.toList,Region.binds .any e = true∧(e.on = i ∨ (b.getD e.on 0).testBit i = true)
 slots : ∀ i j oi oj d,i < n→j < n→i ≠ j→ops[i]? = some oi→ops[j]? = some oj→oi.dst = some d→(oj.dst = some d ∨ d ∈ oj.looksAt ops)→(b.getD i 0).testBit j = true ∨ (b.getD j 0).testBit i = true
 len : l.length = n
 all : ∀ i,i < n→∃ p,p < n∧l.getD p 0 = i
 lt : ∀ p,p < n→l.getD p 0 < n
 inj : ∀ p q,p < n→q < n→l.getD p 0 = l.getD q 0→p = q
 ahead : ∀ p q,p < n→q < n→(b.getD (l.getD p 0) 0).testBit (l.getD q 0) = true→q < p
 heavy : ∀ p q,p < n→q < p→heavy (l.getD p 0) = true→(b.getD (l.getD p 0) 0).testBit (l.getD q 0) = true
theorem all_range {n : Nat} {f : Nat→Bool} (h : (List.range n).all f = true) (i : Nat) (hi : i < n) : f i = true:=List.all_eq_true.mp h i (List.mem_range.mpr hi)
theorem ordOK_of {b : Array Nat} {ops : Array Oper} {heavy : Nat→Bool} {n : Nat} {l : List Nat} (h1 : closeOk b ops n = true) (h2 : slotsOk b ops n = true) (h3 : orderOk b heavy n l = true) : OrdOK b ops heavy n l:=by
 unfold orderOk at h3
 rw [Bool.and_eq_true,Bool.and_eq_true] at h3
 obtain ⟨⟨h4,h5⟩,h6⟩:=h3
 have hlen : l.length = n:=by simpa using h4
 have hrow : ∀ p,p < n→Nat.blt (l.getD p 0) n = true∧∀ q,q < n→((!(l.getD p 0 == l.getD q 0) || p == q) && (!(b.getD (l.getD p 0) 0).testBit (l.getD q 0) || Nat.blt q p) && (!(heavy (l.getD p 0) && Nat.blt q p) || (b.getD (l.getD p 0) 0).testBit (l.getD q 0))) = true:=by
  intro p hp
  have:=all_range h6 p hp
  rw [Bool.and_eq_true] at this
  exact ⟨this.1,fun q hq=>all_range this.2 q hq⟩
 refine ⟨?_,?_,?_,hlen,?_,?_,?_,?_,?_⟩
 ·intro j o e hj ho he hb
  have:=all_range h1 j hj
  rw [ho] at this
  rw [Option.elim_some,Bool.and_eq_true] at this
  have:=List.all_eq_true.mp this.1 e he
  rw [hb] at this
  simp only [Bool.not_true,Bool.false_or,Bool.and_eq_true] at this
  exact ⟨Nat.blt_eq.mp this.1,this.2⟩
 ·intro j o i hj ho hi hb
  have:=all_range h1 j hj
  rw [ho] at this
  rw [Option.elim_some,Bool.and_eq_true] at this
  have:=all_range this.2 i hi
  rw [hb] at this
  simp only [Bool.not_true,Bool.false_or] at this
  obtain ⟨e,he,hb2⟩:=List.any_eq_true.mp this
  rw [Bool.and_eq_true,Bool.or_eq_true,beq_iff_eq] at hb2
  exact ⟨e,he,hb2.1,hb2.2⟩
 ·intro i j oi oj d hi hj hij hoi hoj hd hn
  have:=all_range h2 i hi
  rw [hoi] at this
  simp only [Option.bind_some,hd] at this
  have:=all_range this j hj
  rw [hoj] at this
  have hc : (!(oj.dst == some d || (oj.looksAt ops).contains d)) = false:=by
   rw [Bool.not_eq_false',Bool.or_eq_true]
   rcases hn with hn | hn
   ·left; rw [hn]; exact beq_self_eq_true _
   ·right; exact List.contains_iff_mem.mpr hn
  have this : (((i == j || !(oj.dst == some d || (oj.looksAt ops).contains d)) || (b.getD i 0).testBit j) || (b.getD j 0).testBit i) = true:=this
  rw [hc,beq_eq_false_iff_ne.mpr hij] at this
  simp only [Bool.or_false,Bool.false_or,Bool.or_eq_true] at this
  exact this
 ·intro i hi
  have:=all_range h5 i hi
  have hm:=List.contains_iff_mem.mp this
  obtain ⟨p,hp,e⟩:=List.getElem_of_mem hm
  exact ⟨p,by rw [← hlen]; exact hp,by rw [List.getD_eq_getElem?_getD,List.getElem?_eq_getElem hp,e]; rfl⟩
 ·intro p hp
  exact Nat.blt_eq.mp (hrow p hp).1
 ·intro p q hp hq e
  have:=(hrow p hp).2 q hq
  rw [Bool.and_eq_true,Bool.and_eq_true] at this
  have:=this.1.1
  rw [e,beq_self_eq_true] at this
  simpa using this
 ·intro p q hp hq e
  have:=(hrow p hp).2 q hq
  rw [Bool.and_eq_true,Bool.and_eq_true] at this
  have:=this.1.2
  rw [e] at this
  exact Nat.blt_eq.mp (by simpa using this)
 ·intro p q hp hq e
  have:=(hrow p hp).2 q (by omega)
  rw [Bool.and_eq_true,Bool.and_eq_true] at this
  have:=this.2
  rw [e,Nat.blt_eq.mpr hq] at this
  simpa using this
theorem loAt_some (b : Array Nat) (heavy : Nat→Bool) (l : List Nat) (i : Nat) : ∀ n,loAt b heavy l n i = 0 ∨ ∃ q,q < n∧heavy (l.getD q 0) = true∧(b.getD i 0).testBit (l.getD q 0) = true∧loAt b heavy l n i = cntH heavy l (q + 1)
 | 0=>.inl rfl
 | n + 1=>by
  have e : loAt b heavy l (n + 1) i = (if heavy (l.getD n 0) && (b.getD i 0).testBit (l.getD n 0) then cntH heavy l (n + 1) else loAt b heavy l n i):=by
   unfold loAt
   rw [List.range_succ,List.foldl_append]
   rfl
  rw [e]
  by_cases c : (heavy (l.getD n 0) && (b.getD i 0).testBit (l.getD n 0)) = true
  ·rw [if_pos c]
   rw [Bool.and_eq_true] at c
   exact .inr ⟨n,by omega,c.1,c.2,rfl⟩
  ·rw [if_neg c]
   rcases loAt_some b heavy l i n with h | ⟨q,hq,h1,h2,h3⟩
   ·exact .inl h
   ·exact .inr ⟨q,by omega,h1,h2,h3⟩
theorem cntH_mono (heavy : Nat→Bool) (l : List Nat) {m n : Nat} (h : m≤n) : cntH heavy l m≤cntH heavy l n:=by
 unfold cntH
 have : l.take m = (l.take n).take m:=by rw [List.take_take,Nat.min_eq_left h]
 rw [this]
 generalize l.take n = k
 have : (k.filter heavy).length = ((k.take m).filter heavy).length + ((k.drop m).filter heavy).length:=by
  rw [← List.length_append,← List.filter_append,List.take_append_drop]
 omega
/-! The one run. -/
structure DSt where
 fr : Tr AV
 H : Heap
 Gs : List Heap
 n : Nat
 ids : List Pa
abbrev MkR:=Nat × List AV × (Pa→AV)
noncomputable def mkPair (e : Nat) (l : List AV) (f : Pa→AV) : Option MkR:=some (e,l,f)
def pairK (v : AV) (H : Heap) : Option (AV × Heap):=some (v,H)
/-- One operation of the one run. -/
structure DStep (call : Call1) (x : AI × DI) (s : DSt) (v : AV) (w : Bool) (s' : DSt) : Prop where
 want : wantB x.1.g s.fr = some w
 fr : s'.fr = put x.1.d v s.fr
 no : w = false→v = un∧s'.H = s.H
 pure : w = true→x.2.cls = 0→∃ H1,xopK x.1.o (call (AV × Heap)) s.fr s.H pairK = some (v,H1)
 read : w = true→x.2.cls = 1→(∃ H1,xopK x.1.o (call (AV × Heap)) s.fr s.H pairK = some (v,H1))∧readOk x.1.o s.fr v x.2.lo s.Gs s.n = true
 make : w = true→x.2.cls = 2→∃ id e l f,mkK x.1.o s.fr mkPair = some (e,l,f)∧s.ids = id :: s'.ids∧v = f id∧s'.H = s.H.put id (.cells false 0 e l.length (setCells l 0 .leaf))
 heavy : w = true→x.2.cls = 3→xopK x.1.o (call (AV × Heap)) s.fr s.H pairK = some (v,s'.H)
 light : x.2.cls = 0 ∨ x.2.cls = 1→s'.H = s.H∧s'.Gs = s.Gs∧s'.n = s.n∧s'.ids = s.ids
 mid : x.2.cls = 2→s'.Gs = s.Gs∧s'.n = s.n∧∃ id,s.ids = id :: s'.ids
 hard : x.2.cls = 3→s'.Gs = s'.H :: s.Gs∧s'.n = s.n + 1∧s'.ids = s.ids
section
variable {R : Type}
theorem dirK_some {o : AOp} {call : Call1} {fr : Tr AV} {H : Heap} {k : HK R} {r : R} (h : dirK o call fr H k = some r) : ∃ v H',xopK o (call (AV × Heap)) fr H pairK = some (v,H')∧k v H' = some r:=by
 unfold dirK at h
 cases e : xopK o (call (AV × Heap)) fr H pairK with
 | none =>
  have e' : xopK o (call (AV × Heap)) fr H (fun v H=>some (v,H)) = none:=e
  rw [e'] at h; cases h
 | some p =>
  have e' : xopK o (call (AV × Heap)) fr H (fun v H=>some (v,H)) = some p:=e
  rw [e'] at h
  exact ⟨p.1,p.2,rfl,h⟩
theorem cellsK_nat {R' : Type} {v : AV} {c : List AV→Option R} {r : R} (h : cellsK v c = some r) : ∃ l,c l = some r∧∀ (c' : List AV→Option R'),cellsK v c' = c' l:=by
 unfold cellsK at h
 cases ho : oneC v with
 | true=>rw [ho] at h; exact ⟨[v],h,fun c'=>by unfold cellsK; rw [ho]⟩
 | false =>
  rw [ho] at h
  obtain ⟨l,e,h1⟩:=vA_some h
  subst e
  exact ⟨l,h1,fun c'=>by unfold cellsK; rw [ho]; rfl⟩
theorem fillK_nat {R' : Type} {fr : Tr AV} : ∀ {ps : List (Nat × Nat × Opd)} {cs : List AV} {c : List AV→Option R} {r : R},fillK fr ps cs c = some r→∃ l,c l = some r∧∀ (c' : List AV→Option R'),fillK fr ps cs c' = c' l
 | [],cs,c,r,h=>⟨cs,h,fun _=>rfl⟩
 | p :: ps,cs,c,r,h=>by
  have h : (evK fr p.2.2 fun v=>cellsK v fun l=>fill1K p.1 p.2.1 cs l fun cs=>fillK fr ps cs c) = some r:=h
  rw [evK_eq] at h
  obtain ⟨l,h1,h2⟩:=cellsK_nat (R':=R') h
  unfold fill1K at h1
  obtain ⟨g1,h3⟩:=guardK_some h1
  obtain ⟨g2,h4⟩:=guardK_some h3
  rw [layK_eq] at h4
  obtain ⟨l',h5,h6⟩:=fillK_nat (R':=R') h4
  refine ⟨l',h5,fun c'=>?_⟩
  show (evK fr p.2.2 fun v=>cellsK v fun l=>fill1K p.1 p.2.1 cs l fun cs=>fillK fr ps cs c') = _
  rw [evK_eq,h2]
  unfold fill1K
  rw [g1,g2,layK_eq]
  exact h6 c'
theorem mkK_nat {o : AOp} {fr : Tr AV} {g : Nat→List AV→(Pa→AV)→Option R} {r : R} (h : mkK o fr g = some r) : ∃ e l f,mkK o fr mkPair = some (e,l,f)∧g e l f = some r:=by
 cases o <;> first | (cases h; done) | skip
 case new e zs=>exact ⟨_,_,_,rfl,h⟩
 case box e x =>
  have h : evK fr x (fun v=>cellsK v fun l=>g e l fun id=>.p id 0) = some r:=h
  rw [evK_eq] at h
  obtain ⟨l,h1,h2⟩:=cellsK_nat (R':=MkR) h
  refine ⟨_,_,_,?_,h1⟩
  show evK fr x (fun v=>cellsK v fun l=>mkPair e l fun id=>.p id 0) = _
  rw [evK_eq,h2]; rfl
 case bsl e sz len zs ps =>
  obtain ⟨l,h1,h2⟩:=fillK_nat (R':=MkR) h
  exact ⟨_,_,_,h2 _,h1⟩
theorem dOne_some {call : Call1} {x : AI × DI} {s : DSt} {k : DK R} {r : R} (hc : x.2.cls≤3) (h : dOne call x s.fr s.H s.Gs s.n s.ids k = some r) : ∃ s' v w,DStep call x s v w s'∧k s'.fr s'.H s'.Gs s'.n s'.ids = some r:=by
 obtain ⟨⟨d,g,o⟩,⟨cls,lo⟩⟩:=x
 have h : wantK g s.fr (fun w=>Bool.casesOn w (dNo cls d s.fr s.H s.Gs s.n s.ids k) (dYes cls lo o d call s.fr s.H s.Gs s.n s.ids k)) = some r:=h
 rw [wantK_eq] at h
 obtain ⟨w,hw,h1⟩:=bind_some h
 clear h
 cases w with
 | false =>
  have h1 : dNo cls d s.fr s.H s.Gs s.n s.ids k = some r:=h1
  unfold dNo at h1
  rw [putK_eq] at h1
  match cls,hc,h1 with
  | 0,_,h1=>exact ⟨⟨_,s.H,s.Gs,s.n,s.ids⟩,un,false,⟨hw,rfl,fun _=>⟨rfl,rfl⟩,fun e=>(by cases e),fun e=>(by cases e),fun e=>(by cases e),fun e=>(by cases e),fun _=>⟨rfl,rfl,rfl,rfl⟩,fun e=>(by cases e),fun e=>(by cases e)⟩,h1⟩
  | 1,_,h1=>exact ⟨⟨_,s.H,s.Gs,s.n,s.ids⟩,un,false,⟨hw,rfl,fun _=>⟨rfl,rfl⟩,fun e=>(by cases e),fun e=>(by cases e),fun e=>(by cases e),fun e=>(by cases e),fun _=>⟨rfl,rfl,rfl,rfl⟩,fun e=>(by cases e),fun e=>(by cases e)⟩,h1⟩
  | 2,_,h1 =>
   cases hi : s.ids with
   | nil=>rw [hi] at h1; cases h1
   | cons id ids =>
    rw [hi] at h1
    exact ⟨⟨_,s.H,s.Gs,s.n,ids⟩,un,false,⟨hw,rfl,fun _=>⟨rfl,rfl⟩,fun e=>(by cases e),fun e=>(by cases e),fun e=>(by cases e),fun e=>(by cases e),fun e=>(by rcases e with e | e <;> cases e),fun _=>⟨rfl,rfl,id,hi⟩,fun e=>(by cases e)⟩,h1⟩
  | 3,_,h1 =>
   have h1 : forceN (Nat.succ s.n) (fun n=>k (put d un s.fr) s.H (s.H :: s.Gs) n s.ids) = some r:=h1
   rw [forceN_eq] at h1
   exact ⟨⟨_,s.H,s.H :: s.Gs,s.n + 1,s.ids⟩,un,false,⟨hw,rfl,fun _=>⟨rfl,rfl⟩,fun e=>(by cases e),fun e=>(by cases e),fun e=>(by cases e),fun e=>(by cases e),fun e=>(by rcases e with e | e <;> cases e),fun e=>(by cases e),fun _=>⟨rfl,rfl,rfl⟩⟩,h1⟩
  | n + 4,hc,_=>exact absurd hc (by simp)
 | true =>
  have h1 : dYes cls lo o d call s.fr s.H s.Gs s.n s.ids k = some r:=h1
  unfold dYes at h1
  match cls,hc,h1 with
  | 0,_,h1 =>
   obtain ⟨v,H1,h2,h3⟩:=dirK_some h1
   have h3 : putK d v s.fr (fun fr=>k fr s.H s.Gs s.n s.ids) = some r:=h3
   rw [putK_eq] at h3
   exact ⟨⟨_,s.H,s.Gs,s.n,s.ids⟩,v,true,⟨hw,rfl,fun e=>(by cases e),fun _ _=>⟨H1,h2⟩,fun _ e=>(by cases e),fun _ e=>(by cases e),fun _ e=>(by cases e),fun _=>⟨rfl,rfl,rfl,rfl⟩,fun e=>(by cases e),fun e=>(by cases e)⟩,h3⟩
  | 1,_,h1 =>
   obtain ⟨v,H1,h2,h3⟩:=dirK_some h1
   obtain ⟨g1,h3⟩:=guardK_some h3
   rw [putK_eq] at h3
   exact ⟨⟨_,s.H,s.Gs,s.n,s.ids⟩,v,true,⟨hw,rfl,fun e=>(by cases e),fun _ e=>(by cases e),fun _ _=>⟨⟨H1,h2⟩,g1⟩,fun _ e=>(by cases e),fun _ e=>(by cases e),fun _=>⟨rfl,rfl,rfl,rfl⟩,fun e=>(by cases e),fun e=>(by cases e)⟩,h3⟩
  | 2,_,h1 =>
   obtain ⟨e,l,f,h2,h3⟩:=mkK_nat h1
   unfold made2 at h3
   cases hi : s.ids with
   | nil=>rw [hi] at h3; cases h3
   | cons id ids =>
    rw [hi] at h3
    have h3 : setCellsK l 0 .leaf (fun c=>forceN (lenK l) fun m=>s.H.putK id (.cells false 0 e m c) fun H=>putK d (f id) s.fr fun fr=>k fr H s.Gs s.n ids) = some r:=h3
    rw [setCellsK_eq,forceN_eq,Heap.putK_eq,putK_eq,lenK_eq] at h3
    exact ⟨⟨_,_,s.Gs,s.n,ids⟩,f id,true,⟨hw,rfl,fun e=>(by cases e),fun _ e=>(by cases e),fun _ e=>(by cases e),fun _ _=>⟨id,e,l,f,h2,hi,rfl,rfl⟩,fun _ e=>(by cases e),fun e=>(by rcases e with e | e <;> cases e),fun _=>⟨rfl,rfl,id,hi⟩,fun e=>(by cases e)⟩,h3⟩
  | 3,_,h1 =>
   obtain ⟨v,H1,h2,h3⟩:=dirK_some h1
   have h3 : putK d v s.fr (fun fr=>forceN (Nat.succ s.n) fun n=>k fr H1 (H1 :: s.Gs) n s.ids) = some r:=h3
   rw [putK_eq,forceN_eq] at h3
   exact ⟨⟨_,H1,H1 :: s.Gs,s.n + 1,s.ids⟩,v,true,⟨hw,rfl,fun e=>(by cases e),fun _ e=>(by cases e),fun _ e=>(by cases e),fun _ e=>(by cases e),fun _ _=>h2,fun e=>(by rcases e with e | e <;> cases e),fun e=>(by cases e),fun _=>⟨rfl,rfl,rfl⟩⟩,h3⟩
  | n + 4,hc,_=>exact absurd hc (by simp)
theorem draw_trace {call : Call1} {k : Tr AV→Heap→Option R} {r : R} : ∀ (xs : List (AI × DI)) (s : DSt),(∀ x ∈ xs,x.2.cls≤3)→drawK call xs s.fr s.H s.Gs s.n s.ids k = some r →
  ∃ (S : Nat→DSt) (V : Nat→AV) (W : Nat→Bool),S 0 = s∧(∀ p x,xs[p]? = some x→DStep call x (S p) (V p) (W p) (S (p + 1)))∧k (S xs.length).fr (S xs.length).H = some r
 | [],s,_,h=>⟨fun _=>s,fun _=>un,fun _=>false,rfl,fun p x hx=>by simp at hx,h⟩
 | x :: xs,s,hc,h=>by
  have h : dOne call x s.fr s.H s.Gs s.n s.ids (fun fr H Gs n ids=>drawK call xs fr H Gs n ids k) = some r:=h
  obtain ⟨s1,v,w,h1,h2⟩:=dOne_some (hc x (List.mem_cons_self ..)) h
  obtain ⟨S,V,W,h3,h4,h5⟩:=draw_trace xs s1 (fun y hy=>hc y (List.mem_cons_of_mem _ hy)) h2
  refine ⟨fun p=>match p with | 0=>s | p + 1=>S p,fun p=>match p with | 0=>v | p + 1=>V p,fun p=>match p with | 0=>w | p + 1=>W p,rfl,fun p y hy=>?_,h5⟩
  cases p with
  | zero =>
   simp at hy
   subst hy
   show DStep call x s v w (S 0)
   rw [h3]; exact h1
  | succ p=>exact h4 p y (by simpa using hy)
end
end Go.Vai

/- VAI,part Y: a region that draws: memory that waits. -/
namespace Go.Vai
section
variable {P : Program} {pr pr' : Pr} {ng : Nat} {ι : Emb} {H : Heap} {h : Array Obj}
/-- Less is left alone. -/
theorem Rel.weaken (R : Rel pr' ng ι H h) (hp : ∀ b,pr b→pr' b) (hh : ∀ b,pr.hard b→pr'.hard b) (hr : ∀ a,pr.res a→pr'.res a) : Rel pr ng ι H h:=by
 refine ⟨R.fresh,R.freshH,fun a=>?_,R.sep,R.lt,fun b hb=>R.prot b (hp b hb),R.glob,fun a ha=>R.resv a (hr a ha)⟩
 have:=R.dom a
 cases hb : H.get a with
 | dead=>trivial
 | cells ro fz e size c =>
  rw [hb] at this
  obtain ⟨j,h1,⟨h2,cs,e',f,h3,h4,h5,h6,h7,h8⟩,h9⟩:=this
  exact ⟨j,h1,⟨h2,cs,e',f,h3,h4,h5,h6,h7,fun e=>⟨fun q=>(h8 e).1 (hp _ q),(h8 e).2⟩⟩,fun q=>h9 (hh _ q)⟩
 | iter len n pos =>
  rw [hb] at this
  obtain ⟨j,h1,h2,h3,h4⟩:=this
  exact ⟨j,h1,h2,fun q=>h3 (hp _ q),h4⟩
theorem Fr.weaken {w w' : World} (F : Fr pr' w w') (hp : ∀ b,pr b→pr' b) : Fr pr w w':=⟨F.os,F.tape,F.output,F.size,fun b hb=>F.keep b (hp b hb)⟩
/-- An id that no place is known of is dead. -/
theorem Rel.dead_of_none (R : Rel pr ng ι H h) {a : Pa} (ha : ι a = none) : H.get a = .dead:=by
 have:=R.dom a
 cases hb : H.get a with
 | dead=>rfl
 | cells ro fz e size c=>rw [hb] at this; obtain ⟨j,h1,_⟩:=this; rw [ha] at h1; cases h1
 | iter len n pos=>rw [hb] at this; obtain ⟨j,h1,_⟩:=this; rw [ha] at h1; cases h1
/-- An id whose block is held back is dead. -/
theorem Rel.dead_of_hard (R : Rel pr ng ι H h) {a : Pa} {j : Inj} (ha : ι a = some j) (hj : pr.hard j.blk) : H.get a = .dead:=by
 have:=R.dom a
 cases hb : H.get a with
 | dead=>rfl
 | cells ro fz e size c=>rw [hb] at this; obtain ⟨j',h1,_,h2⟩:=this; rw [ha] at h1; cases h1; exact (h2 hj).elim
 | iter len n pos=>rw [hb] at this; obtain ⟨j',h1,_,h2,_⟩:=this; rw [ha] at h1; cases h1; exact (h2 (.inr hj)).elim
/-- Ids that are kept. -/
theorem Rel.reserve {nx nx' : Pa} {t : Tr Blk} (R : Rel pr ng ι ⟨nx,t⟩ h) (hle : nx.toN≤nx'.toN) (hs : pr'.soft = pr.soft) (hh : pr'.hard = pr.hard) (hr : ∀ a,pr'.res a→pr.res a ∨ (nx.toN≤a.toN∧a.toN < nx'.toN)) : Rel pr' ng ι ⟨nx',t⟩ h:=by
 have hpr : ∀ b,pr' b→pr b:=fun b hb=>by
  rcases hb with q | q
  ·rw [hs] at q; exact .inl q
  ·rw [hh] at q; exact .inr q
 have R' : Rel (⟨pr.soft,pr.hard,pr.res,pr.ds⟩ : Pr) ng ι ⟨nx',t⟩ h:=⟨fun a ha=>R.fresh a (Nat.le_trans hle ha),fun a ha=>R.freshH a (Nat.le_trans hle ha),R.dom,R.sep,R.lt,R.prot,R.glob,fun a ha=>⟨(R.resv a ha).1,Nat.lt_of_lt_of_le (R.resv a ha).2 hle⟩⟩
 have R2 : Rel (⟨pr'.soft,pr'.hard,pr.res,pr'.ds⟩ : Pr) ng ι ⟨nx',t⟩ h:=R'.weaken hpr (fun b q=>by rw [← hh]; exact q) (fun _ q=>q)
 refine ⟨R2.fresh,R2.freshH,R2.dom,R2.sep,R2.lt,R2.prot,R2.glob,fun a ha=>?_⟩
 rcases hr a ha with q | ⟨q1,q2⟩
 ·exact R2.resv a q
 ·exact ⟨R.fresh a q1,q2⟩
/-- A new row of the model's that waits. -/
theorem Rel.pend (R : Rel pr ng ι H h) {id : Pa} (hid : ι id = none) (hlt : id.toN < H.next.toN) (o : Obj) (n m : Nat) (hs : pr'.soft = pr.soft) (hh : ∀ b,pr'.hard b→pr.hard b ∨ b = h.size) (hr : ∀ a,pr'.res a→pr.res a∧a ≠ id) :
  Rel pr' ng (ι.add id ⟨h.size,0,n,m⟩) H (h.push o):=by
 have hext:=Ext.add (ι:=ι) ⟨h.size,0,n,m⟩ hid
 have hdead:=R.dead_of_none hid
 have hpr : ∀ b,b ≠ h.size→pr' b→pr b:=fun b hb q=>by
  rcases q with q | q
  ·rw [hs] at q; exact .inl q
  ·exact .inr ((hh b q).resolve_right hb)
 refine ⟨fun a ha=>?_,R.freshH,fun a=>?_,fun a b j k hab hwa hab' hka hkb=>?_,fun a k hk=>?_,fun b hb=>?_,fun g hg=>?_,fun a ha=>?_⟩
 ·rw [Emb.add_ne _ _ (fun e=>by subst e; omega)]
  exact R.fresh a ha
 ·by_cases e : a = id
  ·subst e; rw [hdead]; trivial
  ·rw [Emb.add_ne _ _ e]
   have:=R.dom a
   cases hb : H.get a with
   | dead=>trivial
   | cells ro fz e' size c =>
    rw [hb] at this
    obtain ⟨j,h1,hc,h9⟩:=this
    have hl:=R.lt _ _ h1
    have hne : j.blk ≠ h.size:=Nat.ne_of_lt hl
    obtain ⟨h2,cs,e'',f,h3,h4,h5,h6,h7,h8⟩:=hc
    exact ⟨j,h1,⟨h2,cs,e'',f,by simp [Array.getElem?_push,hne,h3],h4,h5,h6,fun i hi=>let ⟨v,q1,q2⟩:=h7 i hi; ⟨v,q1,VR_mono hext _ _ q2⟩,fun q=>⟨fun q'=>(h8 q).1 (hpr _ hne q'),(h8 q).2⟩⟩,fun q=>h9 ((hh _ q).resolve_right hne)⟩
   | iter len n pos =>
    rw [hb] at this
    obtain ⟨j,h1,h2,h3,s,h4,h5⟩:=this
    have hl:=R.lt _ _ h1
    have hne : j.blk ≠ h.size:=Nat.ne_of_lt hl
    exact ⟨j,h1,h2,fun q=>h3 (hpr _ hne q),s,by simp [Array.getElem?_push,hne,h4],h5⟩
 ·have ha : a ≠ id:=fun e=>by subst e; rw [hdead] at hwa; cases hwa
  have hb : b ≠ id:=fun e=>by subst e; rw [hdead] at hab'; cases hab'
  rw [Emb.add_ne _ _ ha] at hka
  rw [Emb.add_ne _ _ hb] at hkb
  exact R.sep a b j k hab hwa hab' hka hkb
 ·by_cases e : a = id
  ·subst e; rw [Emb.add_same] at hk; cases hk; simp
  ·rw [Emb.add_ne _ _ e] at hk
   rw [Array.size_push]
   exact Nat.lt_succ_of_lt (R.lt a k hk)
 ·rw [Array.size_push]
  by_cases e : b = h.size
  ·omega
  ·exact Nat.lt_succ_of_lt (R.prot b (hpr b e hb))
 ·obtain ⟨n',m',e⟩:=R.glob g hg
  exact ⟨n',m',hext _ _ e⟩
 ·obtain ⟨q1,q2⟩:=hr a ha
  rw [Emb.add_ne _ _ q2]
  exact R.resv a q1
/-- A block that waits. -/
structure Pend (ι : Emb) (h : Array Obj) (pr : Pr) (id : Pa) (l : List AV) (e k : Nat) : Prop where
 at_ : ι id = some ⟨k,0,l.length,l.length⟩
 obj : ∃ cs : Array Value,h[k]? = some (.cells cs e (0,0))∧cs.size = l.length∧VRs ι l cs.toList
 soft : ¬ pr.soft k
 hard : ¬ pr.hard k
theorem Pend.mono {ι' : Emb} {h' : Array Obj} {id : Pa} {l : List AV} {e k : Nat} (p : Pend ι h pr id l e k) (hx : Ext ι ι') (hh : h'[k]? = h[k]?) : Pend ι' h' pr id l e k:=by
 obtain ⟨cs,h1,h2,h3⟩:=p.obj
 exact ⟨hx _ _ p.at_,⟨cs,hh.trans h1,h2,VRs_mono hx _ _ h3⟩,p.soft,p.hard⟩
/-- A block that waited is laid open. -/
theorem Rel.open_ (R : Rel pr' ng ι H h) {id : Pa} {l : List AV} {e k : Nat} (p : Pend ι h pr id l e k) (hk : pr'.hard k) (hs : pr'.soft = pr.soft) {pr2 : Pr} (h2s : pr2.soft = pr'.soft) (h2h : ∀ b,pr2.hard b→pr'.hard b∧b ≠ k) (h2r : ∀ a,pr2.res a→pr'.res a) :
  Rel pr2 ng ι (H.put id (.cells false 0 e l.length (setCells l 0 .leaf))) h:=by
 have hdead:=R.dead_of_hard p.at_ hk
 have hlt:=R.lt_next p.at_
 have R2 : Rel pr2 ng ι H h:=R.weaken (fun b q=>by
  rcases q with q | q
  ·rw [h2s] at q; exact .inl q
  ·exact .inr (h2h b q).1) (fun b q=>(h2h b q).1) h2r
 have hfree : ∀ b j,b ≠ id→(H.get b).alive = true→ι b = some j→j.blk ≠ k:=by
  intro b j hb hal hj e'
  have:=R.dom b
  cases hb' : H.get b with
  | dead=>rw [hb'] at hal; cases hal
  | cells ro fz e size c=>rw [hb'] at this; obtain ⟨j',h1,_,h2⟩:=this; rw [hj] at h1; cases h1; rw [e'] at h2; exact h2 hk
  | iter len n pos=>rw [hb'] at this; obtain ⟨j',h1,_,h2,_⟩:=this; rw [hj] at h1; cases h1; rw [e'] at h2; exact h2 (.inr hk)
 obtain ⟨cs,ho,hsz,hv⟩:=p.obj
 refine ⟨R2.fresh,fun a ha=>?_,fun a=>?_,fun a b j q hab hwa hal hj hq=>?_,R2.lt,R2.prot,R2.glob,R2.resv⟩
 ·have : (H.put id (.cells false 0 e l.length (setCells l 0 .leaf))).next.toN = H.next.toN:=rfl
  rw [Heap.get_put,if_neg (by intro e; subst e; omega)]
  exact R2.freshH a (by omega)
 ·rw [Heap.get_put]
  by_cases ea : id = a
  ·subst ea
   rw [if_pos rfl,p.at_]
   have npr : ¬ pr2 k:=fun q=>by
    rcases q with q | q
    ·rw [h2s,hs] at q; exact p.soft q
    ·exact (h2h k q).2 rfl
   refine ⟨_,rfl,CR.of ι pr2 false 0 e e l _ ⟨k,0,l.length,l.length⟩ h cs (0,0) rfl ho (fun _=>⟨rfl,rfl⟩) hsz.symm (by show 0 + l.length≤l.length; omega) (fun i x hx=>?_) (fun i x hx=>?_) (fun _=>⟨npr,fun i _ _=>by simp⟩),fun q=>npr (.inr q)⟩
   ·have hi:=lt_of_get hx
    rw [setCells_get,if_pos ⟨by omega,by omega⟩,Nat.sub_zero,hx]; rfl
   ·obtain ⟨y,hy,hvy⟩:=VRs_get hv i x hx
    rw [Array.getElem?_toList] at hy
    exact ⟨y,by show cs[0 + i]? = _; rw [Nat.zero_add]; exact hy,hvy⟩
  ·rw [if_neg ea]; exact R2.dom a
 ·rw [Heap.get_put] at hwa hal
  by_cases ea : id = a
  ·subst ea
   rw [p.at_] at hj; cases hj
   rw [if_neg hab] at hal
   exact fun e'=>hfree b q (Ne.symm hab) hal hq e'.symm
  ·rw [if_neg ea] at hwa
   by_cases eb : id = b
   ·subst eb
    rw [p.at_] at hq; cases hq
    have hala : (H.get a).alive = true:=by revert hwa; cases H.get a <;> simp [Blk.wr,Blk.alive]
    exact hfree a j (Ne.symm ea) hala hj
   ·rw [if_neg eb] at hal
    exact R2.sep a b j q hab hwa hal hj hq
end
end Go.Vai

/- VAI,part Z: a region that draws: frames,new rows. -/
namespace Go.Vai
section
variable {R : Type} {P : Program} {pr : Pr} {ι : Emb} {H : Heap} {fr : Tr AV} {a : Act} {w : World}
theorem cls2_inv {o : Oper} {q : AOp} (hq : compOp P o = some q) (h2 : makes o.op = true) :
  (∃ e zs,o.op = .alloc e∧zeroOf P e = some zs∧q = .new e zs) ∨ (∃ e x x',o.op = .box e x∧compOpd P x = some x'∧q = .box e x') ∨
  ∃ t len ps el n zs ps',o.op = .buildSlice t len ps∧P.underlying t = some (.slice el)∧zeroOf P el = some zs∧szOf P el = some (n + 1)∧len * (n + 1)≤2 ^ 24∧zs.length = n + 1 ∧
   compParts P (fun i=>some (i * (n + 1),n + 1)) ps.toList = some ps'∧q = .bsl el (n + 1) len (repK zs len) ps':=by
 cases ho : o.op
 case alloc e =>
  unfold compOp at hq; rw [ho] at hq
  obtain ⟨zs,hz,e'⟩:=map_some hq
  exact .inl ⟨e,zs,rfl,hz,e'.symm⟩
 case box e x =>
  unfold compOp at hq; rw [ho] at hq
  obtain ⟨x',hx,e'⟩:=map_some hq
  exact .inr (.inl ⟨e,x,x',rfl,hx,e'.symm⟩)
 case buildSlice t len ps =>
  unfold compOp at hq; rw [ho] at hq
  have hq : (match P.underlying t with
   | some (.slice e)=>match zeroOf P e,szOf P e with
    | some zs,some (n + 1)=>if len * (n + 1)≤2 ^ 24∧zs.length = n + 1 then (compParts P (fun i=>some (i * (n + 1),n + 1)) ps.toList).map fun ps=>.bsl e (n + 1) len (repK zs len) ps else none
    | _,_=>none
   | _=>none) = some q:=hq
  split at hq
  ·rename_i el ht
   split at hq
   ·rename_i zs n hz hn
    obtain ⟨⟨h3,h4⟩,h5⟩:=ite_none' hq
    obtain ⟨ps',hp,e⟩:=map_some h5
    exact .inr (.inr ⟨t,len,ps,el,n,zs,ps',rfl,ht,hz,hn,h3,h4,hp,e.symm⟩)
   ·cases hq
  ·cases hq
 all_goals
  rw [ho] at h2; cases h2
/-- A new row,made by an operation of class 2: what it leaves. -/
theorem mk_ok (C : Ctx P pr ι H fr a w) {o : Oper} {q : AOp} (hq : compOp P o = some q) (h2 : makes o.op = true) {e : Nat} {l : List AV} {f : Pa→AV} (h : mkK q fr mkPair = some (e,l,f)) :
  ∃ (cs : Array Value) (v' : Value),(execOp a.eval o).run P w = .ok (.value v') (w.alloc (.cells cs e))∧cs.size = l.length∧VRs ι l cs.toList ∧
   ∀ (ι' : Emb) (id : Pa),ι' id = some ⟨w.heap.size,0,l.length,l.length⟩→VR ι' (f id) v':=by
 rcases cls2_inv hq h2 with ⟨t,zs,ho,hz,e'⟩ | ⟨t,x,x',ho,hx,e'⟩ | ⟨t,len,ps,el,n,zs,ps',ho,ht,hz,hn,hlim,hzl,hps,e'⟩
 ·subst e'
  have h : mkPair t zs (fun id=>AV.p id 0) = some (e,l,f):=h
  cases h
  obtain ⟨z,hrun,hzs⟩:=zero_ok (w:=w) hz ι
  have hlen:=VRs_length hzs
  refine ⟨z.cells,.pointer (some ⟨w.heap.size,0,none⟩),?_,by simpa using hlen,hzs,fun ι' id hid=>⟨_,hid,rfl⟩⟩
  unfold execOp; rw [ho]
  simp [Instr.alloc,hrun,newVar,newRow]
 ·subst e'
  have h : evK fr x' (fun v=>cellsK v fun l=>mkPair t l fun id=>AV.p id 0) = some (e,l,f):=h
  rw [evK_eq] at h
  obtain ⟨l',h1,hl⟩:=cellsK_ok (C.opd hx) h
  cases h1
  have hlen:=VRs_length hl
  refine ⟨(a.eval x).cells,.pointer (some ⟨w.heap.size,0,none⟩),?_,by simpa using hlen,hl,fun ι' id hid=>⟨_,hid,rfl⟩⟩
  unfold execOp; rw [ho]
  simp [Instr.box,newVar,newRow]
 ·subst e'
  obtain ⟨z,hrun,hzs⟩:=zero_ok (w:=w) hz ι
  have hrep:=rep_ok hzs len
  rw [hzl] at hrep
  have h : fillK fr ps' (repK zs len) (fun l=>mkPair el l fun id=>AV.sl id 0 len (some len) (n + 1)) = some (e,l,f):=h
  obtain ⟨ys,h1,hyl,cs,hfill,hys⟩:=fill_ok C ps.toList ps' _ _ _ _ hps hrep h
  cases h1
  rw [repK_length,hzl] at hyl
  have hlen:=VRs_length hys
  have hcs : cs.size = len * (n + 1):=by simpa [hyl] using hlen
  refine ⟨cs,.slice (some ⟨w.heap.size,0,none⟩) len len,?_,by rw [hcs,hyl],hys,fun ι' id hid=>⟨_,len,_,rfl,hid,Nat.le_refl _,fun q e=>?_,fun e=>(by cases e),.inr rfl,?_,?_⟩⟩
  ·have hfl : Instr.fill (fun i=>some (i * (n + 1),n + 1)) ((Array.range (len * (n + 1))).map (z.cells[· % z.cells.size]!)) (ps.map fun (i,x)=>(i,a.eval x)).toList = some cs:=by
    rw [Array.toList_map]; exact hfill
   have hnl : ¬ (len * (n + 1) > 2 ^ 24):=by omega
   unfold execOp; rw [ho]
   show Sem.run P (do pure (Next.value (← Instr.buildSlice t len (ps.map fun (i,x)=>(i,a.eval x))))) w = _
   by_cases h0 : len * (n + 1) = 0
   ·have er : ∀ f : Nat→Value,(Array.range 0).map f = #[]:=fun f=>by simp
    rw [h0,er] at hfl
    simp only [Instr.buildSlice,Sem.run_bind,run_underlying ht,Result.andThen_ok,run_size hn,h0,if_true,er,hfl]
    rfl
   ·simp only [Instr.buildSlice,Sem.run_bind,run_underlying ht,Result.andThen_ok,run_size hn,hnl,if_false,h0,hrun,Sem.run_pure,hfl]
    rfl
  ·cases e
   refine ⟨rfl,?_⟩
   show 0 + len * (n + 1)≤l.length
   omega
  ·show 0 + 0 + len * (n + 1)≤l.length
   omega
  ·show 0 + len * (n + 1)≤l.length
   omega
theorem mk_congr {fr' : Tr AV} {q : AOp} (h : ∀ x ∈ q.opds,ev fr x = ev fr' x) (g : Nat→List AV→(Pa→AV)→Option R) : mkK q fr g = mkK q fr' g:=by
 cases q <;> try rfl
 case box e x =>
  show evK fr x _ = evK fr' x _
  rw [evK_eq,evK_eq,h x (by simp [AOp.opds])]
 case bsl e sz len zs ps=>exact fillK_congr ps _ _ h
/-! The abstract frame behind those that were done,in the one order. -/
noncomputable def frL (L : Nat→Bool) (d : Nat→Option Pa) (V : Nat→AV) (fr0 : Tr AV) : Nat→Tr AV
 | 0=>fr0
 | m + 1=>Bool.casesOn (L m) (frL L d V fr0 m) (put (d m) (V m) (frL L d V fr0 m))
theorem put_get (d : Option Pa) (v : AV) (fr : Tr AV) (q : Pa) : Tr.get un (put d v fr) q = if d = some q then v else Tr.get un fr q:=by
 cases d with
 | none=>rw [if_neg (by simp)]; rfl
 | some p =>
  show Tr.get un (Tr.set un v fr p) q = _
  rw [Tr.get_set]
  by_cases e : p = q
  ·rw [if_pos e,if_pos (by rw [e])]
  ·rw [if_neg e,if_neg (fun e'=>e (Option.some.inj e'))]
theorem frL_congr {L L' : Nat→Bool} {d : Nat→Option Pa} {V : Nat→AV} {fr0 : Tr AV} {q : Pa} : ∀ m,(∀ p,p < m→d p = some q→L p = L' p)→Tr.get un (frL L d V fr0 m) q = Tr.get un (frL L' d V fr0 m) q
 | 0,_=>rfl
 | m + 1,h=>by
  have ih:=frL_congr (L:=L) (L':=L') (d:=d) (V:=V) (fr0:=fr0) (q:=q) m fun p hp=>h p (by omega)
  have step : ∀ (L : Nat→Bool),Tr.get un (frL L d V fr0 (m + 1)) q = if L m = true∧d m = some q then V m else Tr.get un (frL L d V fr0 m) q:=by
   intro L
   show Tr.get un (Bool.casesOn (L m) (frL L d V fr0 m) (put (d m) (V m) (frL L d V fr0 m))) q = _
   cases L m with
   | false=>rw [if_neg (by simp)]
   | true =>
    show Tr.get un (put (d m) (V m) (frL L d V fr0 m)) q = _
    rw [put_get]
    by_cases e : d m = some q
    ·rw [if_pos e,if_pos ⟨rfl,e⟩]
    ·rw [if_neg e,if_neg (fun e'=>e e'.2)]
  rw [step,step,ih]
  by_cases e : d m = some q
  ·rw [h m (by omega) e]
  ·rw [if_neg (fun e'=>e e'.2),if_neg (fun e'=>e e'.2)]
theorem frL_cut {L : Nat→Bool} {d : Nat→Option Pa} {V : Nat→AV} {fr0 : Tr AV} {q : Pa} {m : Nat} : ∀ k,(∀ p,m≤p→p < m + k→d p = some q→L p = false)→Tr.get un (frL L d V fr0 (m + k)) q = Tr.get un (frL L d V fr0 m) q
 | 0,_=>rfl
 | k + 1,h=>by
  have ih:=frL_cut (L:=L) (d:=d) (V:=V) (fr0:=fr0) (q:=q) (m:=m) k fun p h1 h2=>h p h1 (by omega)
  rw [← ih]
  show Tr.get un (Bool.casesOn (L (m + k)) (frL L d V fr0 (m + k)) (put (d (m + k)) (V (m + k)) (frL L d V fr0 (m + k)))) q = _
  cases e : L (m + k) with
  | false=>rfl
  | true =>
   show Tr.get un (put (d (m + k)) (V (m + k)) (frL L d V fr0 (m + k))) q = _
   rw [put_get,if_neg]
   intro e'
   rw [h (m + k) (by omega) (by omega) e'] at e
   cases e
end
end Go.Vai

/- VAI,part a: a region that draws: its operations by their places in the one order. -/
namespace Go.Vai
/-- A region that draws,and its one run,by places. -/
structure Rg (P : Program) (call : Call1) (n : Nat) (ops : Array Oper) where
 I : Nat→Nat
 O : Nat→Oper
 X : Nat→AI × DI
 S : Nat→DSt
 V : Nat→AV
 W : Nat→Bool
 hang : Nat→Nat→Prop
 lt : ∀ p,p < ops.size→I p < ops.size
 op : ∀ p,p < ops.size→ops[I p]? = some (O p)
 pos : ∀ i,i < ops.size→∃ p,p < ops.size∧I p = i
 inj : ∀ p q,p < ops.size→q < ops.size→I p = I q→p = q
 edge : ∀ p e,p < ops.size→e ∈ (O p).after.toList→Region.binds .any e = true→∃ q,q < ops.size∧e.on = I q∧hang p q
 close : ∀ p q,p < ops.size→q < ops.size→hang p q→∃ e ∈ (O p).after.toList,Region.binds .any e = true∧∃ t,t < ops.size∧e.on = I t∧(t = q ∨ hang t q)
 slots : ∀ p q d,p < ops.size→q < ops.size→p ≠ q→(O p).dst = some d→((O q).dst = some d ∨ d ∈ (O q).looksAt ops)→hang p q ∨ hang q p
 ahead : ∀ p q,p < ops.size→q < ops.size→hang p q→q < p
 heavy : ∀ p q,p < ops.size→q < p→(X p).2.cls = 3→hang p q
 dst : ∀ p,p < ops.size→compDst n (O p).dst = some (X p).1.d
 comp : ∀ p,p < ops.size→(X p).1.o = (compOp P (O p)).getD .bad
 guard : ∀ p,p < ops.size→((O p).guard = none∧(X p).1.g = none) ∨ ∃ j want t,(O p).guard = some (j,want)∧(ops[j]?).bind (·.dst) = some t∧t < n∧(X p).1.g = some (toPa t,want)
 cls : ∀ p,p < ops.size→(X p).2.cls = clsOf (X p).1.o
 cls3 : ∀ p,p < ops.size→(X p).2.cls≤3
 makes : ∀ p,p < ops.size→(X p).2.cls = 2→Vai.makes (O p).op = true
 looks : ∀ p x,p < ops.size→x ∈ (X p).1.o.opds→∀ pa,x = .t pa→∃ t ∈ (O p).looksAt ops,pa = toPa t
 step : ∀ p,p < ops.size→DStep call (X p) (S p) (V p) (W p) (S (p + 1))
 lo : ∀ p,p < ops.size→loOf (X p).2.lo = 0 ∨ ∃ q,q < ops.size∧(X q).2.cls = 3∧hang p q∧loOf (X p).2.lo = (S (q + 1)).n
 home : ∀ p,p < ops.size→HM≤(X p).2.lo→isLd (O p).op = true∧∀ m,m < p→(X m).2.cls = 2→(S m).n = (S p).n→hang p m
theorem clsOf_le (o : AOp) : clsOf o≤3:=by unfold clsOf; split <;> omega
section
variable {P : Program} {call : Call1} {n : Nat} {ops : Array Oper} (G : Rg P call n ops)
/-- Listed,by places. -/
def Rg.L (listed : Array Bool) (p : Nat) : Bool:=listed.getD (G.I p) false
def Rg.d (p : Nat) : Option Pa:=(G.X p).1.d
/-- An id that was kept for a place. -/
def Rg.id (p : Nat) : Pa:=(G.S p).ids.headD .h
noncomputable def Rg.fr (listed : Array Bool) (m : Nat) : Tr AV:=frL (G.L listed) G.d G.V (G.S 0).fr m
theorem Rg.fr_all : ∀ m,m≤ops.size→(G.S m).fr = frL (fun _=>true) G.d G.V (G.S 0).fr m
 | 0,_=>rfl
 | m + 1,h=>by
  rw [(G.step m (by omega)).fr,Rg.fr_all m (by omega)]
  rfl
/-- What is listed is closed. -/
def Rg.Closed (listed : Array Bool) : Prop:=∀ p q,p < ops.size→q < ops.size→G.L listed p = true→G.hang p q→G.L listed q = true
theorem Rg.ready_hang {listed : Array Bool} (hc : G.Closed listed) {p : Nat} (hp : p < ops.size) (hr : G.I p ∈ Region.ready .any ops listed) {q : Nat} (hq : q < ops.size) (hh : G.hang p q) : G.L listed q = true:=by
 obtain ⟨_,o,ho,hall⟩:=mem_ready.mp hr
 rw [G.op p hp] at ho; cases ho
 obtain ⟨e,he,hb,t,ht,h1,h2⟩:=G.close p q hp hq hh
 have:=hall e (Array.mem_toList_iff.mp he) hb
 rw [h1] at this
 rcases h2 with h2 | h2
 ·subst h2; exact this
 ·exact hc t q ht hq this h2
/-- The slots that an operation names are,when it comes,as they were in the one run. -/
theorem Rg.slot {listed : Array Bool} (hc : G.Closed listed) {p : Nat} (hp : p < ops.size) (hr : G.I p ∈ Region.ready .any ops listed) (hn : G.L listed p = false) {t : Tmp} (ht : (G.O p).dst = some t ∨ t ∈ (G.O p).looksAt ops) :
  (∀ q,p≤q→q < ops.size→G.d q = some (toPa t)→G.L listed q = false)∧Tr.get un (G.fr listed ops.size) (toPa t) = Tr.get un (G.S p).fr (toPa t):=by
 have hd : ∀ q,q < ops.size→G.d q = some (toPa t)→(G.O q).dst = some t:=by
  intro q hq e
  have h1:=G.dst q hq
  have e : (G.X q).1.d = some (toPa t):=e
  rw [e] at h1
  cases h2 : (G.O q).dst with
  | none=>rw [h2] at h1; cases h1
  | some t' =>
   rw [h2] at h1
   obtain ⟨_,h3⟩:=ite_none h1
   have:=toPa_inj (Option.some.inj h3)
   rw [this]
 have later : ∀ q,p≤q→q < ops.size→G.d q = some (toPa t)→G.L listed q = false:=by
  intro q hpq hq e
  by_cases hqp : q = p
  ·subst hqp; exact hn
  ·rcases G.slots q p t hq hp hqp (hd q hq e) ht with h1 | h1
   ·cases hL : G.L listed q with
    | false=>rfl
    | true=>have:=hc q p hq hp hL h1; rw [hn] at this; cases this
   ·have:=G.ahead p q hp hq h1; omega
 refine ⟨later,?_⟩
 have h1 : Tr.get un (G.fr listed ops.size) (toPa t) = Tr.get un (G.fr listed p) (toPa t):=by
  have:=frL_cut (L:=G.L listed) (d:=G.d) (V:=G.V) (fr0:=(G.S 0).fr) (q:=toPa t) (m:=p) (ops.size - p) (fun q h1 h2 h3=>later q h1 (by omega) h3)
  rw [show p + (ops.size - p) = ops.size by omega] at this
  exact this
 rw [h1,G.fr_all p (by omega)]
 refine frL_congr p fun q hq e=>?_
 have hqN : q < ops.size:=by omega
 rcases G.slots q p t hqN hp (by omega) (hd q hqN e) ht with h2 | h2
 ·have:=G.ahead q p hqN hp h2; omega
 ·exact G.ready_hang hc hp hr hqN h2
theorem Rg.L_set {listed : Array Bool} (hs : listed.size = ops.size) {p : Nat} (hp : p < ops.size) (q : Nat) (hq : q < ops.size) : G.L (listed.setIfInBounds (G.I p) true) q = (if q = p then true else G.L listed q):=by
 unfold Rg.L
 by_cases e : q = p
 ·subst e
  rw [if_pos rfl]
  have : G.I q < listed.size:=by rw [hs]; exact G.lt q hq
  simp [this]
 ·rw [if_neg e]
  exact getD_set_ne false fun e'=>e (G.inj p q hp hq e').symm
theorem Rg.closed_set {listed : Array Bool} (hs : listed.size = ops.size) (hc : G.Closed listed) {p : Nat} (hp : p < ops.size) (hr : G.I p ∈ Region.ready .any ops listed) : G.Closed (listed.setIfInBounds (G.I p) true):=by
 intro q t hq ht h1 h2
 rw [G.L_set hs hp _ hq] at h1
 rw [G.L_set hs hp _ ht]
 split
 ·rfl
 ·split at h1
  ·rename_i e; subst e; exact G.ready_hang hc hp hr ht h2
  ·exact hc q t hq ht h1 h2
/-- The frame behind an operation. -/
theorem Rg.fr_set {listed : Array Bool} (hs : listed.size = ops.size) (hc : G.Closed listed) {p : Nat} (hp : p < ops.size) (hr : G.I p ∈ Region.ready .any ops listed) (hn : G.L listed p = false) {ι : Emb} {a : Act} {v' : Value}
  (hfr : FR ι (G.fr listed ops.size) a) (hsz : n≤a.tmps.size) (hv : VR ι (G.V p) v') : FR ι (G.fr (listed.setIfInBounds (G.I p) true) ops.size) (a.put (G.O p).dst v'):=by
 have hput : FR ι (put (G.d p) (G.V p) (G.fr listed ops.size)) (a.put (G.O p).dst v'):=by
  have hd:=G.dst p hp
  cases h2 : (G.O p).dst with
  | none =>
   rw [h2] at hd
   have : G.d p = none:=(Option.some.inj hd).symm
   rw [this]
   exact hfr
  | some t =>
   rw [h2] at hd
   obtain ⟨h3,h4⟩:=ite_none hd
   have : G.d p = some (toPa t):=h4.symm
   rw [this]
   exact hfr.put (Nat.lt_of_lt_of_le h3 hsz) hv
 intro t
 have:=hput t
 have e : Tr.get un (G.fr (listed.setIfInBounds (G.I p) true) ops.size) (toPa t) = Tr.get un (put (G.d p) (G.V p) (G.fr listed ops.size)) (toPa t):=by
  rw [put_get]
  by_cases hd : G.d p = some (toPa t)
  ·rw [if_pos hd]
   have hdst : (G.O p).dst = some t:=by
    have h1:=G.dst p hp
    have hd : (G.X p).1.d = some (toPa t):=hd
    rw [hd] at h1
    cases h2 : (G.O p).dst with
    | none=>rw [h2] at h1; cases h1
    | some t' =>
     rw [h2] at h1
     obtain ⟨_,h3⟩:=ite_none h1
     rw [toPa_inj (Option.some.inj h3)]
   obtain ⟨later,_⟩:=G.slot hc hp hr hn (.inl hdst)
   have h1 : Tr.get un (G.fr (listed.setIfInBounds (G.I p) true) ops.size) (toPa t) = Tr.get un (G.fr (listed.setIfInBounds (G.I p) true) (p + 1)) (toPa t):=by
    have:=frL_cut (L:=G.L (listed.setIfInBounds (G.I p) true)) (d:=G.d) (V:=G.V) (fr0:=(G.S 0).fr) (q:=toPa t) (m:=p + 1) (ops.size - (p + 1)) (fun q h1 h2 h3=>by
     rw [G.L_set hs hp q (by omega),if_neg (by omega)]
     exact later q (by omega) (by omega) h3)
    rw [show p + 1 + (ops.size - (p + 1)) = ops.size by omega] at this
    exact this
   rw [h1]
   show Tr.get un (Bool.casesOn (G.L (listed.setIfInBounds (G.I p) true) p) (G.fr _ p) (put (G.d p) (G.V p) (G.fr _ p))) (toPa t) = _
   rw [G.L_set hs hp p hp,if_pos rfl]
   show Tr.get un (put (G.d p) (G.V p) (G.fr _ p)) (toPa t) = _
   rw [put_get,if_pos hd]
  ·rw [if_neg hd]
   refine frL_congr _ fun q hq e=>?_
   rw [G.L_set hs hp q hq,if_neg (fun e'=>hd (by rw [← e']; exact e))]
 rw [e]; exact this
end
end Go.Vai

/- VAI,part b: a region that draws: what holds whatever was done first. -/
namespace Go.Vai
section
variable {P : Program} {call : Call1} {n : Nat} {ops : Array Oper} (G : Rg P call n ops)
/-- A place whose block is there,and not yet in the one run's memory. -/
def Rg.wait (listed : Array Bool) (T p : Nat) : Prop:=T≤p∧p < ops.size∧G.L listed p = true∧(G.X p).2.cls = 2∧G.W p = true
def Rg.prD (pr : Pr) (listed : Array Bool) (T : Nat) (blk : Nat→Nat) : Pr :=
 ⟨pr.soft,fun b=>pr.hard b ∨ ∃ p,G.wait listed T p∧blk p = b,fun x=>pr.res x ∨ ∃ p,p < ops.size∧(G.X p).2.cls = 2∧G.L listed p = false∧G.id p = x,pr.ds⟩
structure Rg.Inv (pr : Pr) (ι0 : Emb) (w0 : World) (listed : Array Bool) (T : Nat) (blk : Nat→Nat) (ι : Emb) (a : Act) (w : World) : Prop where
 size : listed.size = ops.size
 closed : G.Closed listed
 tle : T≤ops.size
 bound : T = 0 ∨ ∃ q,T = q + 1∧(G.X q).2.cls = 3
 pre : ∀ p,p < T→G.L listed p = true
 nohv : ∀ p,T≤p→p < ops.size→(G.X p).2.cls = 3→G.L listed p = false
 fr : FR ι (G.fr listed ops.size) a
 sz : n≤a.tmps.size
 nd : a.defers = pr.ds
 pend : ∀ p,G.wait listed T p→∃ e l f,mkK (G.X p).1.o (G.S p).fr mkPair = some (e,l,f)∧Pend ι w.heap pr (G.id p) l e (blk p)
 inj : ∀ p q,G.wait listed T p→G.wait listed T q→blk p = blk q→p = q
 rel : Rel (G.prD pr listed T blk) P.globals.size ι (G.S T).H w.heap
 ext : Ext ι0 ι
 frm : Fr pr w0 w
theorem Rg.prD_pr (pr : Pr) (listed : Array Bool) (T : Nat) (blk : Nat→Nat) (b : Nat) (h : pr b) : G.prD pr listed T blk b:=by
 rcases h with h | h
 ·exact .inl h
 ·exact .inr (.inl h)
/-- Where the operation of a place stands. -/
theorem Rg.Inv.at_ {G : Rg P call n ops} {pr : Pr} {ι0 ι : Emb} {w0 w : World} {listed : Array Bool} {T : Nat} {blk : Nat→Nat} {a : Act} (h : G.Inv pr ι0 w0 listed T blk ι a w) : At P (G.prD pr listed T blk) n ι (G.S T).H (G.fr listed ops.size) a w :=
 ⟨⟨h.rel,h.fr⟩,h.sz,h.nd⟩
theorem Rg.op_slots {listed : Array Bool} (hc : G.Closed listed) {p : Nat} (hp : p < ops.size) (hr : G.I p ∈ Region.ready .any ops listed) (hn : G.L listed p = false) :
  (∀ x ∈ (G.X p).1.o.opds,ev (G.fr listed ops.size) x = ev (G.S p).fr x)∧wantB (G.X p).1.g (G.fr listed ops.size) = wantB (G.X p).1.g (G.S p).fr:=by
 refine ⟨fun x hx=>?_,?_⟩
 ·cases x with
  | c v=>rfl
  | t pa =>
   obtain ⟨t,ht,e⟩:=G.looks p _ hp hx pa rfl
   subst e
   exact (G.slot hc hp hr hn (.inr ht)).2
 ·rcases G.guard p hp with ⟨_,h2⟩ | ⟨j,want,t,h1,h2,h3,h4⟩
  ·rw [h2]; rfl
  ·rw [h4]
   refine wantB_congr ?_
   refine (G.slot hc hp hr hn (.inr ?_)).2
   unfold Oper.looksAt
   rw [h1]
   refine List.mem_append_right _ ?_
   show t ∈ ((ops[j]?).bind (·.dst)).toList
   rw [h2]; simp
/-- Is it wanted? As in the one run. -/
theorem Rg.Inv.wanted {G : Rg P call n ops} {pr : Pr} {ι0 ι : Emb} {w0 w : World} {listed : Array Bool} {T : Nat} {blk : Nat→Nat} {a : Act} (h : G.Inv pr ι0 w0 listed T blk ι a w) {p : Nat} (hp : p < ops.size)
  (hr : G.I p ∈ Region.ready .any ops listed) (hn : G.L listed p = false) : Region.wanted (G.O p) (yielded ops a.tmps) = G.W p:=by
 have h1 : wantB (G.X p).1.g (G.fr listed ops.size) = some (G.W p):=by rw [(G.op_slots h.closed hp hr hn).2]; exact (G.step p hp).want
 have h2 : wantK (G.X p).1.g (G.fr listed ops.size) some = some (G.W p):=h1
 have:=want_ok (ops:=ops) h.at_ (G.guard p hp) h2
 exact Option.some.inj this
theorem Rg.Inv.place {G : Rg P call n ops} {pr : Pr} {ι0 ι : Emb} {w0 w : World} {listed : Array Bool} {T : Nat} {blk : Nat→Nat} {a : Act} (h : G.Inv pr ι0 w0 listed T blk ι a w) {p : Nat} (hn : G.L listed p = false) : T≤p:=by
 rcases Nat.lt_or_ge p T with g | g
 ·rw [h.pre p g] at hn; cases hn
 ·exact g
theorem Rg.wait_set {listed : Array Bool} (hs : listed.size = ops.size) {p : Nat} (hp : p < ops.size) {T q : Nat} (hno : ¬ ((G.X p).2.cls = 2∧G.W p = true)) : G.wait (listed.setIfInBounds (G.I p) true) T q ↔ G.wait listed T q:=by
 unfold Rg.wait
 constructor
 ·rintro ⟨h1,h2,h3,h4,h5⟩
  rw [G.L_set hs hp q h2] at h3
  by_cases e : q = p
  ·subst e; exact (hno ⟨h4,h5⟩).elim
  ·rw [if_neg e] at h3; exact ⟨h1,h2,h3,h4,h5⟩
 ·rintro ⟨h1,h2,h3,h4,h5⟩
  refine ⟨h1,h2,?_,h4,h5⟩
  rw [G.L_set hs hp q h2]
  split
  ·rfl
  ·exact h3
/-- An operation that leaves memory as it was. -/
theorem Rg.Inv.light {G : Rg P call n ops} {pr : Pr} {ι0 ι : Emb} {w0 w : World} {listed : Array Bool} {T : Nat} {blk : Nat→Nat} {a : Act} (h : G.Inv pr ι0 w0 listed T blk ι a w) {p : Nat} (hp : p < ops.size)
  (hr : G.I p ∈ Region.ready .any ops listed) (hn : G.L listed p = false) (hno : ¬ ((G.X p).2.cls = 2∧G.W p = true)) (h3 : (G.X p).2.cls ≠ 3) {v' : Value} (hv : VR ι (G.V p) v') :
  G.Inv pr ι0 w0 (listed.setIfInBounds (G.I p) true) T blk ι (a.put (G.O p).dst v') w:=by
 have hw : ∀ q,G.wait (listed.setIfInBounds (G.I p) true) T q ↔ G.wait listed T q:=fun q=>G.wait_set h.size hp hno
 refine ⟨by rw [Array.size_setIfInBounds]; exact h.size,G.closed_set h.size h.closed hp hr,h.tle,h.bound,fun q hq=>?_,fun q h1 h2 h4=>?_,G.fr_set h.size h.closed hp hr hn h.fr h.sz hv,?_,?_,fun q hq=>h.pend q ((hw q).mp hq),fun q t hq ht=>h.inj q t ((hw q).mp hq) ((hw t).mp ht),?_,h.ext,h.frm⟩
 ·rw [G.L_set h.size hp q (Nat.lt_of_lt_of_le hq h.tle)]
  split
  ·rfl
  ·exact h.pre q hq
 ·rw [G.L_set h.size hp q h2]
  split
  ·rename_i e; subst e; exact (h3 h4).elim
  ·exact h.nohv q h1 h2 h4
 ·cases hd : (G.O p).dst with
  | none=>exact h.sz
  | some d=>show n≤(a.tmps.setIfInBounds d v').size; rw [Array.size_setIfInBounds]; exact h.sz
 ·cases hd : (G.O p).dst with
  | none=>exact h.nd
  | some d=>exact h.nd
 ·refine h.rel.weaken ?_ ?_ ?_
  ·rintro b (q | q | ⟨q,h1,h2⟩)
   ·exact .inl q
   ·exact .inr (.inl q)
   ·exact .inr (.inr ⟨q,(hw q).mp h1,h2⟩)
  ·rintro b (q | ⟨q,h1,h2⟩)
   ·exact .inl q
   ·exact .inr ⟨q,(hw q).mp h1,h2⟩
  ·rintro x (q | ⟨q,h1,h2,h4,h5⟩)
   ·exact .inl q
   ·refine .inr ⟨q,h1,h2,?_,h5⟩
    rw [G.L_set h.size hp q h1] at h4
    split at h4
    ·cases h4
    ·exact h4
/-- The ids are kept apart. -/
structure Rg.Ids (pr : Pr) : Prop where
 inj : ∀ p q,p < ops.size→q < ops.size→(G.X p).2.cls = 2→(G.X q).2.cls = 2→G.id p = G.id q→p = q
 out : ∀ p,p < ops.size→(G.X p).2.cls = 2→¬ pr.res (G.id p)
/-- An operation that makes a block: it waits. -/
theorem Rg.Inv.make {G : Rg P call n ops} {pr : Pr} {ι0 ι : Emb} {w0 w : World} {listed : Array Bool} {T : Nat} {blk : Nat→Nat} {a : Act} (h : G.Inv pr ι0 w0 listed T blk ι a w) (hid : G.Ids pr) {p : Nat} (hp : p < ops.size)
  (hr : G.I p ∈ Region.ready .any ops listed) (hn : G.L listed p = false) (h2 : (G.X p).2.cls = 2) (hw : G.W p = true) {e : Nat} {l : List AV} {f : Pa→AV} (hmk : mkK (G.X p).1.o (G.S p).fr mkPair = some (e,l,f)) (hV : G.V p = f (G.id p))
  {cs : Array Value} {v' : Value} (hcs : cs.size = l.length) (hvs : VRs ι l cs.toList) (hv : ∀ (ι' : Emb) (id : Pa),ι' id = some ⟨w.heap.size,0,l.length,l.length⟩→VR ι' (f id) v') :
  G.Inv pr ι0 w0 (listed.setIfInBounds (G.I p) true) T (fun q=>if q = p then w.heap.size else blk q) (ι.add (G.id p) ⟨w.heap.size,0,l.length,l.length⟩) (a.put (G.O p).dst v') (w.alloc (.cells cs e)):=by
 have hres : (G.prD pr listed T blk).res (G.id p):=.inr ⟨p,hp,h2,hn,rfl⟩
 obtain ⟨hnone,hlt⟩:=h.rel.resv _ hres
 have hext:=Ext.add (ι:=ι) ⟨w.heap.size,0,l.length,l.length⟩ hnone
 have hTp:=h.place hn
 have hnot : ∀ q,G.wait listed T q→q ≠ p:=fun q hq e=>by subst e; obtain ⟨_,_,h5,_⟩:=hq; rw [hn] at h5; cases h5
 have hwait : ∀ q,G.wait (listed.setIfInBounds (G.I p) true) T q→q = p ∨ G.wait listed T q:=by
  rintro q ⟨q1,q2,q3,q4,q5⟩
  rw [G.L_set h.size hp q q2] at q3
  by_cases e : q = p
  ·exact .inl e
  ·rw [if_neg e] at q3; exact .inr ⟨q1,q2,q3,q4,q5⟩
 have hblk : ∀ q,G.wait listed T q→blk q < w.heap.size:=fun q hq=>h.rel.prot _ (.inr (.inr ⟨q,hq,rfl⟩))
 have hnpr : ¬ pr w.heap.size:=fun q=>h.rel.notProt (G.prD_pr pr listed T blk _ q)
 refine ⟨by rw [Array.size_setIfInBounds]; exact h.size,G.closed_set h.size h.closed hp hr,h.tle,h.bound,fun q hq=>?_,fun q q1 q2 q4=>?_,G.fr_set h.size h.closed hp hr hn (h.fr.mono hext) h.sz (by rw [hV]; exact hv _ _ (Emb.add_same _ _ _)),?_,?_,fun q hq=>?_,fun q t hq ht=>?_,?_,h.ext.trans hext,h.frm.trans ?_⟩
 ·rw [G.L_set h.size hp q (Nat.lt_of_lt_of_le hq h.tle)]
  split
  ·rfl
  ·exact h.pre q hq
 ·rw [G.L_set h.size hp q q2]
  split
  ·rename_i e'; subst e'; rw [h2] at q4; cases q4
  ·exact h.nohv q q1 q2 q4
 ·cases hd : (G.O p).dst with
  | none=>exact h.sz
  | some d=>show n≤(a.tmps.setIfInBounds d v').size; rw [Array.size_setIfInBounds]; exact h.sz
 ·cases hd : (G.O p).dst with
  | none=>exact h.nd
  | some d=>exact h.nd
 ·rcases hwait q hq with e' | hq'
  ·subst e'
   refine ⟨e,l,f,hmk,by rw [if_pos rfl]; exact Emb.add_same _ _ _,⟨cs,?_,hcs,VRs_mono hext _ _ hvs⟩,fun q=>?_,fun q=>?_⟩
   ·rw [if_pos rfl]; show (w.heap.push _)[w.heap.size]? = _; simp
   ·rw [if_pos rfl] at q; exact hnpr (.inl q)
   ·rw [if_pos rfl] at q; exact hnpr (.inr q)
  ·obtain ⟨e1,l1,f1,hm1,hp1⟩:=h.pend q hq'
   refine ⟨e1,l1,f1,hm1,?_⟩
   rw [if_neg (hnot q hq')]
   refine hp1.mono hext ?_
   show (w.heap.push _)[blk q]? = _
   have:=hblk q hq'
   simp [Array.getElem?_push,Nat.ne_of_lt this]
 ·intro e'
  rcases hwait q hq with e1 | hq' <;> rcases hwait t ht with e2 | ht'
  ·rw [e1,e2]
  ·subst e1
   simp only [if_pos,if_neg (hnot t ht')] at e'
   have:=hblk t ht'; omega
  ·subst e2
   simp only [if_pos,if_neg (hnot q hq')] at e'
   have:=hblk q hq'; omega
  ·simp only [if_neg (hnot q hq'),if_neg (hnot t ht')] at e'
   exact h.inj q t hq' ht' e'
 ·refine h.rel.pend hnone hlt _ _ _ rfl ?_ ?_
  ·rintro b (q | ⟨q,q1,q2⟩)
   ·exact .inl (.inl q)
   ·rcases hwait q q1 with e1 | q1'
    ·subst e1; simp only [if_pos] at q2; exact .inr q2.symm
    ·simp only [if_neg (hnot q q1')] at q2; exact .inl (.inr ⟨q,q1',q2⟩)
  ·rintro x (q | ⟨q,q1,q2,q3,q4⟩)
   ·refine ⟨.inl q,fun e'=>?_⟩
    subst e'; exact hid.out p hp h2 q
   ·rw [G.L_set h.size hp q q1] at q3
    split at q3
    ·cases q3
    ·rename_i hqp
     exact ⟨.inr ⟨q,q1,q2,q3,q4⟩,fun e'=>hqp (hid.inj q p q1 hp q2 h2 (q4.trans e'))⟩
 ·exact Fr.pushed h.rel _ |>.weaken (fun b hb=>G.prD_pr pr listed T blk b hb) |> fun F=>⟨rfl,rfl,rfl,F.size,F.keep⟩
end
end Go.Vai

/- VAI,part c: a region that draws: what does more; the end; all orders. -/
namespace Go.Vai
section
variable {P : Program} {call : Call1} {n : Nat} {ops : Array Oper}
/-- The one run's memory further on,where all that stands between is done. -/
theorem Rg.Inv.open_ {G : Rg P call n ops} {pr : Pr} {ι0 ι : Emb} {w0 w : World} {listed : Array Bool} {T : Nat} {blk : Nat→Nat} {a : Act} (h : G.Inv pr ι0 w0 listed T blk ι a w) :
  ∀ k,T + k≤ops.size→(∀ q,T≤q→q < T + k→G.L listed q = true)→Rel (G.prD pr listed (T + k) blk) P.globals.size ι (G.S (T + k)).H w.heap
 | 0,_,_=>h.rel
 | k + 1,hk,hl=>by
  have R:=h.open_ k (by omega) fun q h1 h2=>hl q h1 (by omega)
  have hm : T + k < ops.size:=by omega
  have hL : G.L listed (T + k) = true:=hl _ (by omega) (by omega)
  have h3 : (G.X (T + k)).2.cls ≠ 3:=fun e=>by have:=h.nohv (T + k) (by omega) hm e; rw [hL] at this; cases this
  have hst:=G.step (T + k) hm
  have hc3:=G.cls3 (T + k) hm
  have up : ∀ q,G.wait listed (T + (k + 1)) q→G.wait listed (T + k) q:=fun q ⟨q1,q2⟩=>⟨by omega,q2⟩
  have stay : (G.S (T + (k + 1))).H = (G.S (T + k)).H→Rel (G.prD pr listed (T + (k + 1)) blk) P.globals.size ι (G.S (T + (k + 1))).H w.heap:=by
   intro e
   rw [e]
   refine R.weaken ?_ ?_ fun _ q=>q
   ·rintro b (q | q | ⟨q,q1,q2⟩)
    ·exact .inl q
    ·exact .inr (.inl q)
    ·exact .inr (.inr ⟨q,up q q1,q2⟩)
   ·rintro b (q | ⟨q,q1,q2⟩)
    ·exact .inl q
    ·exact .inr ⟨q,up q q1,q2⟩
  by_cases h2 : (G.X (T + k)).2.cls = 2
  ·cases hw : G.W (T + k) with
   | false=>exact stay (hst.no hw).2
   | true =>
    have hwait : G.wait listed (T + k) (T + k):=⟨Nat.le_refl _,hm,hL,h2,hw⟩
    have hwaitT : G.wait listed T (T + k):=⟨by omega,hm,hL,h2,hw⟩
    obtain ⟨id,e,l,f,m1,m2,m3,m4⟩:=hst.make hw h2
    obtain ⟨e',l',f',m1',hp⟩:=h.pend _ hwaitT
    rw [m1] at m1'; cases m1'
    have hid : G.id (T + k) = id:=by unfold Rg.id; rw [m2]; rfl
    have e1 : (G.S (T + (k + 1))).H = (G.S (T + k)).H.put (G.id (T + k)) (.cells false 0 e l.length (setCells l 0 .leaf)):=by rw [hid]; exact m4
    rw [e1]
    refine R.open_ hp (.inr ⟨_,hwait,rfl⟩) rfl rfl ?_ fun _ q=>q
    rintro b (q | ⟨q,q1,q2⟩)
    ·exact ⟨.inl q,fun e'=>hp.hard (by rw [← e']; exact q)⟩
    ·refine ⟨.inr ⟨q,up q q1,q2⟩,fun e'=>?_⟩
     have hq1:=q1.1
     have:=h.inj q (T + k) ⟨by omega,q1.2⟩ hwaitT (q2.trans e')
     omega
  ·exact stay (hst.light (by omega)).1
/-- An operation of class 3. -/
theorem Rg.Inv.heavy {G : Rg P call n ops} {pr : Pr} {ι0 ι ι' : Emb} {w0 w w' : World} {listed : Array Bool} {T : Nat} {blk : Nat→Nat} {a : Act} (h : G.Inv pr ι0 w0 listed T blk ι a w) {p : Nat} (hp : p < ops.size)
  (hr : G.I p ∈ Region.ready .any ops listed) (hn : G.L listed p = false) (h3 : (G.X p).2.cls = 3) {v' : Value} (hext : Ext ι ι') (hrel : Rel (G.prD pr listed p blk) P.globals.size ι' (G.S (p + 1)).H w'.heap) (hfr : Fr (G.prD pr listed p blk) w w') (hv : VR ι' (G.V p) v') :
  G.Inv pr ι0 w0 (listed.setIfInBounds (G.I p) true) (p + 1) blk ι' (a.put (G.O p).dst v') w':=by
 have hTp:=h.place hn
 have hall : ∀ q,q < p→G.L listed q = true:=fun q hq=>G.ready_hang h.closed hp hr (by omega) (G.heavy p q hp hq h3)
 have hwait : ∀ q,G.wait (listed.setIfInBounds (G.I p) true) (p + 1) q→G.wait listed p q:=by
  rintro q ⟨q1,q2,q3,q4,q5⟩
  rw [G.L_set h.size hp q q2,if_neg (by omega)] at q3
  exact ⟨by omega,q2,q3,q4,q5⟩
 have toT : ∀ q,G.wait listed p q→G.wait listed T q:=fun q ⟨q1,q2⟩=>⟨by omega,q2⟩
 refine ⟨by rw [Array.size_setIfInBounds]; exact h.size,G.closed_set h.size h.closed hp hr,by omega,.inr ⟨p,rfl,h3⟩,fun q hq=>?_,fun q q1 q2 q4=>?_,G.fr_set h.size h.closed hp hr hn (h.fr.mono hext) h.sz hv,?_,?_,fun q hq=>?_,fun q t hq ht=>h.inj q t (toT q (hwait q hq)) (toT t (hwait t ht)),?_,h.ext.trans hext,h.frm.trans (hfr.weaken fun b hb=>G.prD_pr pr listed p blk b hb)⟩
 ·rw [G.L_set h.size hp q (by omega)]
  by_cases e : q = p
  ·rw [if_pos e]
  ·rw [if_neg e]; exact hall q (by omega)
 ·rw [G.L_set h.size hp q q2,if_neg (by omega)]
  exact h.nohv q (by omega) q2 q4
 ·cases hd : (G.O p).dst with
  | none=>exact h.sz
  | some d=>show n≤(a.tmps.setIfInBounds d v').size; rw [Array.size_setIfInBounds]; exact h.sz
 ·cases hd : (G.O p).dst with
  | none=>exact h.nd
  | some d=>exact h.nd
 ·obtain ⟨e,l,f,m1,hpd⟩:=h.pend q (toT q (hwait q hq))
  exact ⟨e,l,f,m1,hpd.mono hext (hfr.keep _ (.inr (.inr ⟨q,hwait q hq,rfl⟩)))⟩
 ·refine hrel.weaken ?_ ?_ ?_
  ·rintro b (q | q | ⟨q,q1,q2⟩)
   ·exact .inl q
   ·exact .inr (.inl q)
   ·exact .inr (.inr ⟨q,hwait q q1,q2⟩)
  ·rintro b (q | ⟨q,q1,q2⟩)
   ·exact .inl q
   ·exact .inr ⟨q,hwait q q1,q2⟩
  ·rintro x (q | ⟨q,q1,q2,q3,q4⟩)
   ·exact .inl q
   ·refine .inr ⟨q,q1,q2,?_,q4⟩
    rw [G.L_set h.size hp q q1] at q3
    split at q3
    ·cases q3
    ·exact q3
end
end Go.Vai

/- VAI,part d: the operations that turn no memory: what they leave. -/
namespace Go.Vai
section
variable {R : Type} {P : Program} {pr : Pr} {ng : Nat} {ι : Emb} {H : Heap} {fr : Tr AV} {a : Act} {w : World}
variable {k : HK R} {r : R} {call : CallK R}
theorem PureOK.simL {o : Oper} {s : Sem Value} (C : Ctx P pr ι H fr a w) (h : PureOK P ι w H k r s) (he : execOp a.eval o = (do pure (.value (← s)) : Sem Next)) : ∃ v,k v H = some r∧Sim P pr ι o a w v H:=by
 obtain ⟨v,h1,h2⟩:=h.does C
 exact ⟨v,h1,h2.sim he⟩
theorem conv_light {s d : TypeId} {x : Operand} {x' : Opd} {q : AOp} (hc : compConv P s d x' = some q) (C : Ctx P pr ι H fr a w) (hx : compOpd P x = some x') (hcl : clsOf q≤1) (h : xopK q call fr H k = some r) : PureOK P ι w H k r (convert s d (a.eval x)):=by
 unfold compConv at hc
 split at hc
 ·rename_i h1 h2; cases hc; exact (ok_cvi (call:=call) h1 h2 C hx h)
 ·rename_i h1 h2; cases hc; exact (ok_i2s (call:=call) h1 h2 C hx h)
 ·rename_i h1 h2; cases hc; exact (ok_cvs (call:=call) h1 h2 C hx h)
 ·rename_i h1 h2
  split at hc
  ·rename_i h3 h4; cases hc; exact absurd hcl (by simp [clsOf])
  ·rename_i h3 h4; cases hc; exact absurd hcl (by simp [clsOf])
  ·cases hc
 ·rename_i h1 h2
  split at hc
  ·rename_i h3 h4; cases hc; exact (ok_b2s (call:=call) h1 h2 h3 C hx h)
  ·rename_i h3 h4; cases hc; exact (ok_r2s (call:=call) h1 h2 h3 C hx h)
  ·cases hc
 ·rename_i h1 h2
  split at hc
  ·rename_i h3; cases hc; exact (ok_p2u (call:=call) h1 h2 h3 C hx h)
  ·cases hc
 ·rename_i h1 h2
  split at hc
  ·rename_i h3
   obtain ⟨h4,h5⟩:=ite_none'' hc
   cases h5
   exact (ok_u2p (call:=call) h1 h2 h3 h4 C hx h)
  ·cases hc
 ·rename_i h1 h2
  split at hc
  ·rename_i h3
   obtain ⟨h4,h5⟩:=ite_none hc
   subst h5
   exact absurd hcl (by simp [clsOf])
  ·cases hc
 ·cases hc
theorem not_call_light {o : Oper} {q : AOp} (hn : ∀ c,o.op ≠ .call c) (hc : compOp P o = some q) (C : Ctx P pr ι H fr a w) (hcl : clsOf q≤1) (h : xopK q call fr H k = some r) : ∃ v,k v H = some r∧Sim P pr ι o a w v H:=by
 unfold compOp at hc
 split at hc
 ·rename_i x ho
  obtain ⟨x',hx,e⟩:=map_some hc; subst e
  exact (ok_mv (call:=call) C hx h).simL C (by unfold execOp; rw [ho]; rfl)
 ·rename_i x ho
  obtain ⟨x',hx,e⟩:=map_some hc; subst e
  exact (ok_mv (call:=call) C hx h).simL C (by unfold execOp; rw [ho]; rfl)
 ·rename_i c x y ho
  obtain ⟨c',hcc,hc⟩:=bind_some hc
  obtain ⟨x',hx,hc⟩:=bind_some hc
  obtain ⟨y',hy,e⟩:=map_some hc; subst e
  exact (ok_pick (call:=call) C hcc hx hy h).simL C (by unfold execOp; rw [ho]; simp)
 ·rename_i e ho
  obtain ⟨zs,hz,e'⟩:=map_some hc; subst e'
  exact absurd hcl (by simp [clsOf])
 ·rename_i e x ho
  obtain ⟨x',hx,e'⟩:=map_some hc; subst e'
  exact absurd hcl (by simp [clsOf])
 ·rename_i t ps ho
  split at hc
  ·rename_i fs ht
   obtain ⟨hall,hc⟩:=ite_none' hc
   obtain ⟨zs,hz,hc⟩:=bind_some hc
   obtain ⟨ps',hp,e⟩:=map_some hc; subst e
   exact (ok_buildS (call:=call) ht hz hp hall C h).simL C (by unfold execOp; rw [ho])
  ·rename_i m el ht
   obtain ⟨zs,hz,hc⟩:=bind_some hc
   obtain ⟨n,hn',hc⟩:=bind_some hc
   obtain ⟨ps',hp,e⟩:=map_some hc; subst e
   exact (ok_buildA (call:=call) ht hz hn' hp C h).simL C (by unfold execOp; rw [ho])
  ·cases hc
 ·rename_i t len ps ho
  split at hc
  ·rename_i el ht
   split at hc
   ·rename_i zs n hz hn'
    obtain ⟨⟨hlim,hzl⟩,hc⟩:=ite_none' hc
    obtain ⟨ps',hp,e⟩:=map_some hc; subst e
    exact absurd hcl (by simp [clsOf])
   ·cases hc
  ·cases hc
 ·rename_i t x ho
  obtain ⟨x',hx,hc⟩:=bind_some hc
  obtain ⟨g,hg,hc⟩:=bind_some hc
  obtain ⟨n,hn',hc⟩:=bind_some hc
  obtain ⟨hgn,e⟩:=ite_none hc
  subst e
  exact (ok_ld (call:=call) hg hn' (by simpa using hgn) C hx h).simL C (by unfold execOp; rw [ho])
 ·rename_i t x y ho
  obtain ⟨x',hx,hc⟩:=bind_some hc
  obtain ⟨y',hy,hc⟩:=bind_some hc
  obtain ⟨n,hn',e⟩:=map_some hc; subst e
  exact absurd hcl (by simp [clsOf])
 ·rename_i x ho
  obtain ⟨x',hx,e⟩:=map_some hc; subst e
  obtain ⟨v,h1,v',h2,h3⟩:=ok_nilck (call:=call) C hx h ho
  refine ⟨v,h1,fun next Q hk=>?_⟩
  unfold Oper.wp
  rw [h3]
  exact hk ι v' w (Ext.refl _) C.rel (Fr.refl _ _) h2
 ·rename_i op t x y c ho
  obtain ⟨x',hx,hc⟩:=bind_some hc
  obtain ⟨y',hy,e⟩:=map_some hc; subst e
  exact (ok_bin (call:=call) C hx hy h).simL C (by unfold execOp; rw [ho])
 ·rename_i op t x ho
  obtain ⟨x',hx,hc⟩:=bind_some hc
  split at hc
  ·cases hc; exact (ok_not (call:=call) C hx h).simL C (by unfold execOp; rw [ho])
  ·cases hc; exact (ok_neg (call:=call) C hx h).simL C (by unfold execOp; rw [ho])
  ·cases hc; exact (ok_cpl (call:=call) C hx h).simL C (by unfold execOp; rw [ho])
  ·cases hc
 ·rename_i s d x ho
  obtain ⟨x',hx,hc⟩:=bind_some hc
  exact (conv_light hc C hx hcl h).simL C (by unfold execOp; rw [ho])
 ·rename_i t x ho
  split at hc
  ·cases hc
  ·rename_i d hnd ht
   obtain ⟨x',hx,e⟩:=map_some hc; subst e
   exact (ok_mkif (call:=call) ht (fun ms e=>hnd ms e) C hx h).simL C (by unfold execOp; rw [ho])
  ·cases hc
 ·rename_i f first caps ho
  obtain ⟨first',h1,hc⟩:=bind_some hc
  obtain ⟨caps',h2,e⟩:=map_some hc; subst e
  exact (ok_mkfn (call:=call) C h1 h2 h).simL C (by unfold execOp; rw [ho])
 ·rename_i t l c ho
  split at hc
  ·rename_i el ht
   split at hc
   ·rename_i zs n b hz hn' hb
    obtain ⟨hzl,hc⟩:=ite_none' hc
    obtain ⟨l',hl,hc⟩:=bind_some hc
    obtain ⟨c',hcc,e⟩:=map_some hc; subst e
    exact absurd hcl (by simp [clsOf])
   ·cases hc
  ·cases hc
 ·rename_i t x lo hi mx ho
  obtain ⟨hmh,hc⟩:=ite_none'' hc
  have hmh : mx = none ∨ hi ≠ none:=by
   cases mx <;> cases hi <;> simp at hmh ⊢
  obtain ⟨x',hx,hc⟩:=bind_some hc
  obtain ⟨lo',hlo,hc⟩:=bind_some hc
  obtain ⟨hi',hhi,hc⟩:=bind_some hc
  obtain ⟨mx',hmx,hc⟩:=bind_some hc
  split at hc
  ·rename_i n el ht
   split at hc
   ·rename_i m hm; cases hc; exact (ok_sla (call:=call) ht hm hmh C hx hlo hhi hmx h).simL C (by unfold execOp; rw [ho])
   ·cases hc
  ·rename_i ht
   split at hc
   ·cases hc
    have hmn:=mapOpdo hmx rfl
    subst hmn
    exact (ok_sls (call:=call) ht C hx hlo hhi h).simL C (by unfold execOp; rw [ho]; rfl)
   ·cases hc
  ·rename_i el ht
   split at hc
   ·rename_i m hm; cases hc; exact (ok_sll (call:=call) ht hm hmh C hx hlo hhi hmx h).simL C (by unfold execOp; rw [ho])
   ·cases hc
  ·cases hc
 ·rename_i s x f ho
  split at hc
  ·rename_i fs hs
   split at hc
   ·rename_i fd hf
    split at hc
    ·rename_i n hn'
     obtain ⟨x',hx,e⟩:=map_some hc; subst e
     exact (ok_fa (call:=call) hs hf hn' C hx h).simL C (by unfold execOp; rw [ho])
    ·cases hc
   ·cases hc
  ·cases hc
 ·rename_i t x f ho
  split at hc
  ·rename_i fs ht
   split at hc
   ·rename_i fd hf
    obtain ⟨g,hg,hc⟩:=bind_some hc
    obtain ⟨n,hn',hc⟩:=bind_some hc
    obtain ⟨x',hx,e⟩:=map_some hc; subst e
    exact (ok_fld (call:=call) ht hf hg hn' C hx h).simL C (by unfold execOp; rw [ho])
   ·cases hc
  ·cases hc
 ·rename_i t x i ho
  obtain ⟨x',hx,hc⟩:=bind_some hc
  obtain ⟨i',hi,hc⟩:=bind_some hc
  split at hc
  ·rename_i n el ht
   obtain ⟨m,hm,e⟩:=map_some hc; subst e
   exact (ok_ixp (call:=call) ht hm C hx hi h).simL C (by unfold execOp; rw [ho])
  ·rename_i el ht
   obtain ⟨m,hm,e⟩:=map_some hc; subst e
   exact (ok_ixa (call:=call) ht hm C hx hi h).simL C (by unfold execOp; rw [ho])
  ·cases hc
 ·rename_i t x i ho
  obtain ⟨x',hx,hc⟩:=bind_some hc
  obtain ⟨i',hi,hc⟩:=bind_some hc
  split at hc
  ·rename_i ht; cases hc; exact (ok_ixs (call:=call) ht C hx hi h).simL C (by unfold execOp; rw [ho])
  ·rename_i n el ht
   obtain ⟨g,hg,hc⟩:=bind_some hc
   obtain ⟨m,hm,e⟩:=map_some hc; subst e
   exact (ok_ixg (call:=call) ht hg hm C hx hi h).simL C (by unfold execOp; rw [ho])
  ·cases hc
 ·rename_i t x ho
  split at hc
  ·rename_i ht
   obtain ⟨x',hx,e⟩:=map_some hc; subst e
   exact absurd hcl (by simp [clsOf])
  ·cases hc
 ·rename_i x isS ho
  obtain ⟨e,hc⟩:=ite_none' hc
  subst e
  obtain ⟨x',hx,e⟩:=map_some hc; subst e
  exact absurd hcl (by simp [clsOf])
 ·rename_i x xt t ok ho
  split at hc
  ·cases hc
  ·rename_i d hnd ht
   split at hc
   ·rename_i z hz
    obtain ⟨zero,hzc,hc⟩:=bind_some hc
    obtain ⟨x',hx,e⟩:=map_some hc; subst e
    exact (ok_tas (call:=call) ht (fun ms e=>hnd ms e) hz hzc C hx h).simL C (by unfold execOp; rw [ho])
   ·cases hc
  ·cases hc
 ·rename_i x n ho
  obtain ⟨x',hx,e⟩:=map_some hc; subst e
  exact (ok_ext (call:=call) C hx h).simL C (by unfold execOp; rw [ho])
 ·rename_i c ho
  exact (hn c ho).elim
 ·cases hc
theorem call_light {o : Oper} {c : Call} {q : AOp} (ho : o.op = .call c) (hc : compCall P c = some q) (C : Ctx P pr ι H fr a w) (hcl : clsOf q≤1) (h : xopK q call fr H k = some r) : ∃ v,k v H = some r∧Sim P pr ι o a w v H:=by
 unfold compCall at hc
 split at hc
 ·rename_i f hcv
  have hq:=bind_some hc
  clear hc
  obtain ⟨args,hargs,hc⟩:=hq
  have ha:=C.opds hargs
  split at hc
  ·rename_i fn hf
   have hq:=ite_none'' hc
   clear hc
   obtain ⟨hn,hc⟩:=hq
   split at hc
   ·rename_i body hb
    cases hc
    exact absurd hcl (by simp [clsOf])
   ·rename_i hb
    have hq:=ite_none'' hc
    clear hc
    obtain ⟨hor,hc⟩:=hq
    have hor : fn.origin = "":=by simpa using hor
    split at hc
    ·rename_i hname
     split at hc
     ·rename_i x'
      cases hc
      obtain ⟨x,hx,hx'⟩:=one_arg hargs
      obtain ⟨v,h1,h2⟩:=(ok_mv (call:=call) C hx' h).does C
      exact ⟨v,h1,extern_sim ho hcv hf hn hb (findNext_none (by rw [hname]; exact look_next1) hor) (find_noEscape hname) (by rw [hx,map_one]; exact h2)⟩
     ·cases hc
    ·split at hc
     ·rename_i hname
      split at hc
      ·rename_i n' t hrt
       split at hc
       ·rename_i el ht
        cases hc
        have hrt:=toList_one hrt
        obtain ⟨x,hx,hx'⟩:=one_arg hargs
        exact absurd hcl (by simp [clsOf])
       ·cases hc
      ·cases hc
     ·split at hc
      ·rename_i hname
       split at hc
       ·rename_i x' y'
        cases hc
        obtain ⟨x,y,hxy,hx',hy'⟩:=two_args hargs
        obtain ⟨v,h1,h2⟩:=(ok_ixb (call:=call) C hx' hy' h).does C
        exact ⟨v,h1,extern_sim ho hcv hf hn hb (findNext_none (by rw [hname]; exact look_next3) hor) (find_indexByte hname) (by rw [hxy,map_two]; exact h2)⟩
       ·cases hc
      ·cases hc
  ·cases hc
 ·rename_i f hnf hcv
  have hq:=bind_some hc
  clear hc
  obtain ⟨f',hf',hc⟩:=hq
  obtain ⟨args,hargs,e⟩:=map_some hc; subst e
  have ha:=C.opds hargs
  exact absurd hcl (by simp [clsOf])
 ·rename_i recv name hcv
  have hq:=bind_some hc
  clear hc
  obtain ⟨x',hx',hc⟩:=hq
  obtain ⟨args,hargs,e⟩:=map_some hc; subst e
  have ha:=C.opds hargs
  exact absurd hcl (by simp [clsOf])
 ·rename_i b hcv
  have hq:=bind_some hc
  clear hc
  obtain ⟨args,hargs,hc⟩:=hq
  split at hc
  ·rename_i x' t hat
   have hat:=toList_one hat
   obtain ⟨x,hx,hx'⟩:=one_arg hargs
   split at hc
   ·rename_i ht; cases hc
    exact ((ok_len (str:=true) (t:=t) (call:=call) (ty:=o.type) ht C hx' h).simL C (builtin_exec ho hcv (by rw [hat,hx,map_one]; rfl)))
   ·rename_i el ht; cases hc
    exact ((ok_len (str:=false) (t:=t) (call:=call) (ty:=o.type) ⟨_,ht⟩ C hx' h).simL C (builtin_exec ho hcv (by rw [hat,hx,map_one]; rfl)))
   ·rename_i n el ht; cases hc
    exact ((ok_lenc (fr:=fr) (call:=call) (ty:=o.type) (v:=a.eval x) (.inl ⟨_,ht⟩) h).simL C (builtin_exec ho hcv (by rw [hat,hx,map_one]; rfl)))
   ·rename_i ar ht
    split at hc
    ·rename_i n el hta; cases hc
     exact ((ok_lenc (fr:=fr) (call:=call) (ty:=o.type) (v:=a.eval x) (.inr ⟨_,_,ht,hta⟩) h).simL C (builtin_exec ho hcv (by rw [hat,hx,map_one]; rfl)))
    ·cases hc
   ·cases hc
  ·rename_i x' t hat
   have hat:=toList_one hat
   obtain ⟨x,hx,hx'⟩:=one_arg hargs
   split at hc
   ·rename_i el ht; cases hc
    exact ((ok_cap (call:=call) (ty:=o.type) ht C hx' h).simL C (builtin_exec ho hcv (by rw [hat,hx,map_one]; rfl)))
   ·cases hc
  ·rename_i x' y' t u hat
   have hat:=toList_two hat
   obtain ⟨x,y,hxy,hx',hy'⟩:=two_args hargs
   split at hc
   ·cases hc
   ·rename_i el du hnd ht hu
    split at hc
    ·rename_i n bb zs hn hb hz
     have hq:=ite_none hc
     clear hc
     obtain ⟨hzl,hc⟩:=hq
     subst hc
     exact absurd hcl (by simp [clsOf])
    ·cases hc
   ·cases hc
  ·rename_i x' y' t u hat
   have hat:=toList_two hat
   obtain ⟨x,y,hxy,hx',hy'⟩:=two_args hargs
   split at hc
   ·rename_i el ht
    split at hc
    ·rename_i n hn; cases hc
     exact absurd hcl (by simp [clsOf])
    ·cases hc
   ·cases hc
  ·rename_i x' y' l hat; cases hc
   obtain ⟨x,y,hxy,hx',hy'⟩:=two_args hargs
   exact ((ok_mm (isMax:=false) (call:=call) (ts:=c.argTypes) (ty:=o.type) C hx' hy' h).simL C (builtin_exec ho hcv (by rw [hxy,map_two]; rfl)))
  ·rename_i x' y' l hat; cases hc
   obtain ⟨x,y,hxy,hx',hy'⟩:=two_args hargs
   exact ((ok_mm (isMax:=true) (call:=call) (ts:=c.argTypes) (ty:=o.type) C hx' hy' h).simL C (builtin_exec ho hcv (by rw [hxy,map_two]; rfl)))
  ·rename_i x' l hat; cases hc
   obtain ⟨x,hx,hx'⟩:=one_arg hargs
   exact ((ok_usd (call:=call) (ts:=c.argTypes) (ty:=o.type) C hx' h).simL C (builtin_exec ho hcv (by rw [hx,map_one]; rfl)))
  ·rename_i x' y' t u hat
   have hat:=toList_two hat
   obtain ⟨x,y,hxy,hx',hy'⟩:=two_args hargs
   split at hc
   ·rename_i el ht
    split at hc
    ·rename_i he hn
     have hq:=ite_none'' hc
     clear hc
     obtain ⟨h0,hc⟩:=hq
     cases hc
     exact absurd hcl (by simp [clsOf])
    ·cases hc
   ·cases hc
  ·cases hc
/-- An operation that turns no memory. -/
theorem light_ok {o : Oper} {q : AOp} (hc : compOp P o = some q) (hcl : clsOf q≤1) (C : Ctx P pr ι H fr a w) (h : xopK q call fr H k = some r) : ∃ v,k v H = some r∧Sim P pr ι o a w v H:=by
 by_cases hn : ∃ c,o.op = .call c
 ·obtain ⟨c,ho⟩:=hn
  have : compCall P c = some q:=by unfold compOp at hc; rw [ho] at hc; exact hc
  exact call_light ho this C hcl h
 ·exact not_call_light (fun c e=>hn ⟨c,e⟩) hc C hcl h
end
end Go.Vai
