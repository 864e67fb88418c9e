/- A verified interpreter of the model's code, and what the functions that read expressions tell by it: part 5 (Vaie, Vaif, Vaig, Vaih, Vaii, Vaij, Vaik, Vaim, Vain). No condition but those that each statement bears. -/
import Derived.Test.YtgnfndhmfgghdaaGreatDoorK04
import Derived.Below
import Derived.FnData
import Derived.Lib.LaidU8
import Derived.Lay
import Derived.MakeChecks
import Derived.LaidLaws
import Derived.Deep.DeepHandedRow
set_option linter.unusedVariables false
set_option linter.unusedSimpArgs false
set_option linter.unusedSectionVars false
set_option linter.constructorNameAsVariable false
set_option linter.unnecessarySimpa false
/- VAI,part e: a region that draws: one step,whatever comes next; all orders; the end. -/
namespace Go.Vai
section
variable {R : Type} {P : Program} {pr pr2 : Pr} {ι : Emb} {H H2 : Heap} {fr : Tr AV} {a : Act} {w : World} {call : CallK R} {k : HK R} {r : R}
theorem ld_inv {o : Oper} {t : TypeId} {ad : Operand} (ho : o.op = .load t ad) {q : AOp} (hc : compOp P o = some q) : ∃ g n x,q = .ld g n x∧compOpd P ad = some x∧aggOf P t = some g∧szOf P t = some n∧(g = true ∨ n = 1):=by
 unfold compOp at hc; rw [ho] at hc
 obtain ⟨x',hx,hc⟩:=bind_some hc
 obtain ⟨g',hg,hc⟩:=bind_some hc
 obtain ⟨n',hn,hc⟩:=bind_some hc
 obtain ⟨hgn,hc⟩:=ite_none' hc
 cases hc
 exact ⟨g',n',x',rfl,hx,hg,hn,by simpa using hgn⟩
theorem ld_sim {o : Oper} {t : TypeId} {ad : Operand} (ho : o.op = .load t ad) {q : AOp} (hc : compOp P o = some q) (C : Ctx P pr ι H fr a w) (C2 : Ctx P pr2 ι H2 fr a w) (h : xopK q call fr H2 k = some r) : ∃ v,k v H2 = some r∧Sim P pr ι o a w v H:=by
 obtain ⟨g,n,x,rfl,hx,hg,hn,hgn⟩:=ld_inv ho hc
 obtain ⟨v,h1,v',hv,hrun⟩:=ok_ld (call:=call) hg hn hgn C2 hx h
 have hp : PureOK P ι w H (fun y _=>some y) v (Instr.loadAt t (a.eval ad)):=⟨v,rfl,v',hv,hrun⟩
 obtain ⟨v2,e,hs⟩:=hp.simL C (by unfold execOp; rw [ho])
 cases e
 exact ⟨v,h1,hs⟩
theorem b2s_inv {o : Oper} {s d : TypeId} {x : Operand} (ho : o.op = .convert s d x) {q : AOp} (hc : compOp P o = some q) {fr' : Tr AV} {Gs : List Heap} (hq : homeOk q fr' Gs = true) :
  ∃ x' el,q = .b2s x'∧compOpd P x = some x'∧P.underlying s = some (.slice el)∧P.underlying d = some .string∧P.underlying el = some (.int .u8):=by
 unfold compOp at hc; rw [ho] at hc
 obtain ⟨x',hx,hc⟩:=bind_some hc
 unfold compConv at hc
 repeat' split at hc
 all_goals first
  | (cases hc; done)
  | (cases hc; exact ⟨x',_,rfl,hx,by assumption,by assumption,by assumption⟩)
  | (cases hc; cases hq; done)
theorem b2s_sim {o : Oper} {s d el : TypeId} {x : Operand} (ho : o.op = .convert s d x) {x' : Opd} (hx : compOpd P x = some x') (hs : P.underlying s = some (.slice el)) (hd : P.underlying d = some .string) (he : P.underlying el = some (.int .u8)) (C : Ctx P pr ι H fr a w) (C2 : Ctx P pr2 ι H2 fr a w) (h : xopK (.b2s x') call fr H2 k = some r) : ∃ v,k v H2 = some r∧Sim P pr ι o a w v H:=by
 obtain ⟨v,h1,v',hv,hrun⟩:=ok_b2s (call:=call) hs hd he C2 hx h
 have hp : PureOK P ι w H (fun y _=>some y) v (convert s d (a.eval x)):=⟨v,rfl,v',hv,hrun⟩
 obtain ⟨v2,e,hs⟩:=hp.simL C (by unfold execOp; rw [ho])
 cases e
 exact ⟨v,h1,hs⟩
end
section
variable {P : Program} {call : Call1} {n : Nat} {ops : Array Oper}
/-- What stands in memory at a place: what stood behind the last one of class 3,or a block made since. -/
theorem Rg.seg (G : Rg P call n ops) (hinit : (G.S 0).Gs = [(G.S 0).H]) : ∀ p,p≤ops.size→∃ H0 rest,(G.S p).Gs = H0 :: rest∧∀ a,(G.S p).H.get a = H0.get a ∨
  ∃ m e l f,m < p∧(G.X m).2.cls = 2∧(G.S m).n = (G.S p).n∧G.W m = true∧G.id m = a∧mkK (G.X m).1.o (G.S m).fr mkPair = some (e,l,f)∧(G.S p).H.get a = .cells false 0 e l.length (setCells l 0 .leaf)
 | 0,_=>⟨_,[],hinit,fun _=>.inl rfl⟩
 | p + 1,hp=>by
  obtain ⟨H0,rest,h1,h2⟩:=G.seg hinit p (by omega)
  have hst:=G.step p (by omega)
  have hc3:=G.cls3 p (by omega)
  have keep : (G.S (p + 1)).H = (G.S p).H→(G.S (p + 1)).Gs = (G.S p).Gs→(G.S (p + 1)).n = (G.S p).n→∃ H0 rest,(G.S (p + 1)).Gs = H0 :: rest∧∀ a,(G.S (p + 1)).H.get a = H0.get a ∨
    ∃ m e l f,m < p + 1∧(G.X m).2.cls = 2∧(G.S m).n = (G.S (p + 1)).n∧G.W m = true∧G.id m = a∧mkK (G.X m).1.o (G.S m).fr mkPair = some (e,l,f)∧(G.S (p + 1)).H.get a = .cells false 0 e l.length (setCells l 0 .leaf):=by
   intro e1 e2 e3
   refine ⟨H0,rest,e2.trans h1,fun a=>?_⟩
   rcases h2 a with q | ⟨m,e,l,f,q1,q2,q3,q4,q5,q6,q7⟩
   ·exact .inl (by rw [e1]; exact q)
   ·exact .inr ⟨m,e,l,f,by omega,q2,q3.trans e3.symm,q4,q5,q6,by rw [e1]; exact q7⟩
  by_cases e3 : (G.X p).2.cls = 3
  ·exact ⟨_,_,(hst.hard e3).1,fun _=>.inl rfl⟩
  by_cases e2 : (G.X p).2.cls = 2
  ·cases hw : G.W p with
   | false=>exact keep (hst.no hw).2 (hst.mid e2).1 (hst.mid e2).2.1
   | true =>
    obtain ⟨id,e,l,f,m1,m2,m3,m4⟩:=hst.make hw e2
    have hid : G.id p = id:=by unfold Rg.id; rw [m2]; rfl
    refine ⟨H0,rest,(hst.mid e2).1.trans h1,fun a=>?_⟩
    by_cases ea : id = a
    ·subst ea
     exact .inr ⟨p,e,l,f,by omega,e2,(hst.mid e2).2.1.symm,hw,hid,m1,by rw [m4,Heap.get_put,if_pos rfl]⟩
    ·rcases h2 a with q | ⟨m,e',l',f',q1,q2,q3,q4,q5,q6,q7⟩
     ·exact .inl (by rw [m4,Heap.get_put,if_neg ea]; exact q)
     ·exact .inr ⟨m,e',l',f',by omega,q2,q3.trans (hst.mid e2).2.1.symm,q4,q5,q6,by rw [m4,Heap.get_put,if_neg ea]; exact q7⟩
  ·obtain ⟨q1,q2,q3,_⟩:=hst.light (by omega)
   exact keep q1 q2 q3
end
theorem readOk_cases {o : AOp} {fr : Tr AV} {v : AV} {lo n : Nat} {Gs : List Heap} (h : readOk o fr v lo Gs n = true) : sameAll o fr v (loOf lo) Gs n = true ∨ (HM≤lo∧homeOk o fr Gs = true):=by
 unfold readOk at h
 unfold loOf
 cases e : Nat.ble HM lo with
 | false=>rw [e] at h; exact .inl h
 | true =>
  rw [e] at h
  cases q : homeOk o fr Gs with
  | false=>rw [q] at h; exact .inl h
  | true=>exact .inr ⟨Nat.le_of_ble_eq_true e,rfl⟩
section
variable {P : Program} {call : Call1} {n : Nat} {ops : Array Oper}
/-- The same,in a world that has gone on,where the one run's memory has not. -/
theorem Rg.Inv.move {G : Rg P call n ops} {pr : Pr} {ι0 ι ι' : Emb} {w0 w w' : World} {listed : Array Bool} {T : Nat} {blk : Nat→Nat} {a : Act} (h : G.Inv pr ι0 w0 listed T blk ι a w)
  (hext : Ext ι ι') (hrel : Rel (G.prD pr listed T blk) P.globals.size ι' (G.S T).H w'.heap) (hfr : Fr (G.prD pr listed T blk) w w') : G.Inv pr ι0 w0 listed T blk ι' a w':=by
 refine ⟨h.size,h.closed,h.tle,h.bound,h.pre,h.nohv,h.fr.mono hext,h.sz,h.nd,fun p hp=>?_,h.inj,hrel,h.ext.trans hext,h.frm.trans (hfr.weaken fun b hb=>G.prD_pr pr listed T blk b hb)⟩
 obtain ⟨e,l,f,m1,hpd⟩:=h.pend p hp
 exact ⟨e,l,f,m1,hpd.mono hext (hfr.keep _ (.inr (.inr ⟨p,hp,rfl⟩)))⟩
/-- The memories that were kept. -/
theorem Rg.gs_ext (G : Rg P call n ops) (T : Nat) : ∀ k,T + k≤ops.size→∃ l,(G.S (T + k)).Gs = l ++ (G.S T).Gs∧(G.S (T + k)).n = (G.S T).n + l.length
 | 0,_=>⟨[],rfl,rfl⟩
 | k + 1,hk=>by
  obtain ⟨l,h1,h2⟩:=G.gs_ext T k (by omega)
  have hst:=G.step (T + k) (by omega)
  have hc3:=G.cls3 (T + k) (by omega)
  by_cases e3 : (G.X (T + k)).2.cls = 3
  ·obtain ⟨q1,q2,_⟩:=hst.hard e3
   refine ⟨(G.S (T + k + 1)).H :: l,?_,?_⟩
   ·show (G.S (T + k + 1)).Gs = _
    rw [q1,h1]; rfl
   ·show (G.S (T + k + 1)).n = _
    rw [q2,h2]; simp only [List.length_cons]; omega
  ·refine ⟨l,?_,?_⟩
   ·show (G.S (T + k + 1)).Gs = _
    by_cases e2 : (G.X (T + k)).2.cls = 2
    ·rw [(hst.mid e2).1,h1]
    ·rw [(hst.light (by omega)).2.1,h1]
   ·show (G.S (T + k + 1)).n = _
    by_cases e2 : (G.X (T + k)).2.cls = 2
    ·rw [(hst.mid e2).2.1,h2]
    ·rw [(hst.light (by omega)).2.2.1,h2]
theorem sameAll_at {o : AOp} {fr : Tr AV} {v : AV} {lo m : Nat} {G0 : Heap} {rest : List Heap} (hlo : lo≤m) : ∀ (l : List Heap),sameAll o fr v lo (l ++ G0 :: rest) (m + l.length) = true→sameIn o fr v G0 = true
 | [],h=>by
  have h : (Bool.casesOn (Nat.ble lo m) true (Bool.casesOn (sameIn o fr v G0) false (sameAll o fr v lo rest (Nat.pred m))) : Bool) = true:=h
  rw [Nat.ble_eq_true_of_le hlo] at h
  exact (casesB h).1
 | x :: l,h=>by
  have h : (Bool.casesOn (Nat.ble lo (m + (l.length + 1))) true (Bool.casesOn (sameIn o fr v x) false (sameAll o fr v lo (l ++ G0 :: rest) (Nat.pred (m + (l.length + 1))))) : Bool) = true:=h
  rw [Nat.ble_eq_true_of_le (by omega)] at h
  have h2:=(casesB h).2
  exact sameAll_at hlo l h2
theorem sameIn_some {o : AOp} {fr : Tr AV} {v : AV} {H : Heap} (h : sameIn o fr v H = true) : ∃ H',xopK o noCall fr H pairK = some (v,H'):=by
 unfold sameIn at h
 cases e : xopK o noCall fr H pairK with
 | none =>
  have e' : xopK o noCall fr H (fun v' H'=>some (v',H')) = none:=e
  rw [e'] at h; cases h
 | some p =>
  have e' : xopK o noCall fr H (fun v' H'=>some (v',H')) = some p:=e
  rw [e'] at h
  have h : avEq v p.1 = true:=h
  exact ⟨p.2,by rw [avEq_eq h]⟩
/-- An operation that turns no memory: done in memory as it stood behind the last one of class 3 that was done. -/
theorem Rg.Inv.op_light {G : Rg P call n ops} {pr : Pr} {ι0 ι : Emb} {w0 w : World} {listed : Array Bool} {T : Nat} {blk : Nat→Nat} {a : Act} (h : G.Inv pr ι0 w0 listed T blk ι a w) (hinit : (G.S 0).Gs = [(G.S 0).H]) {p : Nat} (hp : p < ops.size)
  (hr : G.I p ∈ Region.ready .any ops listed) (hn : G.L listed p = false) (hw : G.W p = true) (hcl : (G.X p).2.cls≤1) {next : Act→World→Prop} {Q : Exit→Act→World→Prop}
  (hk : ∀ ι' v' w',Ext ι ι'→Rel (G.prD pr listed T blk) P.globals.size ι' (G.S T).H w'.heap→Fr (G.prD pr listed T blk) w w'→VR ι' (G.V p) v'→next (a.put (G.O p).dst v') w') : (G.O p).wp P a w next Q:=by
 have hst:=G.step p hp
 have hcls:=G.cls p hp
 have hsl:=(G.op_slots h.closed hp hr hn).1
 have hcomp:=G.comp p hp
 have fin : ∀ {c : CallK (AV × Heap)} {K : HK (AV × Heap)} {r : AV × Heap},xopK (G.X p).1.o c (G.fr listed ops.size) (G.S T).H K = some r→(∀ v,K v (G.S T).H = some r→v = G.V p)→(G.O p).wp P a w next Q:=by
  intro c K r hx hv
  rw [hcomp] at hx
  obtain ⟨q,hq,hx⟩:=op_getD hx
  have hq1 : clsOf q≤1:=by
   rw [hcls,hcomp,hq] at hcl; exact hcl
  obtain ⟨v,h1,h2⟩:=light_ok hq hq1 h.at_.ctx hx
  rw [hv v h1] at h2
  exact h2 next Q hk
 rcases Nat.lt_or_ge (G.X p).2.cls 1 with e | e
 ·have e0 : (G.X p).2.cls = 0:=by omega
  obtain ⟨H1,hx⟩:=hst.pure hw e0
  rw [← xop_congr hsl,pure_mem (hcls.symm.trans e0) _ (call (AV × Heap)) _ _ (G.S T).H] at hx
  refine fin hx fun v hv=>?_
  cases hv; rfl
 ·have e1 : (G.X p).2.cls = 1:=by omega
  obtain ⟨⟨H1,hrd⟩,hok⟩:=hst.read hw e1
  rcases readOk_cases hok with hsame | ⟨hm,hhome⟩
  case inr =>
   obtain ⟨hld,hmk⟩:=G.home p hp hm
   obtain ⟨H0,rest,hGs,hall⟩:=G.seg hinit p (by omega)
   have C:=h.at_.ctx
   have core : ∀ pa : Pa,isDead (H0.get pa) = true→isDead ((G.S p).H.get pa) = false→∃ (pr2 : Pr) (H2 : Heap),Ctx P pr2 ι H2 (G.fr listed ops.size) a w∧H2.get pa = (G.S p).H.get pa:=by
    intro pa hhome hnd
    rcases hall pa with hsm | ⟨m,e,l,f,m1,m2,m3,m4,m5,m6,m7⟩
    ·rw [hsm,hhome] at hnd; cases hnd
    ·have hmp : m < ops.size:=by omega
     have hL:=G.ready_hang h.closed hp hr hmp (hmk m m1 m2 m3)
     have hTp:=h.place hn
     have hTm : T≤m:=by
      rcases Nat.lt_or_ge m T with g | g
      ·exfalso
       rcases h.bound with e0 | ⟨q',e0,h3⟩
       ·omega
       ·have hq' : q' < ops.size:=by have:=h.tle; omega
        have hne : m ≠ q':=by intro e4; subst e4; omega
        obtain ⟨_,_,n1⟩:=G.gs_ext m (q' - m) (by omega)
        rw [show m + (q' - m) = q' by omega] at n1
        have n2:=((G.step q' hq').hard h3).2.1
        obtain ⟨_,_,n3⟩:=G.gs_ext T (p - T) (by omega)
        rw [show T + (p - T) = p by omega] at n3
        rw [e0] at n3
        omega
      ·exact g
     have hwait : G.wait listed T m:=⟨hTm,hmp,hL,m2,m4⟩
     obtain ⟨e',l',f',m6',hpd⟩:=h.pend m hwait
     rw [m6] at m6'; cases m6'
     rw [m5] at hpd
     have R2:=h.rel.open_ (pr2:=⟨pr.soft,fun b=>(G.prD pr listed T blk).hard b∧b ≠ blk m,(G.prD pr listed T blk).res,pr.ds⟩) hpd (.inr ⟨m,hwait,rfl⟩) rfl rfl (fun b q=>q) (fun _ q=>q)
     exact ⟨_,_,⟨R2,C.fr⟩,by rw [Heap.get_put,if_pos rfl,m7]⟩
   have hx0:=hrd
   rw [hcomp] at hx0
   obtain ⟨q,hq,_⟩:=op_getD hx0
   have hXo : (G.X p).1.o = q:=by rw [hcomp,hq]; rfl
   rw [hXo] at hrd hhome hsl
   rw [hGs] at hhome
   have hops : (∃ t ad,(G.O p).op = .load t ad) ∨ ∃ s d x,(G.O p).op = .convert s d x:=by
    cases e : (G.O p).op <;> first | exact .inl ⟨_,_,rfl⟩ | exact .inr ⟨_,_,_,rfl⟩ | (rw [e] at hld; cases hld)
   rcases hops with ⟨t,ad,ho⟩ | ⟨s,d,x0,ho⟩
   ·obtain ⟨g,nn,x,rfl,hxo,hg,hn',hgn⟩:=ld_inv ho hq
    have hsx : ev (G.fr listed ops.size) x = ev (G.S p).fr x:=hsl x (by simp [AOp.opds])
    have hrd : xLd g nn x (call (AV × Heap)) (G.S p).fr (G.S p).H pairK = some (G.V p,H1):=hrd
    unfold xLd at hrd; rw [evK_eq] at hrd
    rcases vP_some hrd with ⟨_,h1⟩ | ⟨pa,off,ep,h1⟩
    ·cases h1
    have hhome : oB (evK (G.S p).fr x fun v=>some (home1 (H0 :: rest) v)) = true:=hhome
    rw [evK_eq,ep] at hhome
    have hhome : oB (H0.getK pa fun b=>some (isDead b)) = true:=hhome
    rw [Heap.getK_eq] at hhome
    have hhome : isDead (H0.get pa) = true:=hhome
    have h1 : loadK g nn pa off (G.S p).H (fun v=>some (v,(G.S p).H)) = some (G.V p,H1):=h1
    have hnd : isDead ((G.S p).H.get pa) = false:=by
     unfold loadK at h1
     rw [Heap.getK_eq] at h1
     cases hb : (G.S p).H.get pa with
     | dead=>rw [hb] at h1; cases h1
     | cells ro fz e size c=>rfl
     | iter a b c=>rfl
    obtain ⟨pr2,H2,C2,hget⟩:=core pa hhome hnd
    have hx2 : xopK (.ld g nn x) (call (AV × Heap)) (G.fr listed ops.size) H2 (fun v _=>some (v,(G.S p).H)) = some (G.V p,H1):=by
     show evK (G.fr listed ops.size) x (fun v=>vP v none fun a off=>loadK g nn a off _ fun v=>some (v,(G.S p).H)) = _
     rw [evK_eq,hsx,ep]
     show loadK g nn pa off _ (fun v=>some (v,(G.S p).H)) = _
     unfold loadK at h1 ⊢
     rw [Heap.getK_eq] at h1
     rw [Heap.getK_eq,hget]
     exact h1
    obtain ⟨v,k1,hs⟩:=ld_sim ho hq C C2 hx2
    cases k1
    exact hs next Q hk
   ·obtain ⟨x,el,rfl,hxo,hs1,hd1,he1⟩:=b2s_inv ho hq hhome
    have hsx : ev (G.fr listed ops.size) x = ev (G.S p).fr x:=hsl x (by simp [AOp.opds])
    have hrd : xB2s x (call (AV × Heap)) (G.S p).fr (G.S p).H pairK = some (G.V p,H1):=hrd
    unfold xB2s at hrd; rw [evK_eq] at hrd
    have hhome : oB (evK (G.S p).fr x fun v=>some (home2 (H0 :: rest) v)) = true:=hhome
    rw [evK_eq] at hhome
    rcases vL_some hrd with ⟨ep,_⟩ | ⟨pa,off,len,cp,sz,ep,h1⟩
    ·rw [ep] at hhome; cases hhome
    rw [ep] at hhome
    have hhome : oB (H0.getK pa fun b=>some (isDead b)) = true:=hhome
    rw [Heap.getK_eq] at hhome
    have hhome : isDead (H0.get pa) = true:=hhome
    have h1 : guardK (Nat.beq sz 1) (rangeCK len pa off (G.S p).H fun l=>packK l 0 0 fun m n=>some (AV.s m n,(G.S p).H)) = some (G.V p,H1):=h1
    have hnd : isDead ((G.S p).H.get pa) = false:=by
     obtain ⟨_,h2⟩:=guardK_some h1
     unfold rangeCK at h2
     rw [Heap.getK_eq] at h2
     cases hb : (G.S p).H.get pa with
     | dead=>rw [hb] at h2; cases h2
     | cells ro fz e size c=>rfl
     | iter a b c=>rfl
    obtain ⟨pr2,H2,C2,hget⟩:=core pa hhome hnd
    have hx2 : xopK (.b2s x) (call (AV × Heap)) (G.fr listed ops.size) H2 (fun v _=>some (v,(G.S p).H)) = some (G.V p,H1):=by
     show evK (G.fr listed ops.size) x (fun v=>vL v (some (AV.s 0 0,(G.S p).H)) fun a off len _ sz=>guardK (Nat.beq sz 1) (rangeCK len a off _ fun l=>packK l 0 0 fun m n=>some (AV.s m n,(G.S p).H))) = _
     rw [evK_eq,hsx,ep]
     show guardK (Nat.beq sz 1) (rangeCK len pa off _ fun l=>packK l 0 0 fun m n=>some (AV.s m n,(G.S p).H)) = _
     unfold rangeCK at h1 ⊢
     rw [Heap.getK_eq] at h1
     rw [Heap.getK_eq,hget]
     exact h1
    obtain ⟨v,k1,hs⟩:=b2s_sim ho hxo hs1 hd1 he1 C C2 hx2
    cases k1
    exact hs next Q hk
  have hTp:=h.place hn
  obtain ⟨l,g1,g2⟩:=G.gs_ext T (p - T) (by omega)
  rw [show T + (p - T) = p by omega] at g1 g2
  have hhead : ∃ rest,(G.S T).Gs = (G.S T).H :: rest:=by
   rcases h.bound with e | ⟨q,e,h3⟩
   ·subst e; exact ⟨[],hinit⟩
   ·subst e
    have hq : q < ops.size:=by have:=h.tle; omega
    exact ⟨_,((G.step q hq).hard h3).1⟩
  obtain ⟨rest,hhd⟩:=hhead
  have hlo : loOf (G.X p).2.lo≤(G.S T).n:=by
   rcases G.lo p hp with e | ⟨q,hq,h3,hh,e⟩
   ·omega
   ·have hL:=G.ready_hang h.closed hp hr hq hh
    have hqT : q < T:=by
     rcases Nat.lt_or_ge q T with g | g
     ·exact g
     ·have:=h.nohv q g hq h3; rw [hL] at this; cases this
    obtain ⟨l',_,g4⟩:=G.gs_ext (q + 1) (T - (q + 1)) (by have:=h.tle; omega)
    rw [show q + 1 + (T - (q + 1)) = T by omega] at g4
    omega
  rw [g1,g2,hhd] at hsame
  obtain ⟨H',hx⟩:=sameIn_some (sameAll_at hlo l hsame)
  rw [← xop_congr hsl] at hx
  refine fin hx fun v hv=>?_
  cases hv; rfl
/-- How many are not done. -/
def Rg.cnt (G : Rg P call n ops) (listed : Array Bool) : Nat:=((List.range ops.size).filter fun p=>!G.L listed p).length
theorem Rg.cnt_set (G : Rg P call n ops) {listed : Array Bool} (hs : listed.size = ops.size) {p : Nat} (hp : p < ops.size) (hn : G.L listed p = false) : G.cnt (listed.setIfInBounds (G.I p) true) < G.cnt listed:=by
 unfold Rg.cnt
 have e : (List.range ops.size).filter (fun q=>!G.L (listed.setIfInBounds (G.I p) true) q) = ((List.range ops.size).filter fun q=>!G.L listed q).filter (fun q=>q != p):=by
  rw [List.filter_filter]
  refine List.filter_congr fun q hq=>?_
  rw [G.L_set hs hp q (List.mem_range.mp hq)]
  by_cases e : q = p
  ·rw [if_pos e]; simp [e]
  ·rw [if_neg e]; simp [e]
 rw [e]
 refine List.length_filter_lt_length_iff_exists.mpr ⟨p,List.mem_filter.mpr ⟨List.mem_range.mpr hp,by simp [hn]⟩,by simp⟩
theorem Rg.Inv.all_done {G : Rg P call n ops} {pr : Pr} {ι0 ι : Emb} {w0 w : World} {listed : Array Bool} {T : Nat} {blk : Nat→Nat} {a : Act} (h : G.Inv pr ι0 w0 listed T blk ι a w) (hr : Region.ready .any ops listed = []) : ∀ p,p < ops.size→G.L listed p = true:=by
 intro p
 induction p using Nat.strongRecOn with
 | ind p ih =>
  intro hp
  cases hL : G.L listed p with
  | true=>rfl
  | false =>
   exfalso
   have hi : G.I p < listed.size:=by rw [h.size]; exact G.lt p hp
   have hm : G.I p ∈ Region.ready .any ops listed:=by
    refine mem_ready.mpr ⟨?_,G.O p,G.op p hp,fun e he hb=>?_⟩
    ·unfold Rg.L at hL
     rw [Array.getD_eq_getD_getElem?,getElem?_pos listed _ hi] at hL ⊢
     exact hL
    ·obtain ⟨q,hq,e1,e2⟩:=G.edge p e hp (Array.mem_toList_iff.mpr he) hb
     have:=ih q (G.ahead p q hp hq e2) hq
     rw [e1]; exact this
   rw [hr] at hm; cases hm
theorem Rg.Inv.finish {G : Rg P call n ops} {pr : Pr} {ι0 ι : Emb} {w0 w : World} {listed : Array Bool} {T : Nat} {blk : Nat→Nat} {a : Act} (h : G.Inv pr ι0 w0 listed T blk ι a w) (hall : ∀ p,p < ops.size→G.L listed p = true) :
  At P pr n ι (G.S ops.size).H (G.S ops.size).fr a w:=by
 have R:=h.open_ (ops.size - T) (by have:=h.tle; omega) fun q _ h2=>hall q (by have:=h.tle; omega)
 rw [show T + (ops.size - T) = ops.size by have:=h.tle; omega] at R
 refine ⟨⟨R.weaken (fun b hb=>G.prD_pr pr listed _ blk b hb) (fun _ q=>.inl q) (fun _ q=>.inl q),fun t=>?_⟩,h.sz,h.nd⟩
 have:=h.fr t
 rw [G.fr_all ops.size (Nat.le_refl _),← frL_congr (L:=G.L listed) (q:=toPa t) ops.size fun p hp _=>hall p hp]
 exact this
theorem Rg.Inv.any {G : Rg P call n ops} {pr : Pr} {ι0 : Emb} {w0 : World} (hcall : CallsOK P call) (hinit : (G.S 0).Gs = [(G.S 0).H]) (hid : G.Ids pr) {Q : Exit→Act→World→Prop}
  (hend : ∀ ι a w,Ext ι0 ι→Fr pr w0 w→At P pr n ι (G.S ops.size).H (G.S ops.size).fr a w→Q .normal a w) :
  ∀ (fuel : Nat) (listed : Array Bool) (T : Nat) (blk : Nat→Nat) (ι : Emb) (a : Act) (w : World),G.Inv pr ι0 w0 listed T blk ι a w→G.cnt listed≤fuel→wpAny P .any ops Q fuel listed a w
 | fuel,listed,T,blk,ι,a,w,h,hcnt=>by
  have fin : Region.ready .any ops listed = []→Q .normal a w:=fun hr=>hend ι a w h.ext h.frm (h.finish (h.all_done hr))
  have place : ∀ i ∈ Region.ready .any ops listed,∃ p,p < ops.size∧G.I p = i∧G.L listed p = false:=by
   intro i hi
   obtain ⟨h1,o,ho,_⟩:=mem_ready.mp hi
   obtain ⟨p,hp,e⟩:=G.pos i (Array.getElem?_eq_some_iff.mp ho).1
   refine ⟨p,hp,e,?_⟩
   have hlt : G.I p < listed.size:=by rw [h.size]; exact G.lt p hp
   unfold Rg.L
   rw [← e] at h1
   rw [Array.getD_eq_getD_getElem?,getElem?_pos listed _ hlt] at h1 ⊢
   exact h1
  match fuel,hcnt with
  | 0,hcnt =>
   have hr : Region.ready .any ops listed = []:=by
    cases e : Region.ready .any ops listed with
    | nil=>rfl
    | cons i l =>
     obtain ⟨p,hp,_,hL⟩:=place i (by rw [e]; simp)
     have:=G.cnt_set h.size hp hL
     omega
   exact ⟨hr,fin hr⟩
  | fuel + 1,hcnt =>
   refine ⟨fin,fun i hi=>?_⟩
   obtain ⟨p,hp,e,hn⟩:=place i hi
   subst e
   have hcnt' : G.cnt (listed.setIfInBounds (G.I p) true)≤fuel:=by have:=G.cnt_set h.size hp hn; omega
   have go : ∀ {T' : Nat} {blk' : Nat→Nat} {ι' : Emb} {a' : Act} {w' : World},G.Inv pr ι0 w0 (listed.setIfInBounds (G.I p) true) T' blk' ι' a' w'→wpAny P .any ops Q fuel (listed.setIfInBounds (G.I p) true) a' w' :=
    fun h'=>Rg.Inv.any hcall hinit hid hend fuel _ _ _ _ _ _ h' hcnt'
   have hTp:=h.place hn
   have hst:=G.step p hp
   have hc3:=G.cls3 p hp
   have hcls:=G.cls p hp
   have hcomp:=G.comp p hp
   have hsl:=(G.op_slots h.closed hp hi hn).1
   have opn : (G.X p).2.cls = 3→Rel (G.prD pr listed p blk) P.globals.size ι (G.S p).H w.heap:=by
    intro h3
    have R:=h.open_ (p - T) (by omega) fun q _ h2=>G.ready_hang h.closed hp hi (by omega) (G.heavy p q hp (by omega) h3)
    rw [show T + (p - T) = p by omega] at R
    exact R
   unfold wpOp
   rw [G.op p hp]
   show (if Region.wanted (G.O p) (yielded ops a.tmps) then _ else _)
   rw [h.wanted hp hi hn]
   cases hw : G.W p with
   | false =>
    rw [if_neg (by simp)]
    obtain ⟨hV,hH⟩:=hst.no hw
    have hv : VR ι (G.V p) undef:=by rw [hV]; exact un_undef ι
    by_cases h3 : (G.X p).2.cls = 3
    ·refine go (h.heavy hp hi hn h3 (Ext.refl _) ?_ (Fr.refl _ _) hv)
     rw [hH]; exact opn h3
    ·exact go (h.light hp hi hn (by rw [hw]; simp) h3 hv)
   | true =>
    rw [if_pos rfl]
    left
    by_cases hl : (G.X p).2.cls≤1
    ·refine h.op_light hinit hp hi hn hw hl fun ι' v' w' hext hrel hfr hv=>?_
     exact go ((h.move hext hrel hfr).light hp hi hn (by omega) (by omega) hv)
    ·by_cases h2 : (G.X p).2.cls = 2
     ·obtain ⟨id,e,l,f,m1,m2,m3,m4⟩:=hst.make hw h2
      have m1' : mkK (G.X p).1.o (G.fr listed ops.size) mkPair = some (e,l,f):=by rw [mk_congr hsl]; exact m1
      have hq : ∃ q,compOp P (G.O p) = some q∧(G.X p).1.o = q:=by
       cases hq : compOp P (G.O p) with
       | none=>rw [hcomp,hq] at m1; cases m1
       | some q=>exact ⟨q,rfl,by rw [hcomp,hq]; rfl⟩
      obtain ⟨q,hq,eq⟩:=hq
      rw [eq] at m1'
      obtain ⟨cs,v',hrun,hcs,hvs,hv⟩:=mk_ok h.at_.ctx hq (G.makes p hp h2) m1'
      have hid' : G.id p = id:=by unfold Rg.id; rw [m2]; rfl
      have:=h.make hid hp hi hn h2 hw m1 (by rw [hid']; exact m3) hcs hvs hv
      unfold Oper.wp
      rw [hrun]
      exact go this
     ·have h3 : (G.X p).2.cls = 3:=by omega
      have hx:=hst.heavy hw h3
      rw [← xop_congr hsl,hcomp] at hx
      obtain ⟨q,hq,hx⟩:=op_getD hx
      have C : Ctx P (G.prD pr listed p blk) ι (G.S p).H (G.fr listed ops.size) a w:=⟨opn h3,h.fr⟩
      refine op_ok hq (hcall _ _) C hx _ _ fun v H' ι' v' w' e1 hext hrel hfr hv=>?_
      cases e1
      exact go (h.heavy hp hi hn h3 hext hrel hfr hv)
 termination_by fuel=>fuel
end
end Go.Vai

/- VAI,part f: a region that draws: from its compiled form to its places; DrawOK,and with it the soundness of the whole. -/
namespace Go.Vai
/-! Ids that are kept. -/
def keepL : Nat→Pa→List Pa
 | 0,_=>[]
 | n + 1,p=>p :: keepL n p.succ
def keepE : Nat→Pa→Pa
 | 0,p=>p
 | n + 1,p=>keepE n p.succ
theorem keepK_eq {R : Type} : ∀ (n : Nat) (p : Pa) (k : List Pa→Pa→Option R),keepK n p k = k (keepL n p) (keepE n p)
 | 0,_,_=>rfl
 | n + 1,p,k=>by
  show succK p (fun q=>keepK n q fun l r=>k (p :: l) r) = _
  rw [succK_eq,keepK_eq n]; rfl
theorem keepE_toN : ∀ (n : Nat) (p : Pa),(keepE n p).toN = p.toN + n
 | 0,_=>rfl
 | n + 1,p=>by
  show (keepE n p.succ).toN = _
  rw [keepE_toN n,Pa.toN_succ]; omega
theorem keepL_get : ∀ (n : Nat) (p : Pa) (i : Nat) (q : Pa),(keepL n p)[i]? = some q→q.toN = p.toN + i∧i < n
 | 0,p,i,q,h=>by simp [keepL] at h
 | n + 1,p,0,q,h=>by
  have : p = q:=by simpa [keepL] using h
  subst this; exact ⟨rfl,by omega⟩
 | n + 1,p,i + 1,q,h=>by
  obtain ⟨h1,h2⟩:=keepL_get n p.succ i q (by simpa [keepL] using h)
  rw [Pa.toN_succ] at h1
  exact ⟨by omega,by omega⟩
theorem cntH_succ (heavy : Nat→Bool) (l : List Nat) (m : Nat) (h : m < l.length) : cntH heavy l (m + 1) = cntH heavy l m + (if heavy (l.getD m 0) then 1 else 0):=by
 unfold cntH
 rw [List.take_succ_eq_append_getElem h,List.filter_append,List.length_append]
 have : l.getD m 0 = l[m]:=by rw [List.getD_eq_getElem?_getD,List.getElem?_eq_getElem h]; rfl
 rw [this]
 cases e : heavy l[m] <;> simp [e]
section
variable {P : Program} {call : Call1} {n : Nat} {ops : Array Oper}
/-- What the compiled form of a region that draws says. -/
theorem compDraw_inv {l : List AI} {nA : Nat} {xs : List (AI × DI)} (h : compDraw P ops l = some (.draw nA xs)) :
  drawOk P ops l (drawOrd ops l) = true∧(drawOrd ops l).mapM (drawRow ops l (drawOrd ops l)) = some xs∧nA = ((List.range l.length).filter fun i=>clsAt l i == 2).length:=by
 unfold compDraw at h
 obtain ⟨h1,h2⟩:=ite_none' h
 obtain ⟨ys,h3,e⟩:=map_some h2
 cases e
 exact ⟨h1,h3,rfl⟩
theorem blt_lt {a b : Nat} (h : Nat.blt a b = true) : a < b:=Nat.blt_eq.mp h
theorem drawRow_inv {l : List AI} {ord : List Nat} {i : Nat} {x : AI × DI} (h : drawRow ops l ord i = some x) :
  ∃ a,l[i]? = some a∧looksOk ops i a = true∧loAt (Region.before ops) (heavyAt l) ord l.length i < HM∧x = (a,⟨clsOf a.o,dlo ops (Region.before ops) l ord i a⟩):=by
 unfold drawRow at h
 obtain ⟨a,h1,h2⟩:=bind_some h
 obtain ⟨h3,h4⟩:=ite_none h2
 rw [Bool.and_eq_true] at h3
 exact ⟨a,h1,h3.1,blt_lt h3.2,h4.symm⟩
def lessC (c lo : Nat) : Nat:=Bool.casesOn (Nat.ble c lo) lo (Nat.sub lo c)
theorem mark_lt {c m : Nat} (h : m < c) : lessC c m = m:=by
 unfold lessC
 cases e : Nat.ble c m with
 | false=>rfl
 | true=>have:=Nat.le_of_ble_eq_true e; omega
theorem sub_mark (m c : Nat) : Nat.sub (m + c) c = m:=Nat.add_sub_cancel m c
theorem mark_at {c m : Nat} : lessC c (m + c) = m:=by
 unfold lessC
 have h : Nat.ble c (m + c) = true:=Nat.ble_eq_true_of_le (by omega)
 rw [h]
 exact sub_mark m c
theorem loOf_eq (lo : Nat) : loOf lo = lessC HM lo:=rfl
theorem loOf_lt {m : Nat} (h : m < HM) : loOf m = m:=by rw [loOf_eq]; exact mark_lt h
theorem loOf_mark {m : Nat} : loOf (m + HM) = m:=by rw [loOf_eq]; exact mark_at
/-- The mark,as a number that is not looked into. -/
def dmk1 (c : Nat) (b : Bool) : Nat:=if b then c else 0
theorem dlo_eq {b : Array Nat} {l : List AI} {ord : List Nat} {i : Nat} {a : AI} : dlo ops b l ord i a = loAt b (heavyAt l) ord l.length i + dmk1 HM (homed ops b l ord i a):=rfl
theorem loOf_dlo {b : Array Nat} {l : List AI} {ord : List Nat} {i : Nat} {a : AI} (h : loAt b (heavyAt l) ord l.length i < HM) : loOf (dlo ops b l ord i a) = loAt b (heavyAt l) ord l.length i:=by
 rw [dlo_eq]
 cases homed ops b l ord i a with
 | true=>exact loOf_mark
 | false=>exact loOf_lt h
theorem homed_of {b : Array Nat} {l : List AI} {ord : List Nat} {i : Nat} {a : AI} (h : loAt b (heavyAt l) ord l.length i < HM) (h2 : HM≤dlo ops b l ord i a) : homed ops b l ord i a = true:=by
 rw [dlo_eq] at h2
 cases e : homed ops b l ord i a with
 | true=>rfl
 | false =>
  rw [e] at h2
  exact absurd h2 (Nat.not_le_of_lt h)
theorem idx_at {ord : List Nat} {p : Nat} (hp : p < ord.length) (hinj : ∀ q,q < ord.length→ord.getD q 0 = ord.getD p 0→q = p) : ord.idxOf (ord.getD p 0) = p:=by
 have hm : ord.getD p 0 ∈ ord:=by
  rw [List.getD_eq_getElem?_getD,List.getElem?_eq_getElem hp]; exact List.getElem_mem hp
 have h1 : ord.idxOf (ord.getD p 0) < ord.length:=List.idxOf_lt_length_iff.mpr hm
 refine hinj _ h1 ?_
 rw [List.getD_eq_getElem?_getD,List.getElem?_eq_getElem h1]
 exact List.getElem_idxOf h1
theorem drawOK (P : Program) : DrawOK P:=by
 intro call hcall R pr n id ops l nA xs hl hdraw ι H fr a w k r hat h Q hQ
 obtain ⟨hok,hxs,hnA⟩:=compDraw_inv hdraw
 obtain ⟨hlen,hget⟩:=mapM_get hl
 have hlen : l.length = ops.size:=by rw [hlen]; simp
 unfold drawOk at hok
 rw [Bool.and_eq_true,Bool.and_eq_true,Bool.and_eq_true] at hok
 obtain ⟨⟨⟨hmix,hclose⟩,hslots⟩,horder⟩:=hok
 rw [hlen] at hclose hslots horder
 generalize hord : drawOrd ops l = ord at *
 have F:=ordOK_of hclose hslots horder
 generalize hb : Region.before ops = b at *
 obtain ⟨hxlen,hxget⟩:=mapM_get hxs
 have hxl : xs.length = ops.size:=by rw [hxlen]; exact F.len
 have ordg : ∀ p,p < ops.size→ord[p]? = some (ord.getD p 0):=fun p hp=>by
  have : p < ord.length:=by rw [F.len]; exact hp
  rw [List.getD_eq_getElem?_getD,List.getElem?_eq_getElem this]; rfl
 have row : ∀ p,p < ops.size→∃ x o a',xs[p]? = some x∧ops[ord.getD p 0]? = some o∧l[ord.getD p 0]? = some a'∧looksOk ops (ord.getD p 0) a' = true∧compAI P n ops o = some a'∧x = (a',⟨clsOf a'.o,dlo ops b l ord (ord.getD p 0) a'⟩)∧loAt b (heavyAt l) ord l.length (ord.getD p 0) < HM:=by
  intro p hp
  obtain ⟨x,hx,hr⟩:=hxget p _ (ordg p hp)
  obtain ⟨a',h1,h2,hlt,h3⟩:=drawRow_inv hr
  have hi:=F.lt p hp
  have ho : ops[ord.getD p 0]? = some ops[ord.getD p 0]:=getElem?_pos _ _ _
  obtain ⟨a'',h4,h5⟩:=hget (ord.getD p 0) _ (by rw [Array.getElem?_toList]; exact ho)
  rw [h1] at h4; cases h4
  rw [hb] at h3 hlt
  exact ⟨x,_,a',hx,ho,h1,h2,h5,h3,hlt⟩
 obtain ⟨nx,t⟩:=H
 have h : keepK nA nx (fun ids nx=>drawK call xs fr ⟨nx,t⟩ [⟨nx,t⟩] 0 ids k) = some r:=h
 rw [keepK_eq] at h
 obtain ⟨S,V,W,hS0,hstep,hend⟩:=draw_trace xs ⟨fr,⟨keepE nA nx,t⟩,[⟨keepE nA nx,t⟩],0,keepL nA nx⟩ (fun x hx=>by
  obtain ⟨p,hp,e⟩:=List.getElem_of_mem hx
  obtain ⟨x',o,a',h1,_,_,_,_,h6,_⟩:=row p (by omega)
  rw [List.getElem?_eq_getElem hp,e] at h1
  cases h1
  rw [h6]; exact clsOf_le _) h
 rw [hxl] at hend
 let X : Nat→AI × DI:=fun p=>(xs[p]?).getD (⟨none,none,.bad⟩,⟨0,0⟩)
 let O : Nat→Oper:=fun p=>(ops[ord.getD p 0]?).getD default
 have rowX : ∀ p,p < ops.size→∃ a',xs[p]? = some (X p)∧ops[ord.getD p 0]? = some (O p)∧l[ord.getD p 0]? = some a'∧looksOk ops (ord.getD p 0) a' = true∧compAI P n ops (O p) = some a'∧X p = (a',⟨clsOf a'.o,dlo ops b l ord (ord.getD p 0) a'⟩)∧loAt b (heavyAt l) ord l.length (ord.getD p 0) < HM:=by
  intro p hp
  obtain ⟨x,o,a',h1,h2,h3,h4,h5,h6,h7⟩:=row p hp
  have e1 : X p = x:=by show (xs[p]?).getD _ = x; rw [h1]; rfl
  have e2 : O p = o:=by show (ops[ord.getD p 0]?).getD _ = o; rw [h2]; rfl
  exact ⟨a',by rw [e1]; exact h1,by rw [e2]; exact h2,h3,h4,by rw [e2]; exact h5,by rw [e1]; exact h6,h7⟩
 have heavyX : ∀ p,p < ops.size→(heavyAt l (ord.getD p 0) = true ↔ (X p).2.cls = 3):=by
  intro p hp
  obtain ⟨a',_,_,h3,_,_,h6,_⟩:=rowX p hp
  rw [h6]
  unfold heavyAt clsAt
  rw [h3]
  simp
 have stepX : ∀ p,p < ops.size→DStep call (X p) (S p) (V p) (W p) (S (p + 1)):=fun p hp=>by
  obtain ⟨a',h1,_⟩:=rowX p hp
  exact hstep p _ h1
 have cntX : ∀ m,m≤ops.size→(S m).n = cntH (heavyAt l) ord m:=by
  intro m
  induction m with
  | zero=>intro _; rw [hS0]; rfl
  | succ m ih =>
   intro hm
   have ih:=ih (by omega)
   have st:=stepX m (by omega)
   have hx:=heavyX m (by omega)
   rw [cntH_succ _ _ _ (by rw [F.len]; omega),← ih]
   by_cases e3 : (X m).2.cls = 3
   ·rw [if_pos (hx.mpr e3)]; exact (st.hard e3).2.1
   ·rw [if_neg (fun e=>e3 (hx.mp e))]
    by_cases e2 : (X m).2.cls = 2
    ·exact (st.mid e2).2.1
    ·have : (X m).2.cls≤3:=by obtain ⟨a',_,_,_,_,_,h6,_⟩:=rowX m (by omega); rw [h6]; exact clsOf_le _
     exact (st.light (by omega)).2.2.1
 let G : Rg P call n ops:={
  I:=fun p=>ord.getD p 0
  O:=O
  X:=X
  S:=S
  V:=V
  W:=W
  hang:=fun p q=>(b.getD (ord.getD p 0) 0).testBit (ord.getD q 0) = true
  lt:=F.lt
  op:=fun p hp=>by obtain ⟨a',_,h2,_⟩:=rowX p hp; exact h2
  pos:=F.all
  inj:=F.inj
  edge:=fun p e hp he hbd=>by
   obtain ⟨a',_,h2,_⟩:=rowX p hp
   obtain ⟨h3,h4⟩:=F.edge _ _ e (F.lt p hp) h2 he hbd
   obtain ⟨q,hq,e1⟩:=F.all _ h3
   exact ⟨q,hq,e1.symm,by rw [e1]; exact h4⟩
  close:=fun p q hp hq hh=>by
   obtain ⟨a',_,h2,_⟩:=rowX p hp
   obtain ⟨e,he,hbd,h3⟩:=F.close _ _ _ (F.lt p hp) h2 (F.lt q hq) hh
   obtain ⟨h4,_⟩:=F.edge _ _ e (F.lt p hp) h2 he hbd
   obtain ⟨t',ht',e1⟩:=F.all _ h4
   refine ⟨e,he,hbd,t',ht',e1.symm,?_⟩
   rcases h3 with h3 | h3
   ·exact .inl (F.inj _ _ ht' hq (by rw [e1,h3]))
   ·exact .inr (by rw [e1]; exact h3)
  slots:=fun p q d hp hq hpq hd hn=>by
   obtain ⟨_,_,h2,_⟩:=rowX p hp
   obtain ⟨_,_,h3,_⟩:=rowX q hq
   exact F.slots _ _ _ _ d (F.lt p hp) (F.lt q hq) (fun e=>hpq (F.inj p q hp hq e)) h2 h3 hd hn
  ahead:=fun p q hp hq hh=>F.ahead p q hp hq hh
  heavy:=fun p q hp hq h3=>F.heavy p q hp hq ((heavyX p hp).mpr h3)
  dst:=fun p hp=>by
   obtain ⟨a',_,_,_,_,h5,h6,_⟩:=rowX p hp
   obtain ⟨d,g,h7,h8,_⟩:=compAI_some h5
   rw [h6,h8]; exact h7
  comp:=fun p hp=>by
   obtain ⟨a',_,_,_,_,h5,h6,_⟩:=rowX p hp
   obtain ⟨d,g,h7,h8,_⟩:=compAI_some h5
   rw [h6,h8]
  guard:=fun p hp=>by
   obtain ⟨a',_,_,_,_,h5,h6,_⟩:=rowX p hp
   obtain ⟨d,g,h7,h8,h9⟩:=compAI_some h5
   rw [h6,h8]; exact h9
  cls:=fun p hp=>by obtain ⟨a',_,_,_,_,_,h6,_⟩:=rowX p hp; rw [h6]
  cls3:=fun p hp=>by obtain ⟨a',_,_,_,_,_,h6,_⟩:=rowX p hp; rw [h6]; exact clsOf_le _
  makes:=fun p hp h2=>by
   obtain ⟨a',_,h3,_,h4,_,h6,_⟩:=rowX p hp
   unfold looksOk at h4
   rw [h3] at h4
   have h4 : ((!(clsOf a'.o == 2) || Vai.makes (O p).op) && (AOp.opds a'.o).all fun x=>Opd.casesOn x (fun p_1=>((O p).looksAt ops).any fun t=>p_1.same (toPa t)) (fun _=>true)) = true:=h4
   rw [Bool.and_eq_true] at h4
   have h5 : clsOf a'.o = 2:=by rw [h6] at h2; exact h2
   have:=h4.1
   rw [h5] at this
   simpa using this
  looks:=fun p x hp hx pa e=>by
   obtain ⟨a',_,h3,_,h4,_,h6,_⟩:=rowX p hp
   unfold looksOk at h4
   rw [h3] at h4
   have h4 : ((!(clsOf a'.o == 2) || Vai.makes (O p).op) && (AOp.opds a'.o).all fun x=>Opd.casesOn x (fun p_1=>((O p).looksAt ops).any fun t=>p_1.same (toPa t)) (fun _=>true)) = true:=h4
   rw [Bool.and_eq_true] at h4
   rw [h6] at hx
   have:=List.all_eq_true.mp h4.2 x hx
   subst e
   have this : (((O p).looksAt ops).any fun t=>pa.same (toPa t)) = true:=this
   obtain ⟨t',ht',e1⟩:=List.any_eq_true.mp this
   exact ⟨t',ht',Pa.same_eq e1⟩
  step:=stepX
  lo:=fun p hp=>by
   obtain ⟨a',_,_,_,_,_,h6,h7⟩:=rowX p hp
   rw [h6,loOf_dlo h7,hlen]
   rcases loAt_some b (heavyAt l) ord (ord.getD p 0) ops.size with h1 | ⟨q,hq,h1,h2,h3⟩
   ·exact .inl h1
   ·refine .inr ⟨q,hq,(heavyX q hq).mp h1,h2,?_⟩
    rw [cntX (q + 1) (by omega)]
    exact h3
  home:=fun p hp hm=>by
   obtain ⟨a',_,h2,_,_,_,h6,h7⟩:=rowX p hp
   rw [h6] at hm
   have hh:=homed_of h7 hm
   unfold homed at hh
   rw [idx_at (by rw [F.len]; exact hp) (fun q hq e=>F.inj q p (by rw [← F.len]; exact hq) hp e)] at hh
   rw [Bool.and_eq_true,Bool.and_eq_true,Bool.and_eq_true,h2] at hh
   obtain ⟨⟨⟨hld,_⟩,_⟩,hall⟩:=hh
   refine ⟨hld,fun m hmp hm2 hmn=>?_⟩
   have hmo : m < ops.size:=by omega
   have:=List.all_eq_true.mp hall m (List.mem_range.mpr hmp)
   obtain ⟨am,_,_,k3,_,_,k6,_⟩:=rowX m hmo
   have e1 : clsAt l (ord.getD m 0) = 2:=by
    unfold clsAt; rw [k3]
    rw [k6] at hm2; exact hm2
   rw [cntX m (by omega),cntX p (by omega)] at hmn
   rw [e1,hmn] at this
   simpa using this }
 have hids : ∀ m,m≤ops.size→∃ c,(∀ i y,(S m).ids[i]? = some y→y.toN = nx.toN + c + i∧y.toN < nx.toN + nA)∧∀ p,p < m→(X p).2.cls = 2→nx.toN≤(G.id p).toN∧(G.id p).toN < nx.toN + c∧(G.id p).toN < nx.toN + nA∧∀ q,q < p→(X q).2.cls = 2→(G.id q).toN < (G.id p).toN:=by
  intro m
  induction m with
  | zero =>
   intro _
   refine ⟨0,fun i y hy=>?_,fun p hp=>by omega⟩
   rw [hS0] at hy
   obtain ⟨h1,h2⟩:=keepL_get _ _ _ _ hy
   omega
  | succ m ih =>
   intro hm
   obtain ⟨c,h1,h2⟩:=ih (by omega)
   have st:=stepX m (by omega)
   by_cases e2 : (X m).2.cls = 2
   ·obtain ⟨_,_,idm,h3⟩:=st.mid e2
    have hid : G.id m = idm:=by show (S m).ids.headD .h = idm; rw [h3]; rfl
    have h0:=h1 0 idm (by rw [h3]; rfl)
    refine ⟨c + 1,fun i y hy=>?_,fun p hp hp2=>?_⟩
    ·have:=h1 (i + 1) y (by rw [h3]; exact hy)
     omega
    ·by_cases e : p = m
     ·subst e
      rw [hid]
      refine ⟨by omega,by omega,by omega,fun q hq hq2=>?_⟩
      have:=h2 q hq hq2
      omega
     ·have:=h2 p (by omega) hp2
      exact ⟨this.1,by omega,this.2.2.1,this.2.2.2⟩
   ·have hids : (S (m + 1)).ids = (S m).ids:=by
     by_cases e3 : (X m).2.cls = 3
     ·exact (st.hard e3).2.2
     ·have : (X m).2.cls≤3:=by obtain ⟨a',_,_,_,_,_,h6,_⟩:=rowX m (by omega); rw [h6]; exact clsOf_le _
      exact (st.light (by omega)).2.2.2
    refine ⟨c,fun i y hy=>h1 i y (by rw [← hids]; exact hy),fun p hp hp2=>?_⟩
    by_cases e : p = m
    ·subst e; exact (e2 hp2).elim
    ·exact h2 p (by omega) hp2
 obtain ⟨c,_,hidall⟩:=hids ops.size (Nat.le_refl _)
 have hId : G.Ids pr:=by
  refine ⟨fun p q hp hq hp2 hq2 e=>?_,fun p hp hp2 hres=>?_⟩
  ·rcases Nat.lt_trichotomy p q with g | g | g
   ·have:=(hidall q hq hq2).2.2.2 p g hp2; rw [e] at this; omega
   ·exact g
   ·have:=(hidall p hp hp2).2.2.2 q g hq2; rw [e] at this; omega
  ·have h1:=(hidall p hp hp2).1
   have h2:=(hat.ctx.rel.resv _ hres).2
   have h2 : (G.id p).toN < nx.toN:=h2
   omega
 have hS0H : (G.S 0).H = ⟨keepE nA nx,t⟩:=by show (S 0).H = _; rw [hS0]
 have hinit : (G.S 0).Gs = [(G.S 0).H]:=by show (S 0).Gs = [(S 0).H]; rw [hS0]
 have hL : ∀ p,G.L (Array.replicate ops.size false) p = false:=fun p=>by
  unfold Rg.L
  rw [Array.getD_eq_getD_getElem?,Array.getElem?_replicate]
  split <;> rfl
 have hnw : ∀ q,¬ G.wait (Array.replicate ops.size false) 0 q:=fun q hq=>by
  have:=hq.2.2.1; rw [hL] at this; cases this
 have Inv0 : G.Inv pr ι { w with drawn:=w.drawn + 1 } (Array.replicate ops.size false) 0 (fun _=>0) ι a { w with drawn:=w.drawn + 1 }:=by
  refine ⟨by simp,fun p q _ _ h1=>(by rw [hL] at h1; cases h1),Nat.zero_le _,.inl rfl,fun p hp=>(by omega),fun p _ _ _=>hL p,fun s=>?_,hat.sz,hat.nd,fun p hp=>(hnw p hp).elim,fun p q hp=>(hnw p hp).elim,?_,Ext.refl _,Fr.refl _ _⟩
  ·have e1 : Tr.get un (G.fr (Array.replicate ops.size false) ops.size) (toPa s) = Tr.get un (G.S 0).fr (toPa s):=by
    have:=frL_cut (L:=G.L (Array.replicate ops.size false)) (d:=G.d) (V:=G.V) (fr0:=(G.S 0).fr) (q:=toPa s) (m:=0) ops.size (fun q _ _ _=>hL q)
    rw [Nat.zero_add] at this
    exact this
   have e2 : (G.S 0).fr = fr:=by show (S 0).fr = fr; rw [hS0]
   rw [e1,e2]; exact hat.ctx.fr s
  ·rw [hS0H]
   refine hat.ctx.rel.reserve (by rw [keepE_toN]; omega) rfl ?_ ?_
   ·funext b'
    exact propext ⟨fun q=>q.elim (fun q=>q) fun ⟨p,hp,_⟩=>(hnw p hp).elim,fun q=>.inl q⟩
   ·rintro x (q | ⟨p,hp,hp2,_,e⟩)
    ·exact .inl q
    ·refine .inr ?_
     rw [← e,keepE_toN]
     have:=hidall p hp hp2
     exact ⟨this.1,this.2.2.1⟩
 have hany:=Rg.Inv.any (w0:={ w with drawn:=w.drawn + 1 }) hcall hinit hId (Q:=Q) (fun ι' a' w' hext hfr hat'=>hQ _ _ ι' a' w' hend hext hat' ⟨hfr.os,hfr.tape,hfr.output,hfr.size,hfr.keep⟩) ops.size _ 0 (fun _=>0) ι a _ Inv0 (by
  unfold Rg.cnt
  exact Nat.le_trans (List.length_filter_le _ _) (by simp))
 intro t'
 simp only [Region.schedule,hmix,if_true]
 exact wpAny_sound ops.size t' _ a _ hany
/-- A function called: what the abstract run tells,the call gives. -/
theorem go_ok {R : Type} {Φ : Tr AF} {pr : Pr} (hΦ : TblOK P Φ) {fuel f : Nat} {args : List AV} {args' : Array Value} {ι : Emb} {H : Heap} {w : World} {k : HK R} {r : R} (hrel : Rel pr P.globals.size ι H w.heap) (hv : VRs ι args args'.toList)
  (h : goK Φ fuel (toPa f) args H k = some r) :
  Calls P f args' w fun e w'=>∃ v H' v' ι',k v H' = some r∧e = .returned v'∧Ext ι ι'∧Rel pr P.globals.size ι' H' w'.heap∧Fr pr w w'∧VR ι' v v':=goK_ok hΦ (drawOK P) hrel hv h
end
end Go.Vai

/- VAI,part g: from a table of functions and a world's beginning to a call. -/
namespace Go.Vai
/-- What holds of each place of a tree. -/
def Tr.Forall {α : Type} : (Pa→α→Prop)→Tr α→Prop
 | _,.leaf=>True
 | Q,.node l x r=>Q .h x∧Tr.Forall (fun p=>Q (.l p)) l∧Tr.Forall (fun p=>Q (.r p)) r
theorem Tr.Forall.get {α : Type} {d : α} : ∀ {Q : Pa→α→Prop} {t : Tr α},t.Forall Q→(∀ p,Q p d)→∀ p,Q p (Tr.get d t p)
 | Q,.leaf,_,hd,p=>by rw [Tr.get_leaf]; exact hd p
 | Q,.node l x r,h,hd,.h=>h.1
 | Q,.node l x r,h,hd,.l p=>Tr.Forall.get (Q:=fun p=>Q (.l p)) h.2.1 (fun p=>hd (.l p)) p
 | Q,.node l x r,h,hd,.r p=>Tr.Forall.get (Q:=fun p=>Q (.r p)) h.2.2 (fun p=>hd (.r p)) p
def EntryOK (P : Program) (p : Pa) (x : AF) : Prop:=x = dfl ∨ (∃ fn,P.funcs[p.toN]? = some fn∧compF P fn = some x) ∨ (∃ g,x = .prim g∧PrimOK P p.toN g) ∨ ∃ z agg,x = .iter z agg∧IterOK P p.toN z agg
theorem entry_ok {P : Program} {fn : Func} {n : Nat} (h : P.funcs[n]? = some fn) : (compF P fn).getD dfl = dfl ∨ (∃ fn',P.funcs[n]? = some fn'∧compF P fn' = some ((compF P fn).getD dfl)) ∨ (∃ g,(compF P fn).getD dfl = .prim g∧PrimOK P n g) ∨ ∃ z agg,(compF P fn).getD dfl = .iter z agg∧IterOK P n z agg:=by
 cases e : compF P fn with
 | none=>exact .inl rfl
 | some x=>exact .inr (.inl ⟨fn,h,e⟩)
theorem tblOK_of {P : Program} {Φ : Tr AF} (h : Φ.Forall (EntryOK P)) : TblOK P Φ:=fun f=>by
 have:=h.get (d:=dfl) (fun _=>.inl rfl) (toPa f)
 unfold EntryOK at this
 rw [toN_toPa] at this
 exact this
/-! The beginning: package-level variables that are read alone,and what their cells hold. -/
/-- The abstract memory: n variables; those that are known. -/
noncomputable def begin_ (n : Nat) (l : List (Nat × List AV)) : Heap:=⟨toPa n,l.foldl (fun t x=>Tr.set .dead (.cells true 0 0 x.2.length (setCells x.2 0 .leaf)) t (toPa x.1)) .leaf⟩
/-- The model's block of a variable holds what is known of it. -/
def Knows (W : World) (x : Nat × List AV) : Prop:=∃ cs e f,W.heap[x.1]? = some (.cells cs e f)∧∀ ι,VRs ι x.2 cs.toList
/-- All that was there is left alone. -/
def keepAll (W : World) : Pr:=⟨fun b=>b < W.heap.size,fun _=>False,fun _=>False,[]⟩
def cellsAt (W : World) (g : Nat) : Nat:=match W.heap[g]? with | some (.cells cs _ _)=>cs.size | _=>0
def emb0 (n : Nat) (W : World) : Emb:=fun p=>if p.toN < n then some ⟨p.toN,0,cellsAt W p.toN,cellsAt W p.toN⟩ else none
theorem begin_get : ∀ (l : List (Nat × List AV)) (t : Tr Blk) (p : Pa),Tr.get .dead (l.foldl (fun t x=>Tr.set .dead (.cells true 0 0 x.2.length (setCells x.2 0 .leaf)) t (toPa x.1)) t) p = Tr.get .dead t p ∨
  ∃ x ∈ l,p = toPa x.1∧Tr.get .dead (l.foldl (fun t x=>Tr.set .dead (.cells true 0 0 x.2.length (setCells x.2 0 .leaf)) t (toPa x.1)) t) p = .cells true 0 0 x.2.length (setCells x.2 0 .leaf)
 | [],_,_=>.inl rfl
 | x :: l,t,p=>by
  rcases begin_get l (Tr.set .dead (.cells true 0 0 x.2.length (setCells x.2 0 .leaf)) t (toPa x.1)) p with h | ⟨y,hy,h1,h2⟩
  ·rw [List.foldl_cons,h,Tr.get_set]
   by_cases e : toPa x.1 = p
   ·rw [if_pos e]; exact .inr ⟨x,List.mem_cons_self ..,e.symm,rfl⟩
   ·rw [if_neg e]; exact .inl rfl
  ·exact .inr ⟨y,List.mem_cons_of_mem _ hy,h1,h2⟩
theorem begin_rel {W : World} {n : Nat} {l : List (Nat × List AV)} (hn : n≤W.heap.size) (hl : ∀ x ∈ l,x.1 < n∧Knows W x) : Rel (keepAll W) n (emb0 n W) (begin_ n l) W.heap:=by
 have hget : ∀ p,(begin_ n l).get p = .dead ∨ ∃ x ∈ l,p = toPa x.1∧(begin_ n l).get p = .cells true 0 0 x.2.length (setCells x.2 0 .leaf):=fun p=>by
  rcases begin_get l .leaf p with h | h
  ·rw [Tr.get_leaf] at h; exact .inl h
  ·exact .inr h
 have hnext : (begin_ n l).next.toN = n:=toN_toPa n
 refine ⟨fun a ha=>?_,fun a ha=>?_,fun a=>?_,fun a b j k _ hwa=>?_,fun a j hj=>?_,fun b hb=>?_,fun g hg=>⟨cellsAt W g,cellsAt W g,?_⟩,fun a ha=>ha.elim⟩
 ·rw [hnext] at ha
  unfold emb0; rw [if_neg (by omega)]
 ·rw [hnext] at ha
  rcases hget a with h | ⟨x,hx,e,_⟩
  ·exact h
  ·rw [e,toN_toPa] at ha
   have:=(hl x hx).1; omega
 ·rcases hget a with h | ⟨x,hx,e,h⟩
  ·rw [h]; trivial
  ·rw [h]
   obtain ⟨h1,cs,e',f,h2,h3⟩:=hl x hx
   have hj : emb0 n W a = some ⟨x.1,0,cs.size,cs.size⟩:=by
    unfold emb0
    rw [e,toN_toPa,if_pos h1]
    unfold cellsAt; rw [h2]
   have hlen:=VRs_length (h3 (emb0 n W))
   have hlen : cs.size = x.2.length:=by simpa using hlen
   refine ⟨_,hj,CR.of _ _ true 0 0 e' x.2 _ ⟨x.1,0,cs.size,cs.size⟩ _ cs f (by exact hlen) h2 (fun q=>(q rfl).elim) rfl (by show 0 + x.2.length≤cs.size; omega) (fun i y hy=>?_) (fun i y hy=>?_) (fun q=>(by cases q)),fun q=>q⟩
   ·have hi:=lt_of_get hy
    rw [setCells_get,if_pos ⟨by omega,by omega⟩,Nat.sub_zero,hy]; rfl
   ·obtain ⟨v,hv,hvr⟩:=VRs_get (h3 (emb0 n W)) i y hy
    rw [Array.getElem?_toList] at hv
    exact ⟨v,by show cs[0 + i]? = _; rw [Nat.zero_add]; exact hv,hvr⟩
 ·rcases hget a with h | ⟨x,hx,e,h⟩
  ·rw [h] at hwa; cases hwa
  ·rw [h] at hwa; cases hwa
 ·unfold emb0 at hj
  split at hj
  ·cases hj; show a.toN < _; omega
  ·cases hj
 ·rcases hb with q | q
  ·exact q
  ·exact q.elim
 ·unfold emb0; rw [toN_toPa,if_pos hg]
/-- The answer yes. -/
noncomputable def yesK : HK Unit:=fun v _=>vB v fun b=>Bool.casesOn b none (some ())
theorem yesK_some {v : AV} {H : Heap} (h : yesK v H = some ()) : v = .b true:=by
 obtain ⟨b,e,h1⟩:=vB_some h
 cases b with
 | true=>exact e
 | false=>cases h1
/-- A law whose abstract run says yes. -/
theorem walk_of {P : Program} {Φ : Tr AF} (hΦ : TblOK P Φ) {fuel f : Nat} {args : List AV} {args' : Array Value} {W : World} {l : List (Nat × List AV)} (hn : P.globals.size≤W.heap.size) (hl : ∀ x ∈ l,x.1 < P.globals.size∧Knows W x)
  (hv : ∀ ι,VRs ι args args'.toList) (h : goK Φ fuel (toPa f) args (begin_ P.globals.size l) yesK = some ()) : Calls P f args' W fun e w'=>e = .returned (.bool true)∧Go.RowKit.Below W.heap.size W w':=by
 refine (go_ok hΦ (begin_rel hn hl) (hv _) h).mono ?_
 rintro e w' ⟨v,H',v',ι',h1,rfl,_,_,hfr,hvr⟩
 rw [yesK_some h1] at hvr
 exact ⟨by rw [VRb hvr],⟨hfr.os,hfr.tape,hfr.output,hfr.size,fun k hk=>hfr.keep k (.inl hk)⟩⟩
/-- A table of numbers. -/
theorem knows_tab {P : Program} {W : World} {name : String} {k : IntKind} {zs : List Int} {g : Nat} (hg : P.globalNamed name = some g) (h : W.var? P name = some (zs.map fun z=>Value.int k z).toArray) : Knows W (g,zs.map fun z=>.i k z):=by
 unfold World.var? at h
 rw [hg,Option.bind_some] at h
 split at h
 ·rename_i cs e f hb
  cases h
  refine ⟨_,e,f,hb,fun ι=>?_⟩
  rw [List.toList_toArray]
  refine VRs_of (by simp) fun i x y hx hy=>?_
  rw [List.getElem?_map,Option.map_eq_some_iff] at hx hy
  obtain ⟨z,hz,e1⟩:=hx
  obtain ⟨z',hz',e2⟩:=hy
  rw [hz] at hz'; cases hz'
  subst e1; subst e2; rfl
 ·cases h
theorem knows_lt {W : World} {x : Nat × List AV} (h : Knows W x) : x.1 < W.heap.size:=by
 obtain ⟨cs,e,f,h1,_⟩:=h
 exact (Array.getElem?_eq_some_iff.mp h1).1
end Go.Vai

/- VAI,part h: a law that first asks whether the chapter's example holds: that question is answered once,and the rest is run by itself. -/
namespace Go.Vai
section
variable {P : Program} {pr : Pr} {ng : Nat} {ι : Emb} {H : Heap}
theorem noCall_ok {R : Type} : CallOK P pr (fun _ _ _ _=>none : CallK R):=fun _ _ _ _ _ _ _ _ _ _ h=>by cases h
/-- A law's rest: behind 'if !known() { return false }'. -/
noncomputable def restK (Φ : Tr AF) (fuel : Nat) (lA : List AI) (d : Option Pa) (lB : List AI) (oc : Opd) (r : AC) (res : List ARes) (args : List AV) (H : Heap) : Option Unit :=
 argsK args 0 .leaf fun fr=>opsK (fun _ _ _ _=>none) lA fr H fun fr H=>putK d (.b true) fr fun fr=>opsK (fun _ _ _ _=>none) lB fr H fun fr H =>
  evK fr oc fun v=>vB v fun t=>Bool.casesOn t (runK Φ fuel Unit r fr H (leaveK res yesK)) none
theorem compC_seq {n : Nat} {cd : Code} {a b : AC} (h : compC P n cd = some (.seq a b)) : ∃ x y,cd = .seq x y∧compC P n x = some a∧compC P n y = some b:=by
 unfold compC at h
 split at h <;> first | (cases h; done) | skip
 ·obtain ⟨_,h⟩:=ite_none' h
  obtain ⟨l,_,h1⟩:=bind_some h
  split at h1
  ·obtain ⟨_,_,e⟩:=compDraw_some h1; cases e
  ·cases h1
 ·rename_i x y
  obtain ⟨a',h1,h2⟩:=bind_some h
  obtain ⟨b',h3,e⟩:=map_some h2
  cases e
  exact ⟨x,y,rfl,h1,h3⟩
 ·obtain ⟨_,_,h1⟩:=bind_some h
  obtain ⟨_,_,h2⟩:=bind_some h1
  obtain ⟨_,_,e⟩:=map_some h2; cases e
 ·obtain ⟨_,_,e⟩:=map_some h; cases e
 ·obtain ⟨_,_,e⟩:=map_some h; cases e
 ·obtain ⟨_,h1⟩:=ite_none' h
  split at h1
  ·obtain ⟨_,h2⟩:=ite_none' h1
   obtain ⟨_,_,h3⟩:=bind_some h2
   obtain ⟨_,_,h4⟩:=bind_some h3
   obtain ⟨_,_,e⟩:=map_some h4; cases e
  ·cases h1
theorem compC_ops {n : Nat} {cd : Code} {l : List AI} (h : compC P n cd = some (.ops l)) : ∃ id ops,cd = .region id ops false∧ops.toList.mapM (compAI P n ops) = some l:=by
 unfold compC at h
 split at h <;> first | (cases h; done) | skip
 ·rename_i id ops draw
  obtain ⟨_,h⟩:=ite_none' h
  obtain ⟨l',hl,h1⟩:=bind_some h
  split at h1
  ·obtain ⟨_,_,e⟩:=compDraw_some h1; cases e
  ·rename_i hd
   cases h1
   refine ⟨id,ops,?_,hl⟩
   cases draw with
   | true=>exact (hd rfl).elim
   | false=>rfl
 ·obtain ⟨_,_,h2⟩:=bind_some h
  obtain ⟨_,_,e⟩:=map_some h2; cases e
 ·obtain ⟨_,_,h1⟩:=bind_some h
  obtain ⟨_,_,h2⟩:=bind_some h1
  obtain ⟨_,_,e⟩:=map_some h2; cases e
 ·obtain ⟨_,_,e⟩:=map_some h; cases e
 ·obtain ⟨_,_,e⟩:=map_some h; cases e
 ·obtain ⟨_,h1⟩:=ite_none' h
  split at h1
  ·obtain ⟨_,h2⟩:=ite_none' h1
   obtain ⟨_,_,h3⟩:=bind_some h2
   obtain ⟨_,_,h4⟩:=bind_some h3
   obtain ⟨_,_,e⟩:=map_some h4; cases e
  ·cases h1
theorem compC_cond {n : Nat} {cd : Code} {o : Opd} {a b : AC} (h : compC P n cd = some (.cond o a b)) : ∃ x c d,cd = .cond x c d∧compOpd P x = some o∧compC P n c = some a∧compC P n d = some b:=by
 unfold compC at h
 split at h <;> first | (cases h; done) | skip
 ·obtain ⟨_,h⟩:=ite_none' h
  obtain ⟨l,_,h1⟩:=bind_some h
  split at h1
  ·obtain ⟨_,_,e⟩:=compDraw_some h1; cases e
  ·cases h1
 ·obtain ⟨_,_,h2⟩:=bind_some h
  obtain ⟨_,_,e⟩:=map_some h2; cases e
 ·rename_i x c d
  obtain ⟨o',h1,h2⟩:=bind_some h
  obtain ⟨a',h3,h4⟩:=bind_some h2
  obtain ⟨b',h5,e⟩:=map_some h4
  cases e
  exact ⟨x,c,d,rfl,h1,h3,h5⟩
 ·obtain ⟨_,_,e⟩:=map_some h; cases e
 ·obtain ⟨_,_,e⟩:=map_some h; cases e
 ·obtain ⟨_,h1⟩:=ite_none' h
  split at h1
  ·obtain ⟨_,h2⟩:=ite_none' h1
   obtain ⟨_,_,h3⟩:=bind_some h2
   obtain ⟨_,_,h4⟩:=bind_some h3
   obtain ⟨_,_,e⟩:=map_some h4; cases e
  ·cases h1
/-- What a call of a function is,by its text. -/
theorem compCall_fn {c : Call} {f : Nat} {args : List Opd} (h : compCall P c = some (.call (toPa f) args)) : c.callee = .value (.func f)∧compOpds P c.args = some args∧∃ fn b,P.funcs[f]? = some fn∧fn.name ≠ "runtime.NumGoroutine"∧fn.body = some b:=by
 unfold compCall at h
 split at h
 ·rename_i g hcv
  obtain ⟨bs,h1,h2⟩:=bind_some h
  split at h2
  ·rename_i fn hf
   obtain ⟨hn,h3⟩:=ite_none'' h2
   split at h3
   ·rename_i b hb
    have h3:=Option.some.inj h3
    injection h3 with e1 e2
    have e1:=toPa_inj e1
    subst e1; subst e2
    exact ⟨hcv,h1,fn,b,hf,hn,hb⟩
   ·obtain ⟨_,h4⟩:=ite_none'' h3
    split at h4
    ·split at h4 <;> cases h4
    ·split at h4
     ·split at h4
      ·split at h4 <;> cases h4
      ·cases h4
     ·split at h4
      ·split at h4 <;> cases h4
      ·cases h4
  ·cases h2
 ·obtain ⟨_,_,h2⟩:=bind_some h
  obtain ⟨_,_,e⟩:=map_some h2; cases e
 ·obtain ⟨_,_,h2⟩:=bind_some h
  obtain ⟨_,_,e⟩:=map_some h2; cases e
 ·obtain ⟨_,_,h2⟩:=bind_some h
  repeat' (split at h2)
  all_goals first | (cases h2; done) | skip
  all_goals (obtain ⟨_,e⟩:=ite_none h2; cases e)
theorem compOp_call {o : Oper} (hn : ∀ c,o.op ≠ .call c) {f : Pa} {bs : List Opd} (eo : compOp P o = some (.call f bs)) : False:=by
 unfold compOp at eo
 split at eo
 all_goals first | (rename_i c ho; exact hn c ho) | skip
 all_goals (try unfold compConv at eo)
 all_goals repeat' (first | (cases eo; done) | (obtain ⟨_,_,e⟩:=map_some eo; cases e; done) | (replace eo:=bind_some eo; obtain ⟨_,_,eo⟩:=eo) | (split at eo))
noncomputable def lawK (Φ : Tr AF) (fuel : Nat) (kn : Pa) (af : AF) (args : List AV) (H : Heap) : Option Unit :=
 match af with
 | .mk (.seq (.ops lA) (.seq (.seq (.ops (⟨d,none,.call g []⟩ :: lB)) (.cond oc _ .skip)) r)) res=>guardK (g.same kn) (restK Φ fuel lA d lB oc r res args H)
 | _=>none
theorem knows_keep {W w : World} {x : Nat × List AV} (h : Knows W x) (hk : ∀ b,b < W.heap.size→w.heap[b]? = W.heap[b]?) : Knows w x:=by
 obtain ⟨cs,e,f,h1,h2⟩:=h
 exact ⟨cs,e,f,by rw [hk _ (Array.getElem?_eq_some_iff.mp h1).1]; exact h1,h2⟩
theorem compC_skip {n : Nat} {cd : Code} (h : compC P n cd = some .skip) {Q : Exit→Act→World→Prop} {a : Act} {w : World} (hQ : Q .normal a w) : cd.wp P Q a w:=by
 unfold compC at h
 split at h <;> first | (cases h; done) | skip
 ·exact wp_skip hQ
 ·obtain ⟨_,h⟩:=ite_none' h
  obtain ⟨l,_,h1⟩:=bind_some h
  split at h1
  ·obtain ⟨_,_,e⟩:=compDraw_some h1; cases e
  ·cases h1
 ·obtain ⟨_,_,h2⟩:=bind_some h
  obtain ⟨_,_,e⟩:=map_some h2; cases e
 ·obtain ⟨_,_,h1⟩:=bind_some h
  obtain ⟨_,_,h2⟩:=bind_some h1
  obtain ⟨_,_,e⟩:=map_some h2; cases e
 ·obtain ⟨_,_,e⟩:=map_some h; cases e
 ·obtain ⟨_,_,e⟩:=map_some h; cases e
 ·exact wp_label hQ
 ·obtain ⟨_,h1⟩:=ite_none' h
  split at h1
  ·obtain ⟨_,h2⟩:=ite_none' h1
   obtain ⟨_,_,h3⟩:=bind_some h2
   obtain ⟨_,_,h4⟩:=bind_some h3
   obtain ⟨_,_,e⟩:=map_some h4; cases e
  ·cases h1
/-- A law whose example holds,and whose rest says yes. -/
theorem law_of {Φ : Tr AF} (hΦ : TblOK P Φ) {fuel f kn : Nat} {fn : Func} (hf : P.funcs[f]? = some fn) {args : List AV} {args' : Array Value} {W : World} {l : List (Nat × List AV)} (hn : P.globals.size≤W.heap.size)
  (hl : ∀ x ∈ l,x.1 < P.globals.size∧Knows W x) (hv : ∀ ι,VRs ι args args'.toList)
  (hkn : ∀ w : World,P.globals.size≤w.heap.size→(∀ x ∈ l,Knows w x)→Calls P kn #[] w fun e w'=>e = .returned (.bool true)∧Go.RowKit.Below w.heap.size w w')
  (h : lawK Φ fuel (toPa kn) ((compF P fn).getD dfl) args (begin_ P.globals.size l) = some ()) : Calls P f args' W fun e w'=>e = .returned (.bool true)∧Go.RowKit.Below W.heap.size W w':=by
 generalize hH : begin_ P.globals.size l = H0 at h
 cases hcf : compF P fn with
 | none=>rw [hcf] at h; cases h
 | some af =>
  rw [hcf] at h
  replace h : lawK Φ fuel (toPa kn) af args H0 = some ():=h
  unfold lawK at h
  split at h
  ·rename_i lA d g lB oc cT r res
   obtain ⟨hg,hrest⟩:=guardK_some h
   clear h
   have hg:=Pa.same_eq hg
   subst hg
   obtain ⟨_,c,ac,rs,hb,hcc,hrs,e⟩:=compF_some hcf
   cases e
   obtain ⟨cA,c1,e1,hA,h1⟩:=compC_seq hcc
   obtain ⟨c2,cR,e2,h2,hR⟩:=compC_seq h1
   obtain ⟨cB,cC,e3,hB,hC⟩:=compC_seq h2
   obtain ⟨idA,opsA,e4,hlA⟩:=compC_ops hA
   obtain ⟨idB,opsB,e5,hlB⟩:=compC_ops hB
   obtain ⟨xo,cT',cS,e6,hxo,_,hS⟩:=compC_cond hC
   subst e1 e2 e3 e4 e5 e6
   refine (callsIn_wide.1 (callsIn_of_wp_marks (F:=Fence.wide) (n:=0) (R:=fun e w'=>∃ v H' v' ι',yesK v H' = some ()∧e = .returned v'∧Ext ι' ι'∧Rel (keepAll W) P.globals.size ι' H' w'.heap∧Fr (keepAll W) W w'∧VR ι' v v') hf hb trivial (wpIn_wide.2 ?_))).mono ?_
   rotate_left
   ·rintro e w' ⟨v,H',v',ι',q1,q2,_,_,q3,q4⟩
    rw [yesK_some q1] at q4
    rw [VRb q4] at q2
    exact ⟨q2,⟨q3.os,q3.tape,q3.output,q3.size,fun b hb=>q3.keep b (.inl hb)⟩⟩
   have R0 : Rel (keepAll W) P.globals.size (emb0 P.globals.size W) H0 W.heap:=by rw [← hH]; exact begin_rel hn hl
   unfold restK at hrest
   obtain ⟨t',g1,g2⟩:=argsK_eq args 0 .leaf (fun fr=>opsK (fun _ _ _ _=>none) lA fr H0 fun fr H=>putK d (.b true) fr fun fr=>opsK (fun _ _ _ _=>none) lB fr H fun fr H =>
    evK fr oc fun v=>vB v fun t=>Bool.casesOn t (runK Φ fuel Unit r fr H (leaveK res yesK)) none)
   rw [g1] at hrest
   have hat0 : At P (keepAll W) fn.ntmps (emb0 P.globals.size W) H0 t' { tmps:=args' ++ Array.replicate (fn.ntmps - args'.size) undef,defers:=[] } W :=
    ⟨⟨R0,args_ok (hv _) g2 _⟩,by show fn.ntmps≤(args' ++ Array.replicate (fn.ntmps - args'.size) undef).size; simp; omega,rfl⟩
   refine wp_seq (wp_region ?_)
   rw [List.range_eq_range']
   refine ops_ok hlA noCall_ok opsA.size 0 _ H0 t' _ W (by omega) hat0 hrest fun fr1 H1 ι1 a1 w1 k1 _ hat1 hfr1=>?_
   show (Code.seq (Code.seq (Code.region idB opsB false) (Code.cond xo cT' cS)) cR).wp P _ a1 w1
   refine wp_seq (wp_seq (wp_region ?_))
   rw [putK_eq] at k1
   obtain ⟨hlen,hget⟩:=mapM_get hlB
   have hlen : lB.length + 1 = opsB.size:=by simpa using hlen
   have h0 : 0 < opsB.size:=by omega
   have ho0 : opsB[0]? = some opsB[0]:=getElem?_pos _ _ _
   obtain ⟨ai,hai,hcomp⟩:=hget 0 opsB[0] (by rw [Array.getElem?_toList]; exact ho0)
   have hai : ai = ⟨d,none,.call (toPa kn) []⟩:=by simpa using hai.symm
   obtain ⟨d',g',hd,e7,hgd⟩:=compAI_some hcomp
   rw [hai] at e7
   have ed : d = d':=by injection e7
   have eg : g' = none:=by injection e7 with _ q _; exact q.symm
   have eo : compOp P opsB[0] = some (.call (toPa kn) []):=by
    have : (compOp P opsB[0]).getD .bad = .call (toPa kn) []:=by injection e7 with _ _ q; exact q.symm
    cases hq : compOp P opsB[0] with
    | none=>rw [hq] at this; cases this
    | some q=>rw [hq] at this; exact congrArg some this
   subst ed
   have hguard : (opsB[0]).guard = none:=by
    rcases hgd with ⟨q,_⟩ | ⟨_,_,_,_,_,_,q⟩
    ·exact q
    ·rw [eg] at q; cases q
   have hcall : ∃ c,(opsB[0]).op = .call c∧compCall P c = some (.call (toPa kn) []):=by
    cases ho : (opsB[0]).op
    case call c =>
     unfold compOp at eo
     rw [ho] at eo
     exact ⟨c,rfl,eo⟩
    all_goals exact (compOp_call (by rw [ho]; intro c e; cases e) eo).elim
   obtain ⟨c,ho,hcc2⟩:=hcall
   obtain ⟨hcv,hargs,fk,bk,hfk,hnk,hbk⟩:=compCall_fn hcc2
   have hempty : c.args = #[]:=by
    have hm:=(mapM_get (f:=compOpd P) (l:=c.args.toList) (ys:=[]) hargs).1
    exact Array.toList_eq_nil_iff.mp (List.eq_nil_of_length_eq_zero hm.symm)
   have hL : List.range opsB.size = 0 :: List.range' 1 lB.length:=by
    rw [← hlen,List.range_eq_range']
    rfl
   rw [hL]
   show wpOps P opsB _ (0 :: List.range' 1 lB.length) a1 w1
   unfold wpOps
   rw [ho0]
   show (if Region.wanted opsB[0] (yielded opsB a1.tmps) then _ else _)
   have hw : Region.wanted opsB[0] (yielded opsB a1.tmps) = true:=by unfold Region.wanted; rw [hguard]
   rw [hw,if_pos rfl]
   left
   have hrun : (execOp a1.eval opsB[0]).run P w1 = .ok (.enter kn #[]) w1:=by
    have hev : (Act.eval a1 (.func kn)) = .func (.func kn) #[] #[]:=rfl
    rw [execOp_call ho,resolve_value hcv,hev,hempty]
    simp only [Deferred.ofValue,Sem.run_bind,Sem.run_pure,Result.andThen_ok,invoke]
    rw [show (#[] ++ Array.map a1.eval #[] ++ #[] : Array Value) = #[] by simp]
    exact run_callFunc_body hfk hnk hbk _
   unfold Oper.wp
   rw [hrun]
   have hkeep1 : ∀ b,b < W.heap.size→w1.heap[b]? = W.heap[b]?:=fun b hb=>hfr1.keep b (.inl hb)
   refine (hkn w1 (Nat.le_trans hn hfr1.size) fun x hx=>knows_keep (hl x hx).2 hkeep1).mono ?_
   rintro e w2 ⟨rfl,hbel⟩
   have R2 : Rel (keepAll W) P.globals.size ι1 H1 w2.heap:=hat1.ctx.rel.below hbel.size hbel.block
   have hat2:=hat1.put hd (Ext.refl ι1) R2 (v:=.b true) (v':=.bool true) rfl
   have hfr2 : Fr (keepAll W) W w2:=⟨hbel.os.trans hfr1.os,hbel.tape.trans hfr1.tape,hbel.output.trans hfr1.output,Nat.le_trans hfr1.size hbel.size,fun b hb=>by
    have hb' : b < W.heap.size:=by
     rcases hb with q | q
     ·exact q
     ·exact q.elim
    rw [hbel.block b (Nat.lt_of_lt_of_le hb' hfr1.size)]; exact hfr1.keep b hb⟩
   refine ops_ok hlB noCall_ok lB.length 1 ι1 H1 _ _ w2 (by omega) hat2 k1 fun fr3 H3 ι3 a3 w3 k3 _ hat3 hfr3=>?_
   show (Code.cond xo cT' cS).wp P _ a3 w3
   rw [evK_eq] at k3
   obtain ⟨tt,e8,k4⟩:=vB_some k3
   cases tt with
   | true=>cases k4
   | false =>
    have hvo:=hat3.ctx.opd hxo
    rw [e8] at hvo
    refine wp_cond (VRb hvo) ?_
    rw [if_neg (by simp)]
    refine compC_skip hS ?_
    show cR.wp P _ a3 w3
    have k4 : runK Φ fuel Unit r fr3 H3 (leaveK res yesK) = some ():=k4
    have hfr13:=hfr2.trans hfr3
    refine wpIn_wide.1 ((runK_ok hΦ (drawOK P) fuel).ok none 0 Unit (keepAll W) fn.ntmps cR r hR (fun q=>by cases q) ι3 H3 fr3 a3 w3 _ () hat3 ⟨(fun d hd=>by cases hd),List.Pairwise.nil⟩ k4 _ ?_).1
    intro e fr' H' ι' a' w' pr' h5 hext hat hfr hm
    have leave : resK res fr' H' (fun l=>oneRes l H' yesK) = some ()→LeavesInM Fence.wide 0 P fn a'.tmps (fun e w'=>∃ v H' v' ι',yesK v H' = some ()∧e = .returned v'∧Ext ι' ι'∧Rel (keepAll W) P.globals.size ι' H' w'.heap∧Fr (keepAll W) W w'∧VR ι' v v') a'.defers .returning w':=by
     intro h6
     rw [hat.nd]
     have:=leaves_ok (pr0:=keepAll W) (w0:=W) (ι0:=ι') hrs h6 (Ext.refl _) hat.ctx.fr pr'.ds w' (hat.ctx.rel.less hm.le hm.hard hm.res) (fun d hd=>by
      obtain ⟨D,q1,q2,q3⟩:=hm.coll.1 d hd
      refine ⟨D,q1,q3,fun q=>?_⟩
      rcases hm.new d hd with g | ⟨D',g1,g2⟩
      ·cases g
      ·rw [q1] at g1
       cases g1
       exact g2 q) hm.coll.2 (hfr13.trans hfr)
     exact leaves_mono (fun e w' ⟨v,H',v',ι',q1,q2,_,q4,q5,q6⟩=>⟨v,H',v',ι',q1,q2,Ext.refl _,q4,q5,q6⟩) (fun d hd=>by obtain ⟨D,q,_⟩:=hm.coll.1 d hd; exact ⟨D,by rw [q]⟩) this
    cases e with
    | norm=>exact leave h5
    | ret=>exact leave h5
    | exit id=>cases h5
  ·cases h
end
end Go.Vai

/- VAI,part i: from a law's row to its walk: what the listed variables give; the classes of a number. -/
namespace Go.Vai
open Go
theorem size_of_laid {P : Program} {W : World} {l : List (String × DataW Unit)} {n : String} {d : DataW Unit} {g : Nat} (h : laidMet P l W) (hm : (n,d) ∈ l) (hg : P.globalNamed n = some g) : g < W.heap.size:=by
 obtain ⟨g',t,cs,fuel,p,h1,_,h3,_⟩:=Lib.laidMet.reads h hm
 unfold World.var? at h3
 rw [hg,Option.bind_some] at h3
 split at h3
 ·rename_i hb; exact (Array.getElem?_eq_some_iff.mp hb).1
 ·cases h3
theorem knows_of_laid {P : Program} {W : World} {l : List (String × DataW Unit)} {name : String} {k : IntKind} {zs : List Int} {g : Nat} {t e : TypeId} {n : Nat} (h : laidMet P l W) (hm : (name,Lib.tabData k zs) ∈ l)
  (hg : P.globalNamed name = some g) (hty : (P.globals[g]?).map (·.type) = some t) (ht : P.underlying t = some (.array n e)) (he : P.underlying e = some (.int k)) (hce : P.cellsOf e = 1) (hct : P.cellsOf t = n) : Knows W (g,zs.map fun z=>.i k z):=by
 obtain ⟨g',t',cs,fuel,p,h1,h2,h3,h4⟩:=Lib.laidMet.reads h hm
 obtain rfl:=Option.some.inj (hg.symm.trans h1)
 obtain rfl:=Option.some.inj (hty.symm.trans h2)
 refine knows_tab hg ?_
 rw [h3,← Lib.cells_of_tab ht he hce hct h4]
/-- The class of a number by a modulus: its rest,its side of nought. -/
def clsR (n : Nat) (a : Int) : Nat:=a.natAbs % n
def clsS (a : Int) : Nat:=if a < 0 then 1 else 0
theorem clsR_lt {n : Nat} (h : 0 < n) (a : Int) : clsR n a < n:=Nat.mod_lt _ h
theorem clsS_lt (a : Int) : clsS a < 2:=by unfold clsS; split <;> omega
theorem symI_cls (n : Nat) (a : Int) : SymI n (clsR n a) (clsS a) a:=by
 unfold clsR clsS
 cases a with
 | ofNat m=>rw [if_neg (show ¬ Int.ofNat m < 0 from Int.not_lt.mpr (Int.natCast_nonneg m))]; exact .inr (.inl ⟨by omega,by unfold EU; omega,m,rfl,rfl,Nat.zero_le _⟩)
 | negSucc m=>rw [if_pos (Int.negSucc_lt_zero m)]; exact .inl ⟨rfl,m,rfl,rfl⟩
theorem vr_cls (n : Nat) (a : Int) (ι : Emb) : VR ι (.mp n (clsR n a) (clsS a)) (.int .i64 a):=⟨a,rfl,symI_cls n a⟩
/-- The class of a number by its rest from nought on. -/
def clsE (n : Nat) (a : Int) : Nat:=(a % (n : Int)).toNat
theorem clsE_lt {n : Nat} (h : 0 < n) (a : Int) : clsE n a < n:=by
 unfold clsE
 have:=Int.emod_lt_of_pos a (b:=(n : Int)) (by omega)
 have:=Int.emod_nonneg a (b:=(n : Int)) (by omega)
 omega
theorem symI_eu {n : Nat} (h : 0 < n) (a : Int) : SymI n (clsE n a) EU a:=by
 refine .inr (.inr ⟨rfl,?_⟩)
 unfold clsE
 have:=Int.emod_nonneg a (b:=(n : Int)) (by omega)
 omega
theorem vr_eu {n : Nat} (h : 0 < n) (a : Int) (ι : Emb) : VR ι (.mp n (clsE n a) EU) (.int .i64 a):=⟨a,rfl,symI_eu h a⟩
noncomputable def isY (x : Option Unit) : Bool:=Option.casesOn x false fun _=>true
theorem isY_some {x : Option Unit} (h : isY x = true) : x = some ():=by
 cases x with
 | none=>cases h
 | some u=>rfl
noncomputable def and2 (a b : Bool) : Bool:=Bool.casesOn a false b
theorem and2_l {a b : Bool} (h : and2 a b = true) : a = true:=(casesB h).1
theorem and2_r {a b : Bool} (h : and2 a b = true) : b = true:=(casesB h).2
/-- All below a number. -/
noncomputable def allN (f : Nat→Bool) (n : Nat) : Bool:=Nat.rec true (fun m ih=>Bool.casesOn (f m) false ih) n
theorem allN_get {f : Nat→Bool} : ∀ {n : Nat},allN f n = true→∀ m,m < n→f m = true
 | 0,_,m,h=>by omega
 | n + 1,h,m,hm=>by
  have h : (Bool.casesOn (f n) false (allN f n) : Bool) = true:=h
  obtain ⟨h1,h2⟩:=casesB h
  by_cases e : m = n
  ·subst e; exact h1
  ·exact allN_get h2 m (by omega)
end Go.Vai

/- VAI,part j: there is an input that fits. -/
namespace Go.Vai
open Go
/-- There is an input that fits: at a world whose variables lead to rows. -/
theorem witness_row_shaped {H : Type} {enc : TypeId × Value→H} {C : Checked} {os : Os} {f : FuncId} {fn : Func} {s : OpenSpec} {conds : List PathCond} {apart : Bool} {laid : List (String × DataW Unit)} (modest : Bool) (w0 : World) (args : Array Value) (hos : w0.os = os)
  (hsh : (w0.forCall (fun _ _=>0) ⟨#[],args,[]⟩).Shaped C.prog)
  (hok : Input.okWideB C.prog (w0.forCall (fun _ _=>0) ⟨#[],args,[]⟩) f ⟨#[],args,[]⟩ = true)
  (hrow : s.preRow enc C.prog fn conds apart laid (w0.forCall (fun _ _=>0) ⟨#[],args,[]⟩).memory args) :
  ∃ (w : World) (tape : Tape) (i : Input),w.os = os∧(w.forCall tape i).Shaped C.prog∧i.vars = []∧Input.okWide C.prog (w.forCall tape i) .any w.heap.size f i ∧
   s.preRow enc C.prog fn conds apart laid (w.forCall tape i).memory i.args∧({ modest:=modest } : Assume).holds C.prog (lone (Frame.enter C.prog f i.args .normal) [] (w.forCall tape i)) :=
 ⟨w0,fun _ _=>0,⟨#[],args,[]⟩,hos,hsh,(Input.okWide_of_okWideB (base:=0) hok).1,(Input.okWide_of_okWideB hok).2,hrow,by
  simp only [Assume.holds]
  exact ⟨by simp,by simp,fun _=>Modest.zero,by simp,by simp⟩⟩
end Go.Vai

/- VAI,part k: abstract code run step by step at values that are not closed: one equation for each kind of step. -/
namespace Go.Vai
/-! Code as it is printed: slots by their numbers. -/
noncomputable abbrev T (n : Nat) : Opd:=.t (toPa n)
abbrev K (v : AV) : Opd:=.c v
/-- An operation that fills a slot; one that fills none; one that is asked for under a slot. -/
noncomputable def O (d : Nat) (o : AOp) : AI:=⟨some (toPa d),none,o⟩
def O_ (o : AOp) : AI:=⟨none,none,o⟩
noncomputable def G (d p : Nat) (w : Bool) (o : AOp) : AI:=⟨some (toPa d),some (toPa p,w),o⟩
noncomputable def G_ (p : Nat) (w : Bool) (o : AOp) : AI:=⟨none,some (toPa p,w),o⟩
/-- A frame with one slot filled; a slot's value. -/
noncomputable def S (fr : Tr AV) (d : Nat) (v : AV) : Tr AV:=Tr.set un v fr (toPa d)
noncomputable def V (fr : Tr AV) (n : Nat) : AV:=Tr.get un fr (toPa n)
theorem V_S (fr : Tr AV) (d n : Nat) (v : AV) : V (S fr d v) n = if d = n then v else V fr n:=by
 unfold V S
 rw [Tr.get_set]
 by_cases h : d = n
 ·rw [if_pos h,if_pos (by rw [h])]
 ·rw [if_neg h,if_neg fun e=>h (toPa_inj e)]
theorem V_leaf (n : Nat) : V .leaf n = un:=Tr.get_leaf un _
theorem ev_T (fr : Tr AV) (n : Nat) : ev fr (.t (toPa n)) = V fr n:=rfl
theorem ev_K (fr : Tr AV) (v : AV) : ev fr (.c v) = v:=rfl
section
variable {R : Type} {Φ : Tr AF} {call : CallK R} {fr : Tr AV} {H : Heap} {k : HK R}
/-! What comes next,as a constant with data: so that a rewriter that goes into arguments meets no running code. -/
abbrev FK (R : Type):=Tr AV→Heap→Option R
noncomputable def norm (k : XK R) : FK R:=fun fr H=>k .norm fr H
noncomputable def rest (d : Nat) (call : CallK R) (l : List AI) (fr : Tr AV) (kk : FK R) : HK R:=fun v H=>opsK call l (S fr d v) H kk
noncomputable def rest_ (call : CallK R) (l : List AI) (fr : Tr AV) (kk : FK R) : HK R:=fun _ H=>opsK call l fr H kk
noncomputable def condC (v : AV) (Φ : Tr AF) (n : Nat) (a b : AC) (fr : Tr AV) (H : Heap) (k : XK R) : Option R:=vB v fun t=>Bool.casesOn t (runK Φ n R b fr H k) (runK Φ n R a fr H k)
noncomputable def askC (v : AV) (w : Bool) (d : Nat) (o : AOp) (call : CallK R) (l : List AI) (fr : Tr AV) (H : Heap) (kk : FK R) : Option R :=
 wantV v w fun t=>Bool.casesOn t (opsK call l (S fr d un) H kk) (xopK o call fr H (rest d call l fr kk))
noncomputable def resC (res : List ARes) (fr : Tr AV) (H : Heap) (k : HK R) : Option R:=resK res fr H fun l=>oneRes l H k
noncomputable def pickC (c a b : AV) (k : HK R) (H : Heap) : Option R:=vB c fun t=>Bool.casesOn t (k b H) (k a H)
noncomputable def binC (op : BinOp) (ek : EK) (x y : AV) (k : HK R) (H : Heap) : Option R:=binK op ek x y fun v=>k v H
noncomputable def notC (x : AV) (k : HK R) (H : Heap) : Option R:=vB x fun t=>k (.b !t) H
noncomputable def negC (x : AV) (k : HK R) (H : Heap) : Option R:=vI x fun kd n=>k (.i kd (kd.wrap (-n))) H
noncomputable def extC (n : Nat) (x : AV) (k : HK R) (H : Heap) : Option R:=vT x fun l=>dropK n l fun r=>List.casesOn r none fun v _=>k v H
noncomputable def nilC (x : AV) (k : HK R) (H : Heap) : Option R:=guardK (okPtr x) (k x H)
noncomputable def boxC (e : Nat) (x : AV) (k : HK R) (H : Heap) : Option R:=cellsK x fun l=>k (.p H.next 0) (H.alloc (.cells false 0 e l.length (setCells l 0 .leaf)))
noncomputable def mkifC (t : Nat) (x : AV) (k : HK R) (H : Heap) : Option R:=cellsK x fun _=>k (.ifc t x) H
noncomputable def ldC (g : Bool) (n : Nat) (x : AV) (k : HK R) (H : Heap) : Option R:=vP x none fun a off=>loadK g n a off H fun v=>k v H
noncomputable def stC (n : Nat) (x y : AV) (k : HK R) (H : Heap) : Option R:=vP x none fun a off=>cellsK y fun l=>if l.length = n then storeK l n a off H fun H=>k un H else none
noncomputable def faC (o : Nat) (x : AV) (k : HK R) (H : Heap) : Option R:=vP x none fun a off=>k (.p a (off + o)) H
noncomputable def lenC (s : Bool) (x : AV) (k : HK R) (H : Heap) : Option R:=xopK (.len s (.c x)) (fun _ _ _ _=>none) .leaf H k
/-- Cells filled in: the values,where they go. -/
noncomputable def fillV : List (Nat × Nat × AV)→List AV→(List AV→Option R)→Option R
 | [],cs,f=>f cs
 | (a,n,v) :: ps,cs,f=>cellsK v fun l=>if l.length = n∧a + n≤cs.length then fillV ps (lay cs a l) f else none
noncomputable def buildC (ps : List (Nat × Nat × AV)) (zs : List AV) (k : HK R) (H : Heap) : Option R:=fillV ps zs fun l=>k (.ag l) H
noncomputable def bslC (e sz len : Nat) (ps : List (Nat × Nat × AV)) (zs : List AV) (k : HK R) (H : Heap) : Option R :=
 fillV ps zs fun l=>k (.sl H.next 0 len (some len) sz) (H.alloc (.cells false 0 e l.length (setCells l 0 .leaf)))
/-! Code. -/
section
variable {n : Nat} {k : XK R}
theorem norm_ap : norm k fr H = k .norm fr H:=id rfl
theorem run_skip : runK Φ (n + 1) R .skip fr H k = k .norm fr H:=id rfl
theorem run_ops {l : List AI} : runK Φ (n + 1) R (.ops l) fr H k = opsK (callK Φ (runK Φ n) R) l fr H (norm k):=id rfl
theorem run_draw {m : Nat} {l : List (AI × DI)} : runK Φ (n + 1) R (.draw m l) fr H k = draw0K (callK Φ (runK Φ n)) m l fr H (norm k):=id rfl
theorem run_seq {a b : AC} : runK Φ (n + 1) R (.seq a b) fr H k = runK Φ n R a fr H (thenK (runK Φ n) b k):=id rfl
theorem run_cond {o : Opd} {a b : AC} : runK Φ (n + 1) R (.cond o a b) fr H k = condC (ev fr o) Φ n a b fr H k:=by
 show evK fr o (fun v=>vB v fun t=>Bool.casesOn t (runK Φ n R b fr H k) (runK Φ n R a fr H k)) = _
 rw [evK_eq]; rfl
theorem cond_t {a b : AC} : condC (.b true) Φ n a b fr H k = runK Φ n R a fr H k:=id rfl
theorem cond_f {a b : AC} : condC (.b false) Φ n a b fr H k = runK Φ n R b fr H k:=id rfl
theorem run_block {i : Nat} {c : AC} : runK Φ (n + 1) R (.block i c) fr H k = runK Φ n R c fr H (blockK i k):=id rfl
theorem run_loop {c : AC} : runK Φ (n + 1) R (.loop c) fr H k = runK Φ n R c fr H (thenK (runK Φ n) (.loop c) k):=id rfl
theorem run_exit {i : Nat} : runK Φ (n + 1) R (.exit i) fr H k = k (.exit i) fr H:=id rfl
theorem run_ret : runK Φ (n + 1) R .ret fr H k = k .ret fr H:=id rfl
variable {run : Run1} {b : AC}
theorem then_norm : thenK run b k .norm fr H = run R b fr H k:=id rfl
theorem then_exit {i : Nat} : thenK run b k (.exit i) fr H = k (.exit i) fr H:=id rfl
theorem then_ret : thenK run b k .ret fr H = k .ret fr H:=id rfl
theorem block_norm {i : Nat} : blockK i k .norm fr H = k .norm fr H:=id rfl
theorem block_ret {i : Nat} : blockK i k .ret fr H = k .ret fr H:=id rfl
theorem block_exit {i j : Nat} : blockK i k (.exit j) fr H = if i = j then k .norm fr H else k (.exit j) fr H:=by
 show (Bool.casesOn (Nat.beq i j) (k (.exit j) fr H) (k .norm fr H) : Option R) = _
 by_cases h : i = j
 ·subst h; rw [if_pos rfl,Nat.beq_refl]
 ·rw [if_neg h]
  cases e : Nat.beq i j with
  | true=>exact (h (Nat.eq_of_beq_eq_true e)).elim
  | false=>rfl
theorem block_exit_same {i : Nat} : blockK i k (.exit i) fr H = k .norm fr H:=by rw [block_exit,if_pos rfl]
theorem block_exit_ne {i j : Nat} (h : i ≠ j) : blockK i k (.exit j) fr H = k (.exit j) fr H:=by rw [block_exit,if_neg h]
end
/-! A call: the frame it begins with,what it tells. -/
noncomputable def frame0 : List AV→Nat→Tr AV→Tr AV
 | [],_,t=>t
 | v :: l,i,t=>frame0 l (i + 1) (S t i v)
theorem frame_nil {i : Nat} {t : Tr AV} : frame0 [] i t = t:=id rfl
theorem frame_cons {v : AV} {l : List AV} {i : Nat} {t : Tr AV} : frame0 (v :: l) i t = frame0 l (i + 1) (S t i v):=id rfl
theorem argsK_frame : ∀ (l : List AV) (i : Nat) (t : Tr AV) (k : Tr AV→Option R),argsK l i t k = k (frame0 l i t)
 | [],_,_,_=>rfl
 | v :: l,i,t,k=>by
  show setK un v (toPa i) t (fun t=>forceN (Nat.succ i) fun i=>argsK l i t k) = _
  rw [setK_eq,forceN_eq,argsK_frame l]; rfl
theorem call_eq {run : Run1} {f : Nat} {body : AC} {res : List ARes} (h : Tr.get dfl Φ (toPa f) = .mk body res) (args : List AV) (H : Heap) (k : HK R) :
  callK Φ run R (toPa f) args H k = run R body (frame0 args 0 .leaf) H (leaveK res k):=by
 unfold callK
 rw [getK_eq]
 have h : Tr.get (.mk .bad []) Φ (toPa f) = .mk body res:=h
 rw [h]
 show argsK args 0 .leaf (fun fr=>run R body fr H (leaveK res k)) = _
 rw [argsK_frame]
theorem leave_norm {res : List ARes} : leaveK res k .norm fr H = resC res fr H k:=id rfl
theorem leave_ret {res : List ARes} : leaveK res k .ret fr H = resC res fr H k:=id rfl
theorem res_0 : resC [] fr H k = k un H:=id rfl
theorem res_1 {n : Nat} : resC [.tmp (toPa n)] fr H k = k (V fr n) H:=by
 show getK un (toPa n) fr (fun v=>oneRes [v] H k) = _
 rw [getK_eq]; rfl
theorem res_2 {n m : Nat} : resC [.tmp (toPa n),.tmp (toPa m)] fr H k = k (.tu [V fr n,V fr m]) H:=by
 show getK un (toPa n) fr (fun v=>getK un (toPa m) fr fun v'=>oneRes [v,v'] H k) = _
 rw [getK_eq,getK_eq]; rfl
theorem res_c {n m : Nat} {g : Bool} : resC [.cell (toPa n) g m] fr H k = ldC g m (V fr n) k H:=by
 show getK un (toPa n) fr (fun v=>resCell g m v H fun v=>oneRes [v] H k) = _
 rw [getK_eq]; rfl
/-! Operations in a row. -/
section
variable {l : List AI} {o : AOp} {kk : FK R}
theorem ops_nil : opsK call [] fr H kk = kk fr H:=id rfl
theorem ops_O {d : Nat} : opsK call (O d o :: l) fr H kk = xopK o call fr H (rest d call l fr kk):=by
 show xopK o call fr H (fun v H=>putK (some (toPa d)) v fr fun fr=>opsK call l fr H kk) = _
 simp only [putK_eq]; rfl
theorem ops_O_ : opsK call (O_ o :: l) fr H kk = xopK o call fr H (rest_ call l fr kk):=by
 show xopK o call fr H (fun v H=>putK none v fr fun fr=>opsK call l fr H kk) = _
 simp only [putK_eq]; rfl
theorem rest_ap {d : Nat} {v : AV} : rest d call l fr kk v H = opsK call l (S fr d v) H kk:=id rfl
theorem rest__ap {v : AV} : rest_ call l fr kk v H = opsK call l fr H kk:=id rfl
theorem ops_G {d p : Nat} {w : Bool} : opsK call (G d p w o :: l) fr H kk = askC (V fr p) w d o call l fr H kk:=by
 show getK un (toPa p) fr (fun v=>wantV v w (ai2 (some (toPa d)) o call fr H fun fr H=>opsK call l fr H kk)) = _
 rw [getK_eq]
 unfold askC V
 congr 1
 funext t
 cases t with
 | true =>
  show xopK o call fr H (fun v H=>putK (some (toPa d)) v fr fun fr=>opsK call l fr H kk) = _
  simp only [putK_eq]; rfl
 | false =>
  show putK (some (toPa d)) un fr (fun fr=>opsK call l fr H kk) = _
  rw [putK_eq]; rfl
section
variable {d : Nat}
theorem ask_tt : askC (.b true) true d o call l fr H kk = xopK o call fr H (rest d call l fr kk):=id rfl
theorem ask_ff : askC (.b false) false d o call l fr H kk = xopK o call fr H (rest d call l fr kk):=id rfl
theorem ask_tf : askC (.b true) false d o call l fr H kk = opsK call l (S fr d un) H kk:=id rfl
theorem ask_ft : askC (.b false) true d o call l fr H kk = opsK call l (S fr d un) H kk:=id rfl
theorem ask_un {w : Bool} {vs : List AV} : askC (.tu vs) w d o call l fr H kk = opsK call l (S fr d un) H kk:=id rfl
end
end
/-! Each kind of operation. -/
theorem x_mv {x : Opd} : xopK (.mv x) call fr H k = k (ev fr x) H:=evK_eq _ _ _
theorem x_pick {c a b : Opd} : xopK (.pick c a b) call fr H k = pickC (ev fr c) (ev fr a) (ev fr b) k H:=by
 show evK fr c _ = _
 rw [evK_eq]
 unfold pickC
 congr 1
 funext t
 cases t with
 | true=>show evK fr a _ = _; rw [evK_eq]
 | false=>show evK fr b _ = _; rw [evK_eq]
theorem pick_t {a b : AV} : pickC (.b true) a b k H = k a H:=id rfl
theorem pick_f {a b : AV} : pickC (.b false) a b k H = k b H:=id rfl
theorem x_bin {op : BinOp} {ek : EK} {x y : Opd} : xopK (.bin op ek x y) call fr H k = binC op ek (ev fr x) (ev fr y) k H:=by
 show evK fr x _ = _
 rw [evK_eq,evK_eq]; rfl
theorem x_not {x : Opd} : xopK (.not x) call fr H k = notC (ev fr x) k H:=by
 show evK fr x _ = _
 rw [evK_eq]
 unfold notC
 congr 1
 funext t
 rw [notK_eq]
theorem not_b {x : Bool} : notC (.b x) k H = k (.b !x) H:=id rfl
theorem x_neg {x : Opd} : xopK (.neg x) call fr H k = negC (ev fr x) k H:=by
 show evK fr x _ = _
 rw [evK_eq]
 unfold negC
 congr 1
 funext kd n
 rw [intK_eq]
 show k (.i kd (kd.wrap (0 - n))) H = _
 rw [Int.zero_sub]
theorem neg_i {kd : IntKind} {n : Int} : negC (.i kd n) k H = k (.i kd (kd.wrap (-n))) H:=id rfl
theorem x_call {f : Pa} {xs : List Opd} : xopK (.call f xs) call fr H k = call f (xs.map (ev fr)) H k:=by
 show evsK fr xs _ = _
 rw [evsK_eq]
theorem x_ext {n : Nat} {x : Opd} : xopK (.ext n x) call fr H k = extC n (ev fr x) k H:=by
 show evK fr x _ = _
 rw [evK_eq]; rfl
theorem ext_tu {n : Nat} {l : List AV} {v : AV} (h : l[n]? = some v) : extC n (.tu l) k H = k v H:=by
 show dropK n l (fun r=>List.casesOn r none fun v _=>k v H) = _
 rw [dropK_eq]
 have hi:=lt_of_get h
 rw [List.drop_eq_getElem_cons hi]
 rw [List.getElem?_eq_getElem hi] at h
 rw [Option.some.inj h]
theorem ext_0 {l : List AV} {v : AV} : extC 0 (.tu (v :: l)) k H = k v H:=ext_tu rfl
theorem ext_1 {l : List AV} {x v : AV} : extC 1 (.tu (x :: v :: l)) k H = k v H:=ext_tu rfl
theorem x_nilck {x : Opd} : xopK (.nilck x) call fr H k = nilC (ev fr x) k H:=evK_eq _ _ _
theorem nil_p {a : Pa} {o : Nat} : nilC (.p a o) k H = k (.p a o) H:=id rfl
theorem x_new {e : Nat} {zs : List AV} : xopK (.new e zs) call fr H k = k (.p H.next 0) (H.alloc (.cells false 0 e zs.length (setCells zs 0 .leaf))):=by
 show newK e zs H _ = _
 unfold newK
 rw [setCellsK_eq,forceN_eq,Heap.allocK_eq,lenK_eq]
theorem x_box {e : Nat} {x : Opd} : xopK (.box e x) call fr H k = boxC e (ev fr x) k H:=by
 show evK fr x (fun v=>cellsK v fun l=>newK e l H fun id H=>k (.p id 0) H) = _
 rw [evK_eq]
 unfold boxC
 congr 1
 funext l
 unfold newK
 rw [setCellsK_eq,forceN_eq,Heap.allocK_eq,lenK_eq]
theorem cells_ag {l : List AV} {f : List AV→Option R} : cellsK (.ag l) f = f l:=id rfl
theorem cells_one {v : AV} {f : List AV→Option R} (h : oneC v = true) : cellsK v f = f [v]:=by unfold cellsK; rw [h]
theorem box_ag {e : Nat} {l : List AV} : boxC e (.ag l) k H = k (.p H.next 0) (H.alloc (.cells false 0 e l.length (setCells l 0 .leaf))):=id rfl
theorem box_one {e : Nat} {v : AV} (h : oneC v = true) : boxC e v k H = k (.p H.next 0) (H.alloc (.cells false 0 e 1 (setCells [v] 0 .leaf))):=by unfold boxC; rw [cells_one h]; rfl
theorem fillK_V {fr : Tr AV} : ∀ (ps : List (Nat × Nat × Opd)) (cs : List AV) (f : List AV→Option R),fillK fr ps cs f = fillV (ps.map fun p=>(p.1,p.2.1,ev fr p.2.2)) cs f
 | [],_,_=>rfl
 | (a,n,o) :: ps,cs,f=>by
  show evK fr o (fun v=>cellsK v fun l=>fill1K a n cs l fun cs=>fillK fr ps cs f) = cellsK (ev fr o) fun l=>if l.length = n∧a + n≤cs.length then fillV (ps.map fun p=>(p.1,p.2.1,ev fr p.2.2)) (lay cs a l) f else none
  rw [evK_eq]
  congr 1
  funext l
  unfold fill1K
  rw [lenK_eq,lenK_eq,layK_eq,fillK_V ps]
  by_cases h1 : l.length = n
  ·by_cases h2 : a + n≤cs.length
   ·rw [if_pos ⟨h1,h2⟩,h1,Nat.beq_refl]
    have : Nat.ble (Nat.add a n) cs.length = true:=Nat.ble_eq_true_of_le h2
    rw [this]; rfl
   ·rw [if_neg (fun q=>h2 q.2),h1,Nat.beq_refl]
    cases e : Nat.ble (Nat.add a n) cs.length with
    | true=>exact (h2 (Nat.le_of_ble_eq_true e)).elim
    | false=>rfl
  ·rw [if_neg (fun q=>h1 q.1)]
   cases e : Nat.beq l.length n with
   | true=>exact (h1 (Nat.eq_of_beq_eq_true e)).elim
   | false=>rfl
theorem x_build {zs : List AV} {ps : List (Nat × Nat × Opd)} : xopK (.build zs ps) call fr H k = buildC (ps.map fun p=>(p.1,p.2.1,ev fr p.2.2)) zs k H:=fillK_V _ _ _
theorem x_bsl {e sz len : Nat} {zs : List AV} {ps : List (Nat × Nat × Opd)} : xopK (.bsl e sz len zs ps) call fr H k = bslC e sz len (ps.map fun p=>(p.1,p.2.1,ev fr p.2.2)) zs k H:=by
 show fillK fr ps zs (fun l=>newK e l H fun id H=>k (.sl id 0 len (some len) sz) H) = _
 rw [fillK_V]
 unfold bslC
 congr 1
 funext l
 unfold newK
 rw [setCellsK_eq,forceN_eq,Heap.allocK_eq,lenK_eq]
theorem fill_nil {cs : List AV} {f : List AV→Option R} : fillV [] cs f = f cs:=id rfl
theorem fill_one {a : Nat} {v : AV} {ps : List (Nat × Nat × AV)} {cs : List AV} {f : List AV→Option R} (h : oneC v = true) (hl : a + 1≤cs.length) : fillV ((a,1,v) :: ps) cs f = fillV ps (lay cs a [v]) f:=by
 show cellsK v _ = _
 rw [cells_one h,if_pos ⟨rfl,hl⟩]
theorem fill_ag {a n : Nat} {l : List AV} {ps : List (Nat × Nat × AV)} {cs : List AV} {f : List AV→Option R} (h : l.length = n) (hl : a + n≤cs.length) : fillV ((a,n,.ag l) :: ps) cs f = fillV ps (lay cs a l) f:=by
 show (if l.length = n∧a + n≤cs.length then fillV ps (lay cs a l) f else none) = _
 rw [if_pos ⟨h,hl⟩]
theorem one_b {x : Bool} : oneC (.b x) = true:=id rfl
theorem one_i {kd : IntKind} {n : Int} : oneC (.i kd n) = true:=id rfl
theorem one_s {l n : Nat} : oneC (.s l n) = true:=id rfl
theorem one_p {a : Pa} {o : Nat} : oneC (.p a o) = true:=id rfl
theorem one_np : oneC .np = true:=id rfl
theorem one_sl {a : Pa} {o l z : Nat} {c : Option Nat} : oneC (.sl a o l c z) = true:=id rfl
theorem one_ns : oneC .ns = true:=id rfl
theorem one_ifc {t : Nat} {v : AV} : oneC (.ifc t v) = true:=id rfl
theorem x_mkif {t : Nat} {x : Opd} : xopK (.mkif t x) call fr H k = mkifC t (ev fr x) k H:=by
 show evK fr x (fun v=>cellsK v fun _=>k (.ifc t v) H) = _
 rw [evK_eq]; rfl
theorem mkif_one {t : Nat} {v : AV} (h : oneC v = true) : mkifC t v k H = k (.ifc t v) H:=by unfold mkifC; rw [cells_one h]
theorem mkif_ag {t : Nat} {l : List AV} : mkifC t (.ag l) k H = k (.ifc t (.ag l)) H:=id rfl
theorem x_ld {g : Bool} {n : Nat} {x : Opd} : xopK (.ld g n x) call fr H k = ldC g n (ev fr x) k H:=by
 show evK fr x _ = _
 rw [evK_eq]; rfl
theorem x_st {n : Nat} {x y : Opd} : xopK (.st n x y) call fr H k = stC n (ev fr x) (ev fr y) k H:=by
 show evK fr x (fun v=>evK fr y fun y=>vP v none fun a off=>cellsK y fun l=>guardK (Nat.beq (lenK l) n) (storeK l n a off H fun H=>k un H)) = _
 rw [evK_eq,evK_eq]
 unfold stC
 congr 1
 funext a off
 congr 1
 funext l
 rw [lenK_eq]
 by_cases h : l.length = n
 ·rw [if_pos h,h,Nat.beq_refl]; rfl
 ·rw [if_neg h]
  cases e : Nat.beq l.length n with
  | true=>exact (h (Nat.eq_of_beq_eq_true e)).elim
  | false=>rfl
theorem x_fa {o : Nat} {x : Opd} : xopK (.fa o x) call fr H k = faC o (ev fr x) k H:=by
 show evK fr x _ = _
 rw [evK_eq]
 unfold faC
 congr 1
 funext a off
 exact forceN_eq _ _
theorem fa_p {o off : Nat} {a : Pa} : faC o (.p a off) k H = k (.p a (off + o)) H:=id rfl
theorem x_len {s : Bool} {x : Opd} : xopK (.len s x) call fr H k = lenC s (ev fr x) k H:=by
 unfold lenC
 cases s with
 | true=>show evK fr x (fun v=>_) = evK .leaf (.c (ev fr x)) (fun v=>_); rw [evK_eq,evK_eq]; rfl
 | false=>show evK fr x (fun v=>_) = evK .leaf (.c (ev fr x)) (fun v=>_); rw [evK_eq,evK_eq]; rfl
theorem ld_one {n off size fz e : Nat} {ro : Bool} {c : Tr AV} {a : Pa} (h : H.get a = .cells ro fz e size c) (hs : off + n≤size) : ldC false n (.p a off) k H = k (Tr.get .u c (toPa off)) H:=by
 show loadK false n a off H (fun v=>k v H) = _
 unfold loadK
 rw [Heap.getK_eq,h]
 show guardK (Nat.ble (Nat.add off n) size) (getK AV.u (toPa off) c fun v=>k v H) = _
 have : Nat.ble (Nat.add off n) size = true:=Nat.ble_eq_true_of_le hs
 rw [this,getK_eq]; rfl
theorem ld_ag {n off size fz e : Nat} {ro : Bool} {c : Tr AV} {a : Pa} (h : H.get a = .cells ro fz e size c) (hs : off + n≤size) : ldC true n (.p a off) k H = k (.ag (getCells n off c)) H:=by
 show loadK true n a off H (fun v=>k v H) = _
 unfold loadK
 rw [Heap.getK_eq,h]
 show guardK (Nat.ble (Nat.add off n) size) (getCellsK n off c fun l=>k (.ag l) H) = _
 have : Nat.ble (Nat.add off n) size = true:=Nat.ble_eq_true_of_le hs
 rw [this,getCellsK_eq]; rfl
/-! Numbers,bools,strings. -/
theorem binK_i {op : BinOp} {ek : EK} {kd : IntKind} {a b : Int} {c : AV→Option R} : binK op ek (.i kd a) (.i kd b) c = iTab op kd a b c:=by
 show (Bool.casesOn (iShift op) (guardK (Nat.beq (kix kd) (kix kd)) (iTab op kd a b c)) (iTab op kd a b c) : Option R) = _
 rw [Nat.beq_refl]
 cases iShift op <;> rfl
section
variable {kd : IntKind} {a b : Int} {c : AV→Option R}
theorem i0_eql : iTab .eql kd a b c = c (.b (decide (a = b))):=by
 show boolK (iEq a b) c = _
 rw [boolK_eq,iEq_eq]; rfl
theorem i0_neq : iTab .neq kd a b c = c (.b (!decide (a = b))):=by
 show notK (iEq a b) c = _
 rw [notK_eq,iEq_eq]; rfl
theorem i0_lss : iTab .lss kd a b c = c (.b (decide (a < b))):=by
 show boolK (iLt a b) c = _
 rw [boolK_eq,iLt_eq]
theorem i0_leq : iTab .leq kd a b c = c (.b (!decide (b < a))):=by
 show notK (iLt b a) c = _
 rw [notK_eq,iLt_eq]
theorem i0_gtr : iTab .gtr kd a b c = c (.b (decide (b < a))):=by
 show boolK (iLt b a) c = _
 rw [boolK_eq,iLt_eq]
theorem i0_geq : iTab .geq kd a b c = c (.b (!decide (a < b))):=by
 show notK (iLt a b) c = _
 rw [notK_eq,iLt_eq]
theorem i0_add : iTab .add kd a b c = c (.i kd (kd.wrap (a + b))):=intK_eq _ _ _
theorem i0_sub : iTab .sub kd a b c = c (.i kd (kd.wrap (a - b))):=intK_eq _ _ _
theorem i0_mul : iTab .mul kd a b c = c (.i kd (kd.wrap (a * b))):=intK_eq _ _ _
theorem i0_rem (h : b ≠ 0) : iTab .rem kd a b c = c (.i kd (a.tmod b)):=by
 show (Bool.casesOn (iEq b (.ofNat 0)) (forceI (Int.tmod a b) fun n=>c (.i kd n)) none : Option R) = _
 have : iEq b (.ofNat 0) = false:=by rw [iEq_eq]; exact beq_eq_false_iff_ne.mpr h
 rw [this]
 exact forceI_eq _ _
theorem i0_quo (h : b ≠ 0) : iTab .quo kd a b c = c (.i kd (kd.wrap (a.tdiv b))):=by
 show (Bool.casesOn (iEq b (.ofNat 0)) (intK kd (Int.tdiv a b) c) none : Option R) = _
 have : iEq b (.ofNat 0) = false:=by rw [iEq_eq]; exact beq_eq_false_iff_ne.mpr h
 rw [this]
 exact intK_eq _ _ _
variable {ek : EK}
theorem le_not {a b : Int} : (!decide (b < a)) = decide (a≤b):=by
 by_cases h : a≤b
 ·rw [decide_eq_true h,decide_eq_false (by omega)]; rfl
 ·rw [decide_eq_false h,decide_eq_true (by omega)]; rfl
theorem i_eql : binC .eql ek (.i kd a) (.i kd b) k H = k (.b (decide (a = b))) H:=by unfold binC; rw [binK_i,i0_eql]
theorem i_neq : binC .neq ek (.i kd a) (.i kd b) k H = k (.b (!decide (a = b))) H:=by unfold binC; rw [binK_i,i0_neq]
theorem i_lss : binC .lss ek (.i kd a) (.i kd b) k H = k (.b (decide (a < b))) H:=by unfold binC; rw [binK_i,i0_lss]
theorem i_leq : binC .leq ek (.i kd a) (.i kd b) k H = k (.b (decide (a≤b))) H:=by unfold binC; rw [binK_i,i0_leq,le_not]
theorem i_gtr : binC .gtr ek (.i kd a) (.i kd b) k H = k (.b (decide (b < a))) H:=by unfold binC; rw [binK_i,i0_gtr]
theorem i_geq : binC .geq ek (.i kd a) (.i kd b) k H = k (.b (decide (b≤a))) H:=by unfold binC; rw [binK_i,i0_geq,le_not]
theorem i_add : binC .add ek (.i kd a) (.i kd b) k H = k (.i kd (kd.wrap (a + b))) H:=by unfold binC; rw [binK_i,i0_add]
theorem i_sub : binC .sub ek (.i kd a) (.i kd b) k H = k (.i kd (kd.wrap (a - b))) H:=by unfold binC; rw [binK_i,i0_sub]
theorem i_mul : binC .mul ek (.i kd a) (.i kd b) k H = k (.i kd (kd.wrap (a * b))) H:=by unfold binC; rw [binK_i,i0_mul]
theorem i_rem (h : b ≠ 0) : binC .rem ek (.i kd a) (.i kd b) k H = k (.i kd (a.tmod b)) H:=by unfold binC; rw [binK_i,i0_rem h]
theorem i_quo (h : b ≠ 0) : binC .quo ek (.i kd a) (.i kd b) k H = k (.i kd (kd.wrap (a.tdiv b))) H:=by unfold binC; rw [binK_i,i0_quo h]
end
/-- A text as a value. -/
def str (s : List UInt8) : AV:=.s s.length (pk s)
theorem one_str {s : List UInt8} : oneC (str s) = true:=rfl
theorem s_add {ek : EK} {s t : List UInt8} (h : s.length + t.length≤sMax) : binC .add ek (str s) (str t) k H = k (str (s ++ t)) H:=by
 show guardK (Nat.ble (Nat.add s.length t.length) sMax) (strV (Nat.add s.length t.length) (Nat.add (Nat.mul (pk s) (Nat.pow 256 t.length)) (pk t)) fun v=>k v H) = _
 have : Nat.ble (Nat.add s.length t.length) sMax = true:=Nat.ble_eq_true_of_le h
 rw [this,strV_eq]
 unfold str
 rw [pk_append,List.length_append]; rfl
theorem str_inj {s t : List UInt8} (hl : s.length = t.length) (h : pk s = pk t) : s = t:=pk_inj hl h
theorem sEq_str {s t : List UInt8} : sEq s.length (pk s) t.length (pk t) = decide (s = t):=by
 show (Bool.casesOn (Nat.beq s.length t.length) false (Nat.beq (pk s) (pk t)) : Bool) = _
 by_cases h : s = t
 ·subst h; rw [Nat.beq_refl,Nat.beq_refl]; simp
 ·cases e : Nat.beq s.length t.length with
  | false=>simp [h]
  | true =>
   have e:=Nat.eq_of_beq_eq_true e
   show Nat.beq (pk s) (pk t) = _
   cases e2 : Nat.beq (pk s) (pk t) with
   | false=>simp [h]
   | true=>exact (h (pk_inj e (Nat.eq_of_beq_eq_true e2))).elim
theorem s_eql {ek : EK} {s t : List UInt8} : binC .eql ek (str s) (str t) k H = k (.b (decide (s = t))) H:=by
 show boolK (sEq s.length (pk s) t.length (pk t)) (fun v=>k v H) = _
 rw [boolK_eq,sEq_str]
theorem s_neq {ek : EK} {s t : List UInt8} : binC .neq ek (str s) (str t) k H = k (.b (!decide (s = t))) H:=by
 show notK (sEq s.length (pk s) t.length (pk t)) (fun v=>k v H) = _
 rw [notK_eq,sEq_str]
theorem len_str {s : List UInt8} : lenC true (str s) k H = k (.i .i64 s.length) H:=id rfl
end
end Go.Vai

/- VAI,part m: memory that has grown: what was there is as it was; rows of cells. -/
namespace Go.Vai
/-- Nothing stands where no block is yet. -/
def Fresh (H : Heap) : Prop:=∀ a,H.next.toN≤a.toN→H.get a = .dead
/-- Memory that has grown alone. -/
structure Grow (H H' : Heap) : Prop where
 next : H.next.toN≤H'.next.toN
 get : ∀ a,a.toN < H.next.toN→H'.get a = H.get a
 dead : Fresh H→Fresh H'
theorem Grow.refl (H : Heap) : Grow H H:=⟨Nat.le_refl _,fun _ _=>rfl,id⟩
theorem Grow.trans {H H' H'' : Heap} (h : Grow H H') (h' : Grow H' H'') : Grow H H'' :=
 ⟨Nat.le_trans h.next h'.next,fun a ha=>by rw [h'.get a (Nat.lt_of_lt_of_le ha h.next),h.get a ha],fun f=>h'.dead (h.dead f)⟩
theorem Grow.alloc (H : Heap) (b : Blk) : Grow H (H.alloc b):=by
 have hn : (H.alloc b).next.toN = H.next.toN + 1:=Pa.toN_succ _
 refine ⟨by omega,fun a ha=>?_,fun f a ha=>?_⟩
 ·rw [Heap.get_alloc,if_neg (by intro e; subst e; exact Nat.lt_irrefl _ ha)]
 ·rw [Heap.get_alloc,if_neg (by intro e; subst e; omega)]
  exact f a (by omega)
theorem next_alloc (H : Heap) (b : Blk) : (H.alloc b).next.toN = H.next.toN + 1:=Pa.toN_succ _
theorem get_alloc (H : Heap) (b : Blk) : (H.alloc b).get H.next = b:=by rw [Heap.get_alloc,if_pos rfl]
theorem Grow.get_alloc {H H' : Heap} {b : Blk} (h : Grow (H.alloc b) H') : H'.get H.next = b:=by
 rw [h.get _ (by rw [next_alloc]; omega),Vai.get_alloc]
theorem Grow.of_alloc {H H' : Heap} {b : Blk} (h : Grow (H.alloc b) H') : Grow H H':=(Grow.alloc H b).trans h
theorem cell_at (l : List AV) (i : Nat) : Tr.get .u (setCells l 0 .leaf) (toPa i) = (l[i]?).getD .u:=by
 rw [setCells_get]
 by_cases h : i < l.length
 ·rw [if_pos ⟨by omega,by omega⟩,Nat.sub_zero]
 ·rw [if_neg (by omega),List.getElem?_eq_none (by omega),Tr.get_leaf]; rfl
theorem getCells_len : ∀ (n i : Nat) (t : Tr AV),(getCells n i t).length = n
 | 0,_,_=>rfl
 | n + 1,i,t=>by show (getCells n (i + 1) t).length + 1 = _; rw [getCells_len]
theorem getCells_at : ∀ (n i : Nat) (t : Tr AV) (j : Nat),j < n→(getCells n i t)[j]? = some (Tr.get .u t (toPa (i + j)))
 | 0,_,_,j,h=>by omega
 | n + 1,i,t,0,_=>rfl
 | n + 1,i,t,j + 1,h=>by
  show (getCells n (i + 1) t)[j]? = _
  rw [getCells_at n (i + 1) t j (by omega),Nat.add_right_comm,Nat.add_assoc]
/-- A row read back. -/
theorem row_back (l : List AV) : getCells l.length 0 (setCells l 0 .leaf) = l:=by
 apply List.ext_getElem?
 intro j
 by_cases h : j < l.length
 ·rw [getCells_at _ _ _ _ h,Nat.zero_add,cell_at]
  rw [List.getElem?_eq_getElem h]; rfl
 ·rw [List.getElem?_eq_none (by rw [getCells_len]; omega),List.getElem?_eq_none (by omega)]
/-! Numbers that fit. -/
theorem wrap_fits {kd : IntKind} {x : Int} (h : inR kd x = true) : kd.wrap x = x:=by
 have h1 : wrapK kd x some = some (kd.wrap x):=wrapK_eq kd x some
 have h2 : wrapK kd x some = some x:=by
  show (Bool.casesOn (inR kd x) (forceI (wrapM kd (remN kd x)) some) (forceI x some) : Option Int) = _
  rw [h]; exact forceI_eq _ _
 rw [h2] at h1
 exact (Option.some.inj h1).symm
theorem wrap_i64 {x : Int} (h : -9223372036854775808≤x) (h' : x < 9223372036854775808) : IntKind.i64.wrap x = x:=by
 refine wrap_fits ?_
 cases x with
 | ofNat m=>exact Nat.blt_eq.mpr (by show m < 9223372036854775808; have : (m : Int) < 9223372036854775808:=h'; omega)
 | negSucc m=>exact Nat.blt_eq.mpr (by show m < 9223372036854775808; have : -9223372036854775808≤Int.negSucc m:=h; omega)
theorem tmod_emod {a n : Int} (hn : 0 < n) : (if a.tmod n < 0 then a.tmod n + n else a.tmod n) = a % n:=by
 have h1:=Int.emod_nonneg a (b:=n) (by omega)
 have h2:=Int.emod_lt_of_pos a hn
 rw [Int.tmod_eq_emod]
 by_cases h : 0≤a ∨ n ∣ a
 ·rw [if_pos h]; rw [if_neg (by omega)]; omega
 ·rw [if_neg h]
  have hn' : (n.natAbs : Int) = n:=by omega
  rw [hn']
  by_cases q : a % n - n < 0
  ·rw [if_pos q]; omega
  ·omega
theorem tmod_lt {a n : Int} (hn : 0 < n) : -n < a.tmod n∧a.tmod n < n:=by
 have h1:=Int.emod_nonneg a (b:=n) (by omega)
 have h2:=Int.emod_lt_of_pos a hn
 have h3:=Int.lt_tmod_of_pos a hn
 have h4:=Int.tmod_lt_of_pos a hn
 exact ⟨h3,h4⟩
end Go.Vai

/- VAI,part n: more steps at values that are not closed: rows,texts byte by byte. -/
namespace Go.Vai
section
variable {R : Type} {call : CallK R} {fr : Tr AV} {H : Heap} {k : HK R}
/-! A row's cell,length,part. -/
noncomputable def ixaC (sz : Nat) (x i : AV) (k : HK R) (H : Heap) : Option R:=vN i fun i=>vL x none fun a off len _ sz'=>guardK (Nat.beq sz sz') (guardK (Nat.blt i len) (forceN (Nat.add off (Nat.mul i sz)) fun o=>k (.p a o) H))
theorem x_ixa {sz : Nat} {x i : Opd} : xopK (.ixa sz x i) call fr H k = ixaC sz (ev fr x) (ev fr i) k H:=by
 show evK fr x (fun x=>evK fr i fun i=>_) = _
 rw [evK_eq,evK_eq]; rfl
theorem ixa_sl {a : Pa} {off len sz : Nat} {c : Option Nat} {kd : IntKind} {i : Int} (h0 : 0≤i) (h : i < len) :
  ixaC sz (.sl a off len c sz) (.i kd i) k H = k (.p a (off + i.toNat * sz)) H:=by
 obtain ⟨n,rfl⟩:=Int.eq_ofNat_of_zero_le h0
 have h : n < len:=by omega
 show guardK (Nat.beq sz sz) (guardK (Nat.blt n len) (forceN (Nat.add off (Nat.mul n sz)) fun o=>k (.p a o) H)) = _
 rw [Nat.beq_refl,Nat.blt_eq.mpr h,forceN_eq]; rfl
theorem len_sl {a : Pa} {off len sz : Nat} {c : Option Nat} : lenC false (.sl a off len c sz) k H = k (.i .i64 len) H:=id rfl
theorem len_ns : lenC false .ns k H = k (.i .i64 0) H:=id rfl
noncomputable def sllC (sz : Nat) (x : AV) (lo hi mx : Option AV) (k : HK R) (H : Heap) : Option R:=sliceLK sz x lo hi mx fun v=>k v H
theorem x_sll {sz : Nat} {x : Opd} {lo hi mx : Option Opd} : xopK (.sll sz x lo hi mx) call fr H k = sllC sz (ev fr x) (lo.map (ev fr)) (hi.map (ev fr)) (mx.map (ev fr)) k H:=by
 show evK fr x (fun x=>evoK fr lo fun lo=>evoK fr hi fun hi=>evoK fr mx fun mx=>_) = _
 rw [evK_eq,evoK_eq,evoK_eq,evoK_eq]; rfl
theorem sll_to {a : Pa} {off len sz : Nat} {kd : IntKind} {h : Int} (h0 : 0≤h) (h1 : h≤len) :
  sllC sz (.sl a off len none sz) none (some (.i kd h)) none k H = k (.sl a off h.toNat none sz) H:=by
 obtain ⟨n,rfl⟩:=Int.eq_ofNat_of_zero_le h0
 have h : n≤len:=by omega
 show guardK (Nat.beq sz sz) (guardK (Nat.ble 0 n) (forceN (Nat.add off (Nat.mul 0 sz)) fun off=>guardK (Nat.ble n len) (k (.sl a off (Nat.sub n 0) none sz) H))) = _
 rw [Nat.beq_refl,Nat.ble_eq_true_of_le (Nat.zero_le n),Nat.ble_eq_true_of_le h,forceN_eq]
 show k (.sl a (off + 0 * sz) n none sz) H = _
 rw [Nat.zero_mul]; rfl
/-! A text's byte,part. -/
noncomputable def ixsC (x i : AV) (k : HK R) (H : Heap) : Option R:=vN i fun i=>vS x fun len n=>guardK (Nat.blt i len) (natV .u8 (byteAt len n i) fun v=>k v H)
theorem x_ixs {x i : Opd} : xopK (.ixs x i) call fr H k = ixsC (ev fr x) (ev fr i) k H:=by
 show evK fr x (fun x=>evK fr i fun i=>_) = _
 rw [evK_eq,evK_eq]; rfl
theorem ixs_str {s : List UInt8} {kd : IntKind} {i : Int} {b : UInt8} (h0 : 0≤i) (h : s[i.toNat]? = some b) : ixsC (str s) (.i kd i) k H = k (.i .u8 b.toNat) H:=by
 obtain ⟨n,rfl⟩:=Int.eq_ofNat_of_zero_le h0
 have h : s[n]? = some b:=h
 have hl : n < s.length:=lt_of_get h
 show guardK (Nat.blt n s.length) (natV .u8 (byteAt s.length (pk s) n) fun v=>k v H) = _
 rw [Nat.blt_eq.mpr hl,natV_eq,byteAt_eq s n hl]
 rw [List.getElem?_eq_getElem hl] at h
 rw [Option.some.inj h]; rfl
noncomputable def slsC (x : AV) (lo hi : Option AV) (k : HK R) (H : Heap) : Option R:=sliceSK x lo hi fun v=>k v H
theorem x_sls {x : Opd} {lo hi : Option Opd} : xopK (.sls x lo hi) call fr H k = slsC (ev fr x) (lo.map (ev fr)) (hi.map (ev fr)) k H:=by
 show evK fr x (fun x=>evoK fr lo fun lo=>evoK fr hi fun hi=>_) = _
 rw [evK_eq,evoK_eq,evoK_eq]; rfl
theorem sub_str {s : List UInt8} {l h : Nat} (h1 : l≤h) (h2 : h≤s.length) : subS (pk s) s.length l h = pk ((s.drop l).take (h - l)):=by
 show (pk s / 256 ^ (s.length - h)) % 256 ^ (h - l) = _
 rw [← pk_take s h h2]
 have e : s.take h = s.take l ++ (s.drop l).take (h - l):=by
  have:=List.take_append_drop l (s.take h)
  rw [List.take_take,Nat.min_eq_left h1,List.drop_take] at this
  exact this.symm
 rw [e,pk_append]
 have hl : ((s.drop l).take (h - l)).length = h - l:=by simp; omega
 have hlt:=pk_lt ((s.drop l).take (h - l))
 rw [hl] at hlt ⊢
 rw [Nat.mul_comm,Nat.mul_add_mod,Nat.mod_eq_of_lt hlt]
theorem sls_str {s : List UInt8} {kd kd' : IntKind} {l h : Int} (h0 : 0≤l) (h1 : l≤h) (h2 : h≤s.length) :
  slsC (str s) (some (.i kd l)) (some (.i kd' h)) k H = k (str ((s.drop l.toNat).take (h.toNat - l.toNat))) H:=by
 obtain ⟨l,rfl⟩:=Int.eq_ofNat_of_zero_le h0
 obtain ⟨h,rfl⟩:=Int.eq_ofNat_of_zero_le (Int.le_trans h0 h1)
 have h1 : l≤h:=by omega
 have h2 : h≤s.length:=by omega
 show guardK (Nat.ble l h) (guardK (Nat.ble h s.length) (strV (Nat.sub h l) (subS (pk s) s.length l h) fun v=>k v H)) = _
 rw [Nat.ble_eq_true_of_le h1,Nat.ble_eq_true_of_le h2,strV_eq,sub_str h1 h2]
 show k (.s (h - l) _) H = k (.s _ _) H
 have hl : ((s.drop l).take (h - l)).length = h - l:=by simp; omega
 simp only [Int.toNat_natCast]
 rw [hl]
/-! Numbers cut,moved,joined. -/
noncomputable def cviC (kd : IntKind) (x : AV) (k : HK R) (H : Heap) : Option R:=vI x fun _ n=>k (.i kd (kd.wrap n)) H
theorem x_cvi {kd : IntKind} {x : Opd} : xopK (.cvi kd x) call fr H k = cviC kd (ev fr x) k H:=by
 show evK fr x (fun v=>vI v fun _ n=>intK kd n fun v=>k v H) = _
 rw [evK_eq]
 unfold cviC
 congr 1
 funext _ n
 rw [intK_eq]
theorem cvi_i {kd kd' : IntKind} {n : Int} : cviC kd (.i kd' n) k H = k (.i kd (kd.wrap n)) H:=id rfl
theorem i_shr {ek : EK} {kd kd' : IntKind} {a : Int} {b : Nat} : binC .shr ek (.i kd a) (.i kd' (.ofNat b)) k H = k (.i kd (Int.fdiv a ((2 ^ (min b (bitsN kd)) : Nat) : Int))) H:=by
 show forceI (Int.fdiv a (.ofNat (Nat.pow 2 (minN b (bitsN kd))))) (fun n=>k (.i kd n) H) = _
 rw [forceI_eq,minN_eq]; rfl
theorem i_and {ek : EK} {kd : IntKind} {a b : Nat} (ha : inR kd (.ofNat a) = true) (hb : inR kd (.ofNat b) = true) : binC .and ek (.i kd (.ofNat a)) (.i kd (.ofNat b)) k H = k (.i kd (.ofNat (a &&& b))) H:=by
 unfold binC
 rw [binK_i]
 show guardK (inR kd (.ofNat a)) (guardK (inR kd (.ofNat b)) (natV kd (Nat.land a b) fun v=>k v H)) = _
 rw [ha,hb,natV_eq]; rfl
theorem i_or {ek : EK} {kd : IntKind} {a b : Nat} (ha : inR kd (.ofNat a) = true) (hb : inR kd (.ofNat b) = true) : binC .or ek (.i kd (.ofNat a)) (.i kd (.ofNat b)) k H = k (.i kd (.ofNat (a ||| b))) H:=by
 unfold binC
 rw [binK_i]
 show guardK (inR kd (.ofNat a)) (guardK (inR kd (.ofNat b)) (natV kd (Nat.lor a b) fun v=>k v H)) = _
 rw [ha,hb,natV_eq]; rfl
/-! Rows of cells in memory. -/
/-- A block that may be written holds these cells,no more. -/
def Row (H : Heap) (a : Pa) (e : Nat) (l : List AV) : Prop:=∃ c,H.get a = .cells false 0 e l.length c∧∀ j,j < l.length→Tr.get .u c (toPa j) = (l[j]?).getD .u
theorem Row.new (H : Heap) (e : Nat) (l : List AV) : Row (H.alloc (.cells false 0 e l.length (setCells l 0 .leaf))) H.next e l:=⟨_,get_alloc H _,fun j _=>cell_at l j⟩
theorem Row.grow {H H' : Heap} {a : Pa} {e : Nat} {l : List AV} (h : Row H a e l) (g : Grow H H') (ha : a.toN < H.next.toN) : Row H' a e l:=by
 obtain ⟨c,h1,h2⟩:=h
 exact ⟨c,by rw [g.get a ha,h1],h2⟩
theorem getCells_part {l : List AV} {c : Tr AV} (h : ∀ j,j < l.length→Tr.get .u c (toPa j) = (l[j]?).getD .u) {n off : Nat} (hn : off + n≤l.length) : getCells n off c = (l.drop off).take n:=by
 apply List.ext_getElem?
 intro j
 by_cases q : j < n
 ·rw [getCells_at _ _ _ _ q,h _ (by omega),List.getElem?_take_of_lt q,List.getElem?_drop,List.getElem?_eq_getElem (by omega)]; rfl
 ·rw [List.getElem?_eq_none (by rw [getCells_len]; omega),List.getElem?_eq_none (by simp; omega)]
theorem Row.cells {H : Heap} {a : Pa} {e : Nat} {l : List AV} (h : Row H a e l) {n off : Nat} (hn : off + n≤l.length) (f : List AV→Option R) : rangeCK n a off H f = f ((l.drop off).take n):=by
 obtain ⟨c,h1,h2⟩:=h
 show H.getK a (fun b=>bC b fun _ _ _ size c=>guardK (Nat.ble (Nat.add off n) size) (getCellsK n off c f)) = _
 rw [Heap.getK_eq,h1]
 show guardK (Nat.ble (Nat.add off n) l.length) (getCellsK n off c f) = _
 have : Nat.ble (Nat.add off n) l.length = true:=Nat.ble_eq_true_of_le hn
 rw [this,getCellsK_eq,getCells_part h2 hn]; rfl
theorem Row.ld {H : Heap} {a : Pa} {e : Nat} {l : List AV} (h : Row H a e l) {off : Nat} {v : AV} (hv : l[off]? = some v) : ldC false 1 (.p a off) k H = k v H:=by
 obtain ⟨c,h1,h2⟩:=h
 have hl:=lt_of_get hv
 rw [ld_one h1 (by omega),h2 _ hl,hv]; rfl
theorem Row.lds {H : Heap} {a : Pa} {e : Nat} {l : List AV} (h : Row H a e l) {n off : Nat} (hn : off + n≤l.length) : ldC true n (.p a off) k H = k (.ag ((l.drop off).take n)) H:=by
 obtain ⟨c,h1,h2⟩:=h
 rw [ld_ag h1 hn,getCells_part h2 hn]
/-! Cells appended. -/
/-- Memory that has grown,but for one block. -/
structure GrowBut (a : Pa) (H H' : Heap) : Prop where
 next : H.next.toN≤H'.next.toN
 get : ∀ b,b.toN < H.next.toN→b ≠ a→H'.get b = H.get b
 dead : Fresh H→Fresh H'
theorem GrowBut.of {a : Pa} {H0 H H' : Heap} (h : GrowBut a H H') (g : Grow H0 H) (ha : H0.next.toN≤a.toN) : Grow H0 H' :=
 ⟨Nat.le_trans g.next h.next,fun b hb=>by rw [h.get b (Nat.lt_of_lt_of_le hb g.next) (by intro e; subst e; omega),g.get b hb],fun f=>h.dead (g.dead f)⟩
theorem Row.but {a b : Pa} {H H' : Heap} {e : Nat} {l : List AV} (h : Row H b e l) (g : GrowBut a H H') (hb : b.toN < H.next.toN) (hne : b ≠ a) : Row H' b e l:=by
 obtain ⟨c,h1,h2⟩:=h
 exact ⟨c,by rw [g.get b hb hne,h1],h2⟩
theorem x_app {e sz bytes : Nat} {x y : Opd} : xopK (.app e sz bytes x y) call fr H k = appendK e sz bytes (ev fr x) (ev fr y) H k:=by
 show evK fr x (fun x=>evK fr y fun y=>_) = _
 rw [evK_eq,evK_eq]
theorem oneCs_all : ∀ {l : List AV},(∀ v ∈ l,oneC v = true)→oneCs l = true
 | [],_=>rfl
 | v :: l,h=>by
  show (Bool.casesOn (oneC v) false (oneCs l) : Bool) = true
  rw [h v (List.mem_cons_self ..)]
  exact oneCs_all fun x hx=>h x (List.mem_cons_of_mem _ hx)
theorem src_sl {sz : Nat} {b : Pa} {off n : Nat} {c : Option Nat} {e : Nat} {l : List AV} (h : Row H b e l) (hn : off + n * sz≤l.length) (f : Nat→List AV→Option R) :
  srcK sz (.sl b off n c sz) H f = f n ((l.drop off).take (n * sz)):=by
 show guardK (Nat.beq sz sz) (rangeCK (Nat.mul n sz) b off H fun l=>f n l) = _
 rw [Nat.beq_refl]
 exact h.cells hn _
theorem src_str {s : List UInt8} (f : Nat→List AV→Option R) : srcK 1 (str s) H f = f s.length (s.map fun b=>.i .u8 (b.toNat : Int)):=by
 show guardK true (bytesUpK s.length (pk s) s.length fun l=>f s.length l) = _
 rw [bytesUpK_eq _ _ _ _ (Nat.le_refl _)]
 show f s.length _ = _
 congr 1
 apply List.ext_getElem?
 intro j
 by_cases hj : j < s.length
 ·rw [List.getElem?_map,List.getElem?_map,List.getElem?_range hj,List.getElem?_eq_getElem hj]
  simp only [Option.map_some,Nat.sub_self,Nat.zero_add]
  rw [byteAt_eq s j hj]; rfl
 ·rw [List.getElem?_eq_none (by simp; omega),List.getElem?_eq_none (by simp; omega)]
/-- What append tells of a source that is known. -/
theorem app_ns {e sz bytes n : Nat} {ys : List AV} {y : AV} (hs : ∀ f : Nat→List AV→Option R,srcK sz y H f = f (n + 1) ys) (hy : ∀ v ∈ ys,oneC v = true) (hr : (n + 1) * bytes≤roomN) :
  appendK e sz bytes .ns y H k = k (.sl H.next 0 (n + 1) none sz) (H.alloc (.cells false 0 e ys.length (setCells ys 0 .leaf))):=by
 show srcK sz y H (append2K e sz bytes .ns H k) = _
 rw [hs]
 show guardK (oneCs ys) (guardK (Nat.ble (Nat.mul (n + 1) bytes) roomN) (newK e ys H fun id H=>k (.sl id 0 (n + 1) none sz) H)) = _
 have h2 : Nat.ble (Nat.mul (n + 1) bytes) roomN = true:=Nat.ble_eq_true_of_le hr
 rw [oneCs_all hy,h2]
 show newK e ys H _ = _
 unfold newK
 rw [setCellsK_eq,forceN_eq,Heap.allocK_eq,lenK_eq]
theorem app_none {e sz bytes : Nat} {x : AV} {y : AV} {ys : List AV} (hs : ∀ f : Nat→List AV→Option R,srcK sz y H f = f 0 ys) {a : Pa} {off len : Nat} {c : Option Nat} (hx : x = .sl a off len c sz ∨ x = .ns) :
  appendK e sz bytes x y H k = k x H:=by
 show srcK sz y H (append2K e sz bytes x H k) = _
 rw [hs]
 obtain rfl | rfl:=hx <;> rfl
theorem app_sl {e sz bytes n len : Nat} {l ys : List AV} {a : Pa} (hsz : 0 < sz) (hrow : Row H a e l) (hl : l.length = len * sz) (hyl : ys.length = (n + 1) * sz) (hy : ∀ v ∈ ys,oneC v = true)
  (hr : (len + (n + 1)) * bytes≤roomN) (ha : a.toN < H.next.toN) :
  ∃ H',Row H' H.next e (l ++ ys)∧H'.next = H.next.succ∧GrowBut a H H' ∧
   ∀ (R : Type) (k : HK R) (y : AV),(∀ f : Nat→List AV→Option R,srcK sz y H f = f (n + 1) ys)→appendK e sz bytes (.sl a 0 len none sz) y H k = k (.sl H.next 0 (len + (n + 1)) none sz) H':=by
 obtain ⟨c,h1,h2⟩:=hrow
 refine ⟨(H.put a .dead).alloc (.cells false 0 e ((len + (n + 1)) * sz) (setCells ys (len * sz) c)),?_,?_,?_,?_⟩
 ·have hnx : (H.put a .dead).next = H.next:=by cases H; rfl
  refine ⟨setCells ys (len * sz) c,?_,?_⟩
  ·have:=get_alloc (H.put a .dead) (.cells false 0 e ((len + (n + 1)) * sz) (setCells ys (len * sz) c))
   rw [hnx] at this
   rw [this,List.length_append,hl,hyl,Nat.add_mul]
  ·intro j hj
   rw [setCells_get]
   by_cases q : j < l.length
   ·rw [if_neg (by omega),h2 j q,List.getElem?_append_left q]
   ·rw [List.length_append] at hj
    rw [if_pos ⟨by omega,by omega⟩,List.getElem?_append_right (by omega),hl]
 ·cases H; rfl
 ·have hnx : (H.put a .dead).next = H.next:=by cases H; rfl
  refine ⟨by rw [next_alloc,hnx]; omega,fun b hb hne=>?_,fun f b hb=>?_⟩
  ·rw [Heap.get_alloc,if_neg (by rw [hnx]; intro q; subst q; exact Nat.lt_irrefl _ hb),Heap.get_put,if_neg (fun q=>hne q.symm)]
  ·rw [next_alloc,hnx] at hb
   rw [Heap.get_alloc,if_neg (by rw [hnx]; intro q; subst q; omega),Heap.get_put,if_neg (by intro q; subst q; omega)]
   exact f b (by omega)
 ·intro R k y hs
  show srcK sz y H (append2K e sz bytes (.sl a 0 len none sz) H k) = _
  rw [hs]
  show guardK (oneCs ys) (guardK (Nat.beq sz sz) (forceN (Nat.add len (n + 1)) fun need=>H.getK a fun b=>bC b (appOpen e sz bytes len 0 need a ys H k))) = _
  rw [oneCs_all hy,Nat.beq_refl,forceN_eq,Heap.getK_eq,h1]
  show appOpen e sz bytes len 0 (len + (n + 1)) a ys H k false 0 e l.length c = _
  unfold appOpen
  show forceN (Nat.add 0 (Nat.mul len sz)) (fun at_=>guardK (Nat.ble 0 at_) (Bool.casesOn (Nat.ble (Nat.add 0 (Nat.mul (len + (n + 1)) sz)) l.length)
   (forceN (Bool.casesOn (Nat.beq e e) 0 e) fun e=>growK e sz bytes len 0 (len + (n + 1)) 0 a ys H c k)
   (setCellsK ys at_ c fun c=>H.putK a (.cells false 0 e l.length c) fun H=>k (.sl a 0 (len + (n + 1)) none sz) H))) = _
  rw [forceN_eq,Nat.ble_eq_true_of_le (Nat.zero_le _)]
  have hb : Nat.ble (Nat.add 0 (Nat.mul (len + (n + 1)) sz)) l.length = false:=by
   cases q : Nat.ble (Nat.add 0 (Nat.mul (len + (n + 1)) sz)) l.length with
   | false=>rfl
   | true =>
    have q:=Nat.le_of_ble_eq_true q
    have : 0 + (len + (n + 1)) * sz≤l.length:=q
    rw [hl,Nat.add_mul] at this
    have : 0 < (n + 1) * sz:=Nat.mul_pos (by omega) hsz
    omega
  rw [hb]
  show forceN (Bool.casesOn (Nat.beq e e) 0 e) (fun e=>growK e sz bytes len 0 (len + (n + 1)) 0 a ys H c k) = _
  rw [Nat.beq_refl,forceN_eq]
  show guardK (Nat.ble (Nat.mul (len + (n + 1)) bytes) roomN) (grow2K e sz (Nat.mul len sz) (len + (n + 1)) 0 a ys H k c) = _
  have h3 : Nat.ble (Nat.mul (len + (n + 1)) bytes) roomN = true:=Nat.ble_eq_true_of_le hr
  rw [h3]
  show setCellsK ys (Nat.mul len sz) c (fun c=>forceN (Nat.mul (len + (n + 1)) sz) fun size=>H.putK a .dead fun H=>H.allocK (.cells false 0 e size c) fun id H=>k (.sl id 0 (len + (n + 1)) none sz) H) = _
  rw [setCellsK_eq,forceN_eq,Heap.putK_eq,Heap.allocK_eq]
  have hnx : (H.put a .dead).next = H.next:=by cases H; rfl
  rw [hnx]; rfl
/-! Bytes as a text. -/
noncomputable def b2sC (x : AV) (k : HK R) (H : Heap) : Option R:=vL x (k (.s 0 0) H) fun a off len _ sz=>guardK (Nat.beq sz 1) (rangeCK len a off H fun l=>packK l 0 0 fun m n=>k (.s m n) H)
theorem x_b2s {x : Opd} : xopK (.b2s x) call fr H k = b2sC (ev fr x) k H:=evK_eq _ _ _
theorem pack_str : ∀ (s t : List UInt8) (f : Nat→Nat→Option R),packK (s.map fun b=>.i .u8 (b.toNat : Int)) t.length (pk t) f = f (t ++ s).length (pk (t ++ s))
 | [],t,f=>by rw [List.append_nil]; rfl
 | b :: s,t,f=>by
  have hb : Nat.blt b.toNat 256 = true:=Nat.blt_eq.mpr b.toNat_lt
  show guardK (Nat.beq 4 4) (guardK (Nat.blt b.toNat 256) (forceN (Nat.add (Nat.mul (pk t) 256) b.toNat) fun n=>forceN (Nat.succ t.length) fun m=>packK (s.map fun b=>.i .u8 (b.toNat : Int)) m n f)) = _
  rw [hb,forceN_eq,forceN_eq]
  have h1 : Nat.add (Nat.mul (pk t) 256) b.toNat = pk (t ++ [b]):=by rw [pk_append]; simp [pk]
  have h2 : Nat.succ t.length = (t ++ [b]).length:=by simp
  rw [h1,h2]
  have:=pack_str s (t ++ [b]) f
  rw [List.append_assoc] at this
  exact this
theorem b2s_ns : b2sC .ns k H = k (str []) H:=id rfl
theorem b2s_row {a : Pa} {e : Nat} {s : List UInt8} {c : Option Nat} (h : Row H a e (s.map fun b=>.i .u8 (b.toNat : Int))) : b2sC (.sl a 0 s.length c 1) k H = k (str s) H:=by
 show rangeCK s.length a 0 H (fun l=>packK l 0 0 fun m n=>k (.s m n) H) = _
 rw [h.cells (by simp)]
 have : ((s.map fun b=>AV.i .u8 (b.toNat : Int)).drop 0).take s.length = s.map fun b=>AV.i .u8 (b.toNat : Int):=by
  rw [List.drop_zero,List.take_of_length_le (by simp)]
 rw [this]
 exact pack_str s [] fun m n=>k (.s m n) H
end
end Go.Vai
