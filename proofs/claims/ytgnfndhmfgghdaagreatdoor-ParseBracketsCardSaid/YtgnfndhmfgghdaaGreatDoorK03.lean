/- A verified interpreter of the model's code, and what the functions that read expressions tell by it: part 3 (VaiM, VaiO, VaiP, VaiQ, VaiR, VaiS, VaiT). No condition but those that each statement bears. -/
import Derived.Test.YtgnfndhmfgghdaaGreatDoorK02
import Derived.Lib.Builder
import Derived.Lib.UnsafeStr
import Derived.Lib.MakeNoZero
import Derived.Laws.Externs
set_option linter.unusedVariables false
set_option linter.unusedSimpArgs false
set_option linter.unusedSectionVars false
set_option linter.constructorNameAsVariable false
set_option linter.unnecessarySimpa false
/- VAI,part M: operations that read memory,write it,make it. -/
namespace Go.Vai
section
variable {R : Type} {P : Program} {pr : Pr} {ι : Emb} {H : Heap} {fr : Tr AV} {a : Act} {w : World}
variable {k : HK R} {r : R} {call : CallK R}
theorem ok_ld {g : Bool} {t : TypeId} {n : Nat} {x : Operand} {x' : Opd} (hg : aggOf P t = some g) (hn : szOf P t = some n) (hgn : g = true ∨ n = 1) (C : Ctx P pr ι H fr a w) (hx : compOpd P x = some x') (h : xLd g n x' call fr H k = some r) :
  PureOK P ι w H k r (Instr.loadAt t (a.eval x)):=by
 unfold xLd at h; rw [evK_eq] at h
 rcases vP_some h with ⟨_,h1⟩ | ⟨pa,o,e,h1⟩
 ·cases h1
 ·have hv:=C.opd hx
  rw [e] at hv
  obtain ⟨j,hj,hve⟩:=hv
  obtain ⟨v,h2,j',v',hj',hr,hrun⟩:=loadK_ok C hg hn hgn h1
  rw [hj] at hj'; cases hj'
  exact ⟨v,h2,v',hr,by rw [hve]; simp [Instr.loadAt,Instr.sureAddr,hrun]⟩
/-- A store: it leaves no value. -/
theorem ok_st {t : TypeId} {n : Nat} {x y : Operand} {x' y' : Opd} (hn : szOf P t = some n) (C : Ctx P pr ι H fr a w) (hx : compOpd P x = some x') (hy : compOpd P y = some y') (h : xSt n x' y' call fr H k = some r) :
  ∃ H',k un H' = some r∧∃ w',(Instr.storeAt t (a.eval x) (a.eval y)).run P w = .ok () w'∧Rel pr P.globals.size ι H' w'.heap∧Fr pr w w':=by
 unfold xSt at h; rw [evK_eq,evK_eq] at h
 rcases vP_some h with ⟨_,h1⟩ | ⟨pa,o,e,h1⟩
 ·cases h1
 ·have hv:=C.opd hx
  rw [e] at hv
  obtain ⟨j,hj,hve⟩:=hv
  obtain ⟨l,h2,hl⟩:=cellsK_ok (C.opd hy) h1
  obtain ⟨g1,h3⟩:=guardK_some h2
  have g1:=Nat.eq_of_beq_eq_true g1
  rw [lenK_eq] at g1
  obtain ⟨H',h4,j',w',hj',hrun,hrel,hfr⟩:=storeK_ok (P:=P) C.rel hl g1 h3
  rw [hj] at hj'; cases hj'
  have hlen:=VRs_length hl
  have hsz : (a.eval y).cells.size = n:=by simpa [g1] using hlen
  exact ⟨H',h4,w',by rw [hve]; simp [Instr.storeAt,Instr.sureAddr,storeVar,run_size hn,hsz,hrun],hrel,hfr⟩
theorem take_all {α : Type} (l : List α) (n : Nat) (h : l.length = n) : l.take n = l:=List.take_of_length_le (by omega)
theorem noFz (n : Nat) : ∀ i,i < n→¬ ((0,0) : Nat × Nat).1≤i ∨ ¬ i < ((0,0) : Nat × Nat).2:=fun i _=>.inr (by simp)
theorem ok_new {t : TypeId} {zs : List AV} (hz : zeroOf P t = some zs) (C : Ctx P pr ι H fr a w) (h : xNew t zs call fr H k = some r) : MemOK P pr ι w k r (Instr.alloc t true (.tuple #[])):=by
 unfold xNew mkNew made at h
 obtain ⟨z,hrun,hzs⟩:=zero_ok (w:=w) hz ι
 have hlen:=VRs_length hzs
 obtain ⟨H',h1,hext,hrel,hfr⟩:=newK_ok C.rel (cs:=z.cells) (fz':=(0,0)) (by simpa using Nat.le_of_eq hlen.symm) (by rw [take_all _ _ hlen]; exact hzs) (fun i _=>by simp) h
 exact ⟨_,H',h1,_,_,_,by simp [Instr.alloc,hrun,newVar,newRow]; try exact ⟨rfl,rfl⟩,hext,hrel,hfr,⟨_,Emb.add_same _ _ _,rfl⟩⟩
theorem ok_box {t : TypeId} {x : Operand} {x' : Opd} (C : Ctx P pr ι H fr a w) (hx : compOpd P x = some x') (h : xBox t x' call fr H k = some r) : MemOK P pr ι w k r (Instr.box t (a.eval x)):=by
 unfold xBox mkBox at h
 rw [evK_eq] at h
 obtain ⟨l,h1,hl⟩:=cellsK_ok (C.opd hx) h
 unfold made at h1
 have hlen:=VRs_length hl
 obtain ⟨H',h2,hext,hrel,hfr⟩:=newK_ok C.rel (cs:=(a.eval x).cells) (fz':=(0,0)) (by simpa using Nat.le_of_eq hlen.symm) (by rw [take_all _ _ hlen]; exact hl) (fun i _=>by simp) h1
 exact ⟨_,H',h2,_,_,_,by simp [Instr.box,newVar,newRow]; try exact ⟨rfl,rfl⟩,hext,hrel,hfr,⟨_,Emb.add_same _ _ _,rfl⟩⟩
theorem repK_length (zs : List AV) : ∀ n,(repK zs n).length = n * zs.length
 | 0=>by show 0 = 0 * zs.length; omega
 | n + 1=>by
  show (zs ++ repK zs n).length = _
  rw [List.length_append,repK_length zs n,Nat.succ_mul,Nat.add_comm]
theorem repK_get (zs : List AV) : ∀ (n i : Nat),i < n * zs.length→(repK zs n)[i]? = zs[i % zs.length]?
 | 0,i,h=>by simp at h
 | n + 1,i,h=>by
  show (zs ++ repK zs n)[i]? = _
  by_cases g : i < zs.length
  ·rw [List.getElem?_append_left g,Nat.mod_eq_of_lt g]
  ·rw [List.getElem?_append_right (by omega),repK_get zs n _ (by rw [Nat.succ_mul] at h; omega)]
   have : i % zs.length = (i - zs.length) % zs.length:=by rw [← Nat.mod_eq_sub_mod (by omega)]
   rw [this]
/-- A row of a zero value,again and again. -/
theorem rep_ok {zs : List AV} {zc : Array Value} (hz : VRs ι zs zc.toList) (n : Nat) : VRs ι (repK zs n) ((Array.range (n * zs.length)).map (zc[· % zc.size]!)).toList:=by
 have hlen:=VRs_length hz
 have hsz : zc.size = zs.length:=by simpa using hlen
 refine VRs_of (by simp [repK_length]) fun i x y hx hy=>?_
 have hi : i < n * zs.length:=by
  rcases Nat.lt_or_ge i (n * zs.length) with g | g
  ·exact g
  ·rw [List.getElem?_eq_none (by rw [repK_length]; exact g)] at hx; cases hx
 have hpos : 0 < zs.length:=by
  rcases Nat.eq_zero_or_pos zs.length with e | e
  ·rw [e] at hi; simp at hi
  ·exact e
 rw [repK_get _ _ _ hi] at hx
 obtain ⟨y',hy',hv⟩:=VRs_get hz _ x hx
 have hm : i % zs.length < zc.size:=by rw [hsz]; exact Nat.mod_lt _ hpos
 rw [Array.getElem?_toList,Array.getElem?_map,Array.getElem?_range,if_pos hi] at hy
 have e : zc[i % zc.size]! = y':=by
  rw [hsz]
  rw [Array.getElem?_toList] at hy'
  rw [getElem!_pos zc _ hm]
  rw [getElem?_pos zc _ hm] at hy'
  exact Option.some.inj hy'
 have hy : some (zc[i % zc.size]!) = some y:=hy
 rw [e] at hy
 cases hy
 exact hv
theorem ok_bsl {t el : TypeId} {n len : Nat} {zs : List AV} {ps : Array (Nat × Operand)} {ps' : List (Nat × Nat × Opd)} (ht : P.underlying t = some (.slice el)) (hz : zeroOf P el = some zs) (hn : szOf P el = some (n + 1))
  (hlim : len * (n + 1)≤2 ^ 24) (hzl : zs.length = n + 1) (hps : compParts P (fun i=>some (i * (n + 1),n + 1)) ps.toList = some ps') (C : Ctx P pr ι H fr a w)
  (h : xBsl el (n + 1) len (repK zs len) ps' call fr H k = some r) : MemOK P pr ι w k r (Instr.buildSlice t len (ps.map fun (i,x)=>(i,a.eval x))):=by
 unfold xBsl mkBsl at h
 obtain ⟨z,hrun,hzs⟩:=zero_ok (w:=w) hz ι
 have hrep:=rep_ok hzs len
 rw [hzl] at hrep
 obtain ⟨ys,h1,hyl,cs,hfill,hys⟩:=fill_ok C ps.toList ps' _ _ _ _ hps hrep h
 rw [repK_length,hzl] at hyl
 unfold made at h1
 have hlen:=VRs_length hys
 have hcs : cs.size = len * (n + 1):=by simpa [hyl] using hlen
 obtain ⟨H',h2,hext,hrel,hfr⟩:=newK_ok C.rel (cs:=cs) (fz':=(0,0)) (by omega) (by rw [take_all _ _ hlen]; exact hys) (fun i _=>by simp) h1
 refine ⟨_,H',h2,.slice (some ⟨w.heap.size,0,none⟩) len len,_,_,?_,hext,hrel,hfr,⟨_,len,_,rfl,Emb.add_same _ _ _,Nat.le_refl _,fun q e=>?_,fun e=>(by cases e),.inr rfl,?_,?_⟩⟩
 ·have hfl : Instr.fill (fun i=>some (i * (n + 1),n + 1)) ((Array.range (len * (n + 1))).map (z.cells[· % z.cells.size]!)) (ps.map fun (i,x)=>(i,a.eval x)).toList = some cs:=by
   rw [Array.toList_map]; exact hfill
  have hnl : ¬ (len * (n + 1) > 2 ^ 24):=by omega
  by_cases h0 : len * (n + 1) = 0
  ·have er : ∀ f : Nat→Value,(Array.range 0).map f = #[]:=fun f=>by simp
   rw [h0,er] at hfl
   simp only [Instr.buildSlice,Sem.run_bind,run_underlying ht,Result.andThen_ok,run_size hn,h0,if_true,er,hfl]
   rfl
  ·simp only [Instr.buildSlice,Sem.run_bind,run_underlying ht,Result.andThen_ok,run_size hn,hnl,if_false,h0,hrun,Sem.run_pure,hfl]
   rfl
 ·cases e
  refine ⟨rfl,?_⟩
  show 0 + len * (n + 1)≤ys.length
  omega
 ·show 0 + 0 + len * (n + 1)≤cs.size
  omega
 ·show 0 + len * (n + 1)≤ys.length
  omega
theorem kix_i64 {kd : IntKind} (h : Nat.beq (kix kd) 3 = true) : kd = .i64:=kix_inj (b:=.i64) h
theorem kix_i32 {kd : IntKind} (h : Nat.beq (kix kd) 2 = true) : kd = .i32:=kix_inj (b:=.i32) h
theorem kix_u8 {kd : IntKind} (h : Nat.beq (kix kd) 4 = true) : kd = .u8:=kix_inj (b:=.u8) h
theorem info_of {t : TypeId} {n b : Nat} (hn : szOf P t = some n) (hb : byOf P t = some b) : ∃ i,P.info? t = some i∧i.size = n∧i.bytes = b:=by
 unfold szOf at hn; unfold byOf at hb
 cases hi : P.info? t with
 | none=>rw [hi] at hn; cases hn
 | some i =>
  rw [hi] at hn hb
  exact ⟨i,rfl,Option.some.inj hn,Option.some.inj hb⟩
theorem ok_mks {t el : TypeId} {n b : Nat} {zs : List AV} {l c : Operand} {l' c' : Opd} (ht : P.underlying t = some (.slice el)) (hz : zeroOf P el = some zs) (hn : szOf P el = some (n + 1)) (hb : byOf P el = some (b + 1)) (hzl : zs.length = n + 1)
  (C : Ctx P pr ι H fr a w) (hl : compOpd P l = some l') (hc : compOpd P c = some c') (h : xMks el (n + 1) (b + 1) zs l' c' call fr H k = some r) : MemOK P pr ι w k r (Instr.makeSlice t (a.eval l) (a.eval c)):=by
 unfold xMks at h
 rw [evK_eq,evK_eq] at h
 obtain ⟨kl,ln,el1,h1⟩:=vI_some h
 obtain ⟨kc,cn,ec1,h2⟩:=vI_some h1
 obtain ⟨g1,h3⟩:=guardK_some h2
 obtain ⟨g2,h4⟩:=guardK_some h3
 obtain ⟨ln,e1,h5⟩:=iN_some h4
 obtain ⟨cn,e2,h6⟩:=iN_some h5
 obtain ⟨g3,h7⟩:=guardK_some h6
 obtain ⟨g4,h8⟩:=guardK_some h7
 obtain ⟨g5,h9⟩:=guardK_some h8
 have g1:=kix_i64 g1
 have g2:=kix_i64 g2
 subst g1 g2 e1 e2
 have g3 : ln≤cn:=Nat.le_of_ble_eq_true g3
 have g4 : cn * (b + 1)≤140737488351232:=Nat.le_of_ble_eq_true g4
 have g5 : cn≤4611686018427387904:=Nat.le_of_ble_eq_true g5
 have hlv:=C.opd hl
 have hcv:=C.opd hc
 rw [el1] at hlv
 rw [ec1] at hcv
 obtain ⟨i,hi,his,hib⟩:=info_of hn hb
 obtain ⟨z,hzrun,hzs⟩:=zero_ok (w:=w) hz ι
 have hrep:=rep_ok hzs cn
 rw [hzl] at hrep
 have hlen:=VRs_length hrep
 rw [repK_length,hzl] at hlen
 have hsz : ((Array.range (cn * (n + 1))).map (z.cells[· % z.cells.size]!)).size = cn * (n + 1):=by rw [Array.size_map,Array.size_range]
 obtain ⟨H',h10,hext,hrel,hfr⟩:=newK_ok C.rel (cs:=(Array.range (cn * (n + 1))).map (z.cells[· % z.cells.size]!)) (fz':=(0,0)) (by rw [repK_length,hzl]; exact Nat.le_of_eq hsz.symm)
  (by rw [take_all _ _ (by rw [repK_length,hzl]; exact hlen)]; exact hrep) (fun i _=>by simp) h9
 refine ⟨_,H',h10,.slice (some ⟨w.heap.size,0,none⟩) ln cn,_,_,?_,hext,hrel,hfr,⟨_,cn,_,rfl,Emb.add_same _ _ _,g3,fun q e=>?_,fun e=>(by cases e),.inr rfl,?_,?_⟩⟩
 ·have w1 : IntKind.i64.wrap (ln : Int) = ln:=wrap_nat (show ln < 9223372036854775808 by omega)
  have w2 : IntKind.i64.wrap (cn : Int) = cn:=wrap_nat (show cn < 9223372036854775808 by omega)
  have hm : (((b + 1) * cn : Nat) : Int)≤140737488351232:=by rw [Nat.mul_comm]; exact Int.ofNat_le.mpr g4
  have hm' : ¬ (((b + 1 : Nat) : Int) * (cn : Int) > 2 ^ 48):=by
   have : (((b + 1) * cn : Nat) : Int) = ((b + 1 : Nat) : Int) * (cn : Int):=by push_cast; rfl
   rw [← this]
   have : (2 : Int) ^ 48 = 281474976710656:=by decide
   omega
  have t1 : ((decide ((cn : Int) < 0) || decide (((b + 1 : Nat) : Int) * (cn : Int) > 2 ^ 48)) || decide ((ln : Int) < 0) || decide ((ln : Int) > (cn : Int))) = false:=by
   have q1 : ¬ ((cn : Int) < 0):=by omega
   have q2 : ¬ ((ln : Int) < 0):=by omega
   have q3 : ¬ ((ln : Int) > (cn : Int)):=by omega
   rw [decide_eq_false q1,decide_eq_false hm',decide_eq_false q2,decide_eq_false q3]; rfl
  have e1 : a.eval l = .int .i64 (ln : Int):=hlv
  have e2 : a.eval c = .int .i64 (cn : Int):=hcv
  rw [e1,e2]
  simp only [Instr.makeSlice,Sem.run_bind,run_underlying ht,Result.andThen_ok,asInt,asIntOf,Sem.run_pure,run_info hi,hib,w1,w2,t1,Bool.false_eq_true,if_false,run_askRoom,run_size hn,Int.toNat_natCast]
  by_cases h0 : cn * (n + 1) = 0
  ·have er : ∀ f : Nat→Value,(Array.range 0).map f = #[]:=fun f=>by simp
   simp only [h0,if_true,Sem.run_pure,Result.andThen_ok,er,newRow,Sem.run_bind,run_newObj]
  ·simp only [h0,if_false,Sem.run_bind,hzrun,Sem.run_pure,Result.andThen_ok,newRow,run_newObj]
 ·cases e
  refine ⟨rfl,?_⟩
  show 0 + cn * (n + 1)≤(repK zs cn).length
  rw [repK_length,hzl]; omega
 ·show 0 + 0 + cn * (n + 1)≤(Array.map (z.cells[· % z.cells.size]!) (Array.range (cn * (n + 1)))).size
  rw [hsz]; omega
 ·show 0 + ln * (n + 1)≤(repK zs cn).length
  rw [repK_length,hzl]
  have:=Nat.mul_le_mul_right (n + 1) g3
  omega
theorem ok_sla {t el : TypeId} {n m : Nat} {x : Operand} {lo hi mx : Option Operand} {x' : Opd} {lo' hi' mx' : Option Opd} (ht : P.underlying t = some (.array n el)) (hsz : szOf P el = some (m + 1)) (hmh : mx = none ∨ hi ≠ none) (C : Ctx P pr ι H fr a w)
  (hx : compOpd P x = some x') (hlo : compOpdo P lo = some lo') (hhi : compOpdo P hi = some hi') (hmx : compOpdo P mx = some mx') (h : xSla n (m + 1) x' lo' hi' mx' call fr H k = some r) :
  PureOK P ι w H k r (Instr.sliceAt t (a.eval x) (lo.map a.eval) (hi.map a.eval) (mx.map a.eval)):=by
 unfold xSla at h; rw [evK_eq,evoK_eq,evoK_eq,evoK_eq] at h
 unfold sliceAK at h
 rcases vP_some h with ⟨_,h1⟩ | ⟨pa,off,e,h1⟩
 ·cases h1
 ·rw [Heap.getK_eq] at h1
  obtain ⟨ro,fz,el',size,c,hb,h2⟩:=bC_some h1
  obtain ⟨gs,h3⟩:=guardK_some h2
  have gs : off + n * (m + 1)≤size:=Nat.le_of_ble_eq_true gs
  have hv:=C.opd hx
  rw [e] at hv
  obtain ⟨j,hj,hve⟩:=hv
  obtain ⟨j',hj',hcr⟩:=C.rel.cells hb
  rw [hj] at hj'; cases hj'
  have hjn : j.n = size:=hcr.1
  have hjm : j.d + size≤j.m:=by obtain ⟨_,_,_,_,_,_,_,h4,_⟩:=hcr; exact h4
  have hmh' : mx.map a.eval = none ∨ hi.map a.eval ≠ none:=by
   rcases hmh with e | e
   ·left; rw [e]; rfl
   ·right; cases hi <;> first | (exact (e rfl).elim) | simp
  unfold sliceA2 at h3
  obtain ⟨mm,h4,bm⟩:=C.bnd hmx h3
  obtain ⟨hh,h5,bh⟩:=C.bnd hhi h4
  obtain ⟨l,h6,bl⟩:=C.bnd hlo h5
  obtain ⟨g1,h7⟩:=guardK_some h6
  obtain ⟨g2,h8⟩:=guardK_some h7
  obtain ⟨g3,h9⟩:=guardK_some h8
  have g1:=Nat.le_of_ble_eq_true g1
  have g2:=Nat.le_of_ble_eq_true g2
  have g3:=Nat.le_of_ble_eq_true g3
  rw [forceN_eq,forceN_eq] at h9
  have m1:=Nat.mul_le_mul_right (m + 1) g1
  have m2:=Nat.mul_le_mul_right (m + 1) g2
  have m3:=Nat.mul_le_mul_right (m + 1) g3
  have s1:=Nat.sub_mul mm l (m + 1)
  have s2:=Nat.sub_mul hh l (m + 1)
  refine ⟨_,h9,.slice (some (if mm = l then ⟨j.blk,j.d + off,none⟩ else (⟨j.blk,j.d + off,none⟩ : Addr).add (l * (m + 1)))) (hh - l) (mm - l),⟨_,mm - l,j,rfl,hj,Nat.sub_le_sub_right g2 l,fun q e=>?_,fun e=>(by cases e),?_,?_,?_⟩,?_⟩
  ·cases e
   exact ⟨rfl,by show off + l * (m + 1) + (mm - l) * (m + 1)≤j.n; omega⟩
  ·by_cases e : mm = l
   ·left; omega
   ·right; rw [if_neg e,Addr.add_lit,Nat.add_assoc]; rfl
  ·show j.d + (off + l * (m + 1)) + (mm - l) * (m + 1)≤j.m
   omega
  ·show off + l * (m + 1) + (hh - l) * (m + 1)≤j.n
   omega
  ·rw [hve]
   simp only [Instr.sliceAt,Sem.run_bind,run_underlying ht,Result.andThen_ok,Instr.sureAddr,Sem.run_pure,run_bounds bl bh bm hmh' g1 g2 g3,run_size hsz]
end
end Go.Vai

/- VAI,part O: bytes,runes,append,copy. -/
namespace Go.Vai
section
variable {R : Type} {P : Program} {pr : Pr} {ng : Nat} {ι : Emb} {H : Heap} {fr : Tr AV} {a : Act} {w : World}
variable {k : HK R} {r : R} {call : CallK R}
theorem bytesUpK_eq (len n : Nat) : ∀ (f : Nat) (c : List AV→Option R),f≤len→bytesUpK len n f c = c ((List.range f).map fun q=>.i .u8 (.ofNat (byteAt len n (len - f + q))))
 | 0,_,_=>rfl
 | f + 1,c,h=>by
  show forceN (byteAt len n (Nat.sub (Nat.sub len f) 1)) (fun x=>bytesUpK len n f fun l=>c (.i .u8 (.ofNat x) :: l)) = _
  rw [forceN_eq,bytesUpK_eq len n f _ (by omega),List.range_succ_eq_map,List.map_cons,List.map_map]
  congr 2
  apply List.map_congr_left
  intro q _
  show AV.i .u8 (.ofNat (byteAt len n (len - f + q))) = AV.i .u8 (.ofNat (byteAt len n (len - (f + 1) + (q + 1))))
  have : len - f + q = len - (f + 1) + (q + 1):=by omega
  rw [this]
/-- A string's bytes as cells. -/
theorem bytes_ok (ι : Emb) {len n : Nat} {s : ByteArray} (hs : SR len n s) : VRs ι ((List.range len).map fun q=>.i .u8 (.ofNat (byteAt len n (len - len + q)))) (s.data.map fun b=>(.int .u8 b.toNat : Value)).toList:=by
 have hsz:=hs.size
 have hsd : s.data.size = len:=hsz
 refine VRs_of (by simp [hsd]) fun i x y hx hy=>?_
 have hi : i < len:=by
  rcases Nat.lt_or_ge i len with g | g
  ·exact g
  ·rw [List.getElem?_eq_none (by simp; exact g)] at hx; cases hx
 rw [List.getElem?_map,List.getElem?_range hi] at hx
 have hx : some (AV.i .u8 (.ofNat (byteAt len n (len - len + i)))) = some x:=hx
 cases hx
 obtain ⟨h1,h2⟩:=hs.byte hi
 rw [Array.getElem?_toList,Array.getElem?_map] at hy
 have e : s.data[i]? = some (UInt8.ofNat (byteAt len n i)):=by
  rw [getElem?_pos s i (by omega)] at h1
  rw [getElem?_pos s.data i (by omega)]
  exact h1
 rw [e] at hy
 have hy : some (Value.int .u8 (UInt8.ofNat (byteAt len n i)).toNat) = some y:=hy
 cases hy
 show Value.int .u8 _ = Value.int .u8 _
 rw [UInt8.toNat_ofNat_of_lt' h2,Nat.sub_self,Nat.zero_add]; rfl
theorem rangeCK_ok (Rl : Rel pr ng ι H w.heap) {n : Nat} {pa : Pa} {off : Nat} {f : List AV→Option R} (h : rangeCK n pa off H f = some r) :
  ∃ l,f l = some r∧l.length = n∧∃ j cs e' f',ι pa = some j∧w.heap[j.blk]? = some (.cells cs e' f')∧j.d + off + n≤cs.size∧VRs ι l (cs.extract (j.d + off) (j.d + off + n)).toList:=by
 unfold rangeCK at h
 rw [Heap.getK_eq] at h
 obtain ⟨ro,fz,e,size,c,hb,h1⟩:=bC_some h
 obtain ⟨g,h2⟩:=guardK_some h1
 rw [getCellsK_eq] at h2
 obtain ⟨j,hj,hc⟩:=Rl.cells hb
 obtain ⟨cs,e',f',hbl,hle,hvs⟩:=hc.row (Nat.le_of_ble_eq_true g)
 exact ⟨_,h2,getCells_length _ _ _,j,cs,e',f',hj,hbl,hle,hvs⟩
/-- What is appended or copied. -/
theorem srcK_ok (Rl : Rel pr ng ι H w.heap) {sz : Nat} {y : AV} {y' : Value} {f : Nat→List AV→Option R} (hy : VR ι y y') (h : srcK sz y H f = some r) :
  ∃ n l,f n l = some r∧l.length = n * sz∧(∀ w',(Builtin.lenOf y').run P w' = .ok n w') ∧
   ∀ m,m≤n→∃ cs,(∀ w',w'.heap = w.heap→(Builtin.firstCells sz m y').run P w' = .ok cs w')∧VRs ι (l.take (m * sz)) cs.toList:=by
 unfold srcK at h
 cases hs : isS y with
 | true =>
  rw [hs] at h
  have h : vS y (srcS sz f) = some r:=h
  obtain ⟨len,n,e,h1⟩:=vS_some h
  unfold srcS at h1
  obtain ⟨g,h2⟩:=guardK_some h1
  have g:=Nat.eq_of_beq_eq_true g
  subst g e
  rw [bytesUpK_eq _ _ _ _ (Nat.le_refl _)] at h2
  obtain ⟨s,hve,hsr⟩:=hy
  have hb:=bytes_ok ι hsr
  refine ⟨len,_,h2,by simp,fun w'=>by rw [hve]; simp [Builtin.lenOf,hsr.size],fun m hm=>⟨(s.extract 0 m).data.map fun b=>.int .u8 b.toNat,fun w' _=>by rw [hve]; rfl,?_⟩⟩
  have e1 : ((s.extract 0 m).data.map fun b=>(Value.int .u8 b.toNat)).toList = ((s.data.map fun b=>(Value.int .u8 b.toNat)).toList).take m:=by
   have : (s.extract 0 m).data = s.data.extract 0 m:=by simp
   rw [this]; simp
  rw [e1,Nat.mul_one]
  exact VRs_take m hb
 | false =>
  rw [hs] at h
  have h : vL y (f 0 []) (srcL sz H f) = some r:=h
  rcases vL_some h with ⟨e,h1⟩ | ⟨pa,off,len,cap,sz',e,h1⟩
  ·subst e
   have hy : y' = .slice none 0 0:=hy
   subst hy
   exact ⟨0,[],h1,by simp,fun w'=>rfl,fun m hm=>⟨#[],fun w' _=>rfl,by simp; rfl⟩⟩
  ·subst e
   obtain ⟨ad,cp,j,hve,hj,hlc,hck,hcn,had,hm,hn⟩:=hy
   unfold srcL at h1
   obtain ⟨g,h2⟩:=guardK_some h1
   have g:=Nat.eq_of_beq_eq_true g
   subst g
   obtain ⟨l,h3,hl,j',cs,e',f',hj',hbl,hle,hvs⟩:=rangeCK_ok Rl h2
   rw [hj] at hj'; cases hj'
   refine ⟨len,l,h3,hl,fun w'=>by rw [hve]; rfl,fun m hml=>?_⟩
   have hle : j.d + off + len * sz≤cs.size:=hle
   have hmul:=Nat.mul_le_mul_right sz hml
   by_cases h0 : m * sz = 0
   ·exact ⟨#[],fun w' _=>by rw [hve]; simp only [Builtin.firstCells,h0]; rfl,by rw [h0]; rfl⟩
   ·have hcp : cp ≠ 0:=by
     intro e
     have : m = 0:=by omega
     subst this; simp at h0
    have had : ad = ⟨j.blk,j.d + off,none⟩:=by
     rcases had with e | e
     ·exact (hcp e).elim
     ·exact e
    refine ⟨cs.extract (j.d + off) (j.d + off + m * sz),fun w' hw=>?_,?_⟩
    ·rw [hve,had]
     exact run_loadRow (by rw [hw]; exact hbl) (by omega)
    ·have e1 : (cs.extract (j.d + off) (j.d + off + m * sz)).toList = ((cs.extract (j.d + off) (j.d + off + len * sz)).toList).take (m * sz):=by
      simp only [Array.toList_extract,List.extract]
      rw [List.take_take]
      congr 1
      omega
     rw [e1]
     exact VRs_take _ hvs
theorem ok_s2b {s d el : TypeId} {x : Operand} {x' : Opd} (hs : P.underlying s = some .string) (hd : P.underlying d = some (.slice el)) (he : P.underlying el = some (.int .u8)) (C : Ctx P pr ι H fr a w) (hx : compOpd P x = some x') (h : xS2b el x' call fr H k = some r) :
  MemOK P pr ι w k r (convert s d (a.eval x)):=by
 unfold xS2b at h; rw [evK_eq] at h
 obtain ⟨len,n,e,h1⟩:=vS_some h
 obtain ⟨_,h2⟩:=guardK_some h1
 rw [bytesUpK_eq _ _ _ _ (Nat.le_refl _)] at h2
 have hv:=C.opd hx
 rw [e] at hv
 obtain ⟨bs,hve,hsr⟩:=hv
 have hb:=bytes_ok ι hsr
 have hsz : bs.size = len:=hsr.size
 subst hsz
 have hq : (Question.appendCap bs.size 0 el).forced = false:=rfl
 generalize hcap : (Question.appendCap bs.size 0 el).cut (w.tape w.drawn (Question.appendCap bs.size 0 el)) = cap
 have hcl : bs.size≤cap:=by rw [← hcap]; exact Nat.le_add_right _ _
 have hbl:=VRs_length hb
 have hdsz : bs.data.size = bs.size:=rfl
 generalize hes : (bs.data.map fun b=>(Value.int .u8 b.toNat)) = es at hb hbl
 have hessz : es.size = bs.size:=by rw [← hes]; simp [hdsz]
 generalize hcs : es ++ Array.replicate (cap - bs.size) (Value.int .u8 0) = cs
 have hcss : cs.size = cap:=by rw [← hcs]; simp [hessz]; omega
 have Rw : Rel pr P.globals.size ι H w.drew.heap:=C.rel
 have hll : ((List.range bs.size).map fun q=>AV.i .u8 (.ofNat (byteAt bs.size n (bs.size - bs.size + q)))).length = bs.size:=by simp
 obtain ⟨H',h3,hext,hrel,hfr⟩:=newK_ok (w:=w.drew) Rw (cs:=cs) (fz':=(cap,cap + 1)) (by rw [hll]; omega)
  (by
   rw [hll,← hcs,Array.toList_append,List.take_append_of_le_length (by simp [hessz]),take_all _ _ (by simp [hessz])]
   exact hb) (fun i hi=>by rw [hcss] at hi; simp; omega) h2
 refine ⟨_,H',h3,.slice (some ⟨w.heap.size,0,none⟩) bs.size cap,_,_,?_,hext,hrel,⟨hfr.os,hfr.tape,hfr.output,hfr.size,hfr.keep⟩,⟨_,cap,_,rfl,Emb.add_same _ _ _,by omega,fun q e=>(by cases e),fun _=>?_,.inr rfl,?_,?_⟩⟩
 ·have hfreeze : ((w.drew.alloc (.cells cs el)).freeze { block:=w.heap.size,off:=cap } 1) = { w.drew with heap:=w.drew.heap.push (.cells cs el (cap,cap + 1)) }:=by
   unfold World.freeze World.alloc
   rw [if_neg (by decide)]
   have : (w.drew.heap.push (.cells cs el)).modify w.heap.size (fun
     | .cells c elem (lo,hi)=>.cells c elem (if lo == hi then (cap,cap + 1) else (min lo cap,max hi (cap + 1)))
     | o=>o) = w.drew.heap.push (.cells cs el (cap,cap + 1)):=by
    apply Array.ext_getElem?
    intro i
    rw [Array.getElem?_modify,Array.getElem?_push,Array.getElem?_push]
    have hsd : w.drew.heap.size = w.heap.size:=rfl
    by_cases e : w.heap.size = i
    ·subst e; rw [if_pos rfl,if_pos hsd.symm,if_pos hsd.symm]; rfl
    ·rw [if_neg e]
     by_cases e' : i = w.drew.heap.size
     ·exact (e (by rw [e',hsd])).elim
     ·rw [if_neg e',if_neg e']
   exact congrArg (fun h=>({ w.drew with heap:=h } : World)) this
  rw [hve]
  simp only [convert,Sem.run_bind,run_underlying hs,run_underlying hd,Result.andThen_ok,run_underlying he,Conv.stringToBytes,run_choose,hq,Bool.false_eq_true,if_false,hcap,newRow,run_newObj,Sem.run_pure,hes,hcs,markStringish,run_shape,World.alloc_eq,World.drew_eq]
  have hget : (w.drew.alloc (.cells cs el)).heap[w.heap.size]? = some (.cells cs el):=by
   show (w.heap.push (.cells cs el))[w.heap.size]? = _
   simp
  have hsh : (w.drew.alloc (.cells cs el)).shape? w.heap.size = some (el,cap):=by
   simp only [World.shape?,hget,hcss]
  have hds : w.drew.heap.size = w.heap.size:=rfl
  rw [hds,hsh]
  simp only [run_freeze,Result.andThen_ok]
  rw [hfreeze]
  rfl
 ·show ((List.range bs.size).map fun q=>AV.i .u8 (.ofNat (byteAt bs.size n (bs.size - bs.size + q)))).length≤0 + cap * 1
  omega
 ·show 0 + 0 + cap * 1≤cs.size
  omega
 ·show 0 + bs.size * 1≤((List.range bs.size).map fun q=>AV.i .u8 (.ofNat (byteAt bs.size n (bs.size - bs.size + q)))).length
  omega
/-- Cells that are bytes. -/
theorem byteOf_ok {v : AV} {v' : Value} {f : Nat→Option R} {r : R} (h : byteOf v f = some r) (hv : VR ι v v') : ∃ x,f x = some r∧x < 256∧v' = .int .u8 (x : Int):=by
 unfold byteOf at h
 obtain ⟨kd,n,e,h1⟩:=vI_some h
 obtain ⟨g1,h2⟩:=guardK_some h1
 obtain ⟨x,e2,h3⟩:=iN_some h2
 obtain ⟨g2,h4⟩:=guardK_some h3
 have g1:=kix_u8 g1
 subst g1 e2 e
 exact ⟨x,h4,Nat.blt_eq.mp g2,hv⟩
theorem packK_ok : ∀ {l : List AV} {vs : List Value} {m n : Nat} {f : Nat→Nat→Option R} {r : R},packK l m n f = some r→VRs ι l vs→∀ (acc : List UInt8),acc.length = m→pk acc = n →
  ∃ bs : List UInt8,vs = bs.map (fun b=>.int .u8 (b.toNat : Int))∧f (acc ++ bs).length (pk (acc ++ bs)) = some r
 | [],vs,m,n,f,r,h,hv,acc,h1,h2=>by
  cases hv
  refine ⟨[],rfl,?_⟩
  rw [List.append_nil,h1,h2]; exact h
 | v :: l,vs,m,n,f,r,h,hv,acc,h1,h2=>by
  obtain ⟨y,ys,e,hy,hys⟩:=hv
  have h : (byteOf v fun x=>forceN (Nat.add (Nat.mul n 256) x) fun n=>forceN (Nat.succ m) fun m=>packK l m n f) = some r:=h
  obtain ⟨x,h3,hx,hyv⟩:=byteOf_ok h hy
  rw [forceN_eq,forceN_eq] at h3
  have hxx : (UInt8.ofNat x).toNat = x:=UInt8.toNat_ofNat_of_lt' hx
  obtain ⟨bs,e2,h4⟩:=packK_ok h3 hys (acc ++ [UInt8.ofNat x]) (by simp [h1]) (by rw [pk_append,h2]; simp [pk,hxx])
  refine ⟨UInt8.ofNat x :: bs,?_,?_⟩
  ·rw [e,e2,hyv,List.map_cons,hxx]
  ·rw [List.append_assoc] at h4; exact h4
theorem forIn_fold {α σ : Type} {F : α→σ→Sem (ForInStep σ)} {g : σ→α→σ} : ∀ (l : List α) (s : σ),(∀ x ∈ l,∀ s,(F x s).run P w = .ok (.yield (g s x)) w)→(forIn l s F).run P w = .ok (l.foldl g s) w
 | [],_,_=>rfl
 | x :: l,s,h=>by
  rw [List.forIn_cons]
  simp only [Sem.run_bind,h x (List.mem_cons_self ..),Result.andThen_ok]
  exact forIn_fold l _ fun y hy=>h y (List.mem_cons_of_mem _ hy)
theorem push_foldl : ∀ (bs : List UInt8) (s : ByteArray),(bs.foldl (fun s b=>s.push b) s).data.toList = s.data.toList ++ bs
 | [],s=>by simp
 | b :: bs,s=>by
  rw [List.foldl_cons,push_foldl bs]
  simp
theorem ok_b2s {s d el : TypeId} {x : Operand} {x' : Opd} (hs : P.underlying s = some (.slice el)) (hd : P.underlying d = some .string) (he : P.underlying el = some (.int .u8)) (C : Ctx P pr ι H fr a w) (hx : compOpd P x = some x') (h : xB2s x' call fr H k = some r) :
  PureOK P ι w H k r (convert s d (a.eval x)):=by
 unfold xB2s at h; rw [evK_eq] at h
 have hv:=C.opd hx
 rcases vL_some h with ⟨e,h1⟩ | ⟨pa,off,len,cap,sz',e,h1⟩
 ·rw [e] at hv
  have hv : a.eval x = .slice none 0 0:=hv
  refine ⟨_,h1,.string .empty,⟨_,rfl,rfl,rfl⟩,?_⟩
  rw [hv]
  simp [convert,run_underlying hs,run_underlying hd,run_underlying he,Conv.bytesToString]
 ·rw [e] at hv
  obtain ⟨ad,cp,j,hve,hj,hlc,hck,hcn,had,hm,hn⟩:=hv
  obtain ⟨g,h2⟩:=guardK_some h1
  have g:=Nat.eq_of_beq_eq_true g
  subst g
  obtain ⟨l,h3,hl,j',cs,e',f',hj',hbl,hle,hvs⟩:=rangeCK_ok C.rel h2
  rw [hj] at hj'; cases hj'
  obtain ⟨bs,e2,h4⟩:=packK_ok h3 hvs [] rfl rfl
  refine ⟨_,h4,.string ⟨bs.toArray⟩,⟨_,rfl,by simp,by simp⟩,?_⟩
  rw [hve]
  have hload : (loadCells ad len).run P w = .ok (bs.map fun b=>(Value.int .u8 (b.toNat : Int))).toArray w:=by
   rcases had with e0 | e0
   ·have : len = 0:=by omega
    subst this
    have : bs = []:=by
     have:=congrArg List.length e2
     simp at this
     exact List.eq_nil_of_length_eq_zero (by omega)
    subst this
    rfl
   ·rw [e0,run_loadRow hbl hle,← e2,Array.toArray_toList]
  have hfin : bs.foldl (fun s b=>s.push b) ByteArray.empty = ⟨bs.toArray⟩:=by
   have:=push_foldl bs .empty
   generalize bs.foldl (fun s b=>s.push b) ByteArray.empty = q at *
   cases q with
   | mk d =>
    have this : d.toList = bs:=by simpa using this
    rw [← this,Array.toArray_toList]
  simp only [convert,Sem.run_bind,run_underlying hs,run_underlying hd,Result.andThen_ok,run_underlying he,Conv.bytesToString,hload,List.forIn_toArray]
  rw [forIn_fold (g:=fun (s : ByteArray) (c : Value)=>match c with | .int .u8 n=>s.push (UInt8.ofNat n.toNat) | _=>s)]
  ·simp only [Result.andThen_ok,Sem.run_pure,List.foldl_map,Int.toNat_natCast,UInt8.ofNat_toNat,hfin]
  ·intro v hv s
   obtain ⟨b,_,e⟩:=List.mem_map.mp hv
   subst e
   rfl
/-! Runes. -/
theorem runesK_ok {len n : Nat} {s : ByteArray} (hs : SR len n s) : ∀ (b i : Nat) (f : List AV→Option R) (r : R) (acc : Array Value),runesK len n b i f = some r →
  ∃ l,f l = some r∧∃ vs,(Conv.runesFrom s b i acc).toList = acc.toList ++ vs∧VRs ι l vs
 | 0,i,f,r,acc,h=>⟨[],h,[],by simp [Conv.runesFrom],rfl⟩
 | b + 1,i,f,r,acc,h=>by
  have h : (Bool.casesOn (Nat.blt i len) (f []) (decK len n i fun c w=>forceN (Nat.add i w) fun i=>runesK len n b i fun r=>f (.i .i32 (.ofNat c) :: r)) : Option R) = some r:=h
  have hsz:=hs.size
  cases g : Nat.blt i len with
  | false =>
   rw [g] at h
   have g : ¬ i < s.size:=by rw [hsz]; intro g'; rw [Nat.blt_eq.mpr g'] at g; cases g
   exact ⟨[],h,[],by simp [Conv.runesFrom,g],rfl⟩
  | true =>
   rw [g] at h
   have g : i < len:=Nat.blt_eq.mp g
   have h1:=decK_ok hs g h
   simp only [forceN_eq] at h1
   obtain ⟨l,h2,vs,h3,h4⟩:=runesK_ok hs b _ _ r (acc.push (.int .i32 (Int.ofNat (Utf8.decode s i).1))) h1
   refine ⟨_,h2,.int .i32 (Int.ofNat (Utf8.decode s i).1) :: vs,?_,_,_,rfl,rfl,h4⟩
   rw [← hsz] at g
   simp only [Conv.runesFrom,g,if_true]
   rw [show Utf8.decode s i = ((Utf8.decode s i).1,(Utf8.decode s i).2) from rfl]
   refine h3.trans ?_
   simp
theorem ok_s2r {s d el : TypeId} {x : Operand} {x' : Opd} (hs : P.underlying s = some .string) (hd : P.underlying d = some (.slice el)) (he : P.underlying el = some (.int .i32)) (C : Ctx P pr ι H fr a w) (hx : compOpd P x = some x') (h : xS2r el x' call fr H k = some r) :
  MemOK P pr ι w k r (convert s d (a.eval x)):=by
 unfold xS2r at h; rw [evK_eq] at h
 obtain ⟨len,n,e,h1⟩:=vS_some h
 obtain ⟨_,h2⟩:=guardK_some h1
 have hv:=C.opd hx
 rw [e] at hv
 obtain ⟨bs,hve,hsr⟩:=hv
 obtain ⟨l,h3,vs,h4,h5⟩:=runesK_ok (ι:=ι) hsr _ _ _ _ #[] h2
 rw [forceN_eq,lenK_eq] at h3
 have hsz : bs.size = len:=hsr.size
 subst hsz
 generalize hes : Conv.runesFrom bs bs.size 0 #[] = es at h4
 have h4 : es.toList = vs:=by rw [h4]; rfl
 have hel : es.size = l.length:=by rw [← VRs_length h5,← h4]; simp
 have hq : (Question.appendCap es.size 0 el).forced = false:=rfl
 generalize hcap : (Question.appendCap es.size 0 el).cut (w.tape w.drawn (Question.appendCap es.size 0 el)) = cap
 have hcl : es.size≤cap:=by rw [← hcap]; exact Nat.le_add_right _ _
 generalize hcs : es ++ Array.replicate (cap - es.size) (Value.int .i32 0) = cs
 have hcss : cs.size = cap:=by rw [← hcs]; simp; omega
 have Rw : Rel pr P.globals.size ι H w.drew.heap:=C.rel
 obtain ⟨H',h6,hext,hrel,hfr⟩:=newK_ok (w:=w.drew) Rw (cs:=cs) (fz':=(0,0)) (by omega)
  (by rw [← hcs,Array.toList_append,List.take_append_of_le_length (by simp [hel]),take_all _ _ (by simp [hel]),h4]; exact h5) (fun i _=>by simp) h3
 refine ⟨_,H',h6,.slice (some ⟨w.heap.size,0,none⟩) l.length cap,_,_,?_,hext,hrel,⟨hfr.os,hfr.tape,hfr.output,hfr.size,hfr.keep⟩,⟨_,cap,_,rfl,Emb.add_same _ _ _,by omega,fun q e=>(by cases e),fun _=>?_,.inr rfl,?_,?_⟩⟩
 ·rw [hve,← hel]
  simp only [convert,Sem.run_bind,run_underlying hs,run_underlying hd,Result.andThen_ok,run_underlying he,Conv.stringToRunes,hes,run_choose,hq,Bool.false_eq_true,if_false,hcap,newRow,run_newObj,Sem.run_pure,hcs,World.alloc_eq,World.drew_eq]
  rfl
 ·show l.length≤0 + cap * 1
  omega
 ·show 0 + 0 + cap * 1≤cs.size
  omega
 ·show 0 + l.length * 1≤l.length
  omega
theorem unrunesK_ok : ∀ {l : List AV} {vs : List Value} {m n : Nat} {f : Nat→Nat→Option R} {r : R},unrunesK l m n f = some r→VRs ι l vs→∀ (acc : ByteArray),SR m n acc →
  ∃ rs : List Int,vs = rs.map (fun b=>.int .i32 b)∧∃ m' n',f m' n' = some r∧SR m' n' (rs.foldl (fun s b=>s ++ Utf8.encode b) acc)
 | [],vs,m,n,f,r,h,hv,acc,h1=>by
  cases hv
  exact ⟨[],rfl,m,n,h,h1⟩
 | v :: l,vs,m,n,f,r,h,hv,acc,h1=>by
  obtain ⟨y,ys,e,hy,hys⟩:=hv
  have h : (vI v fun kd x=>guardK (Nat.beq (kix kd) 2) (encK x fun w b=>forceN (Nat.add (Nat.mul n (Nat.pow 256 w)) b) fun n=>forceN (Nat.add m w) fun m=>unrunesK l m n f)) = some r:=h
  obtain ⟨kd,x,e1,h2⟩:=vI_some h
  obtain ⟨g,h3⟩:=guardK_some h2
  have g:=kix_i32 g
  subst g e1
  obtain ⟨q,b,h4,h5⟩:=encK_ok h3
  rw [forceN_eq,forceN_eq] at h4
  obtain ⟨rs,e2,m',n',h6,h7⟩:=unrunesK_ok h4 hys _ (h1.append h5)
  exact ⟨x :: rs,by rw [e,e2]; have hy : y = .int .i32 x:=hy; rw [hy]; rfl,m',n',h6,h7⟩
theorem ok_r2s {s d el : TypeId} {x : Operand} {x' : Opd} (hs : P.underlying s = some (.slice el)) (hd : P.underlying d = some .string) (he : P.underlying el = some (.int .i32)) (C : Ctx P pr ι H fr a w) (hx : compOpd P x = some x') (h : xR2s x' call fr H k = some r) :
  PureOK P ι w H k r (convert s d (a.eval x)):=by
 unfold xR2s at h; rw [evK_eq] at h
 have hv:=C.opd hx
 rcases vL_some h with ⟨e,h1⟩ | ⟨pa,off,len,cap,sz',e,h1⟩
 ·rw [e] at hv
  have hv : a.eval x = .slice none 0 0:=hv
  refine ⟨_,h1,.string .empty,⟨_,rfl,rfl,rfl⟩,?_⟩
  rw [hv]
  simp [convert,run_underlying hs,run_underlying hd,run_underlying he,Conv.runesToString]
 ·rw [e] at hv
  obtain ⟨ad,cp,j,hve,hj,hlc,hck,hcn,had,hm,hn⟩:=hv
  obtain ⟨g,h2⟩:=guardK_some h1
  have g:=Nat.eq_of_beq_eq_true g
  subst g
  obtain ⟨l,h3,hl,j',cs,e',f',hj',hbl,hle,hvs⟩:=rangeCK_ok C.rel h2
  rw [hj] at hj'; cases hj'
  obtain ⟨rs,e2,m',n',h4,h5⟩:=unrunesK_ok h3 hvs .empty ⟨rfl,rfl⟩
  refine ⟨_,h4,.string _,⟨_,rfl,h5⟩,?_⟩
  rw [hve]
  have hload : (loadCells ad len).run P w = .ok (rs.map fun b=>(Value.int .i32 b)).toArray w:=by
   rcases had with e0 | e0
   ·have : len = 0:=by omega
    subst this
    have : rs = []:=by
     have:=congrArg List.length e2
     simp at this
     exact List.eq_nil_of_length_eq_zero (by omega)
    subst this
    rfl
   ·rw [e0,run_loadRow hbl hle,← e2,Array.toArray_toList]
  simp only [convert,Sem.run_bind,run_underlying hs,run_underlying hd,Result.andThen_ok,run_underlying he,Conv.runesToString,hload,List.forIn_toArray]
  rw [forIn_fold (g:=fun (s : ByteArray) (c : Value)=>match c with | .int .i32 n=>s ++ Utf8.encode n | _=>s)]
  ·simp only [Result.andThen_ok,Sem.run_pure,List.foldl_map]
  ·intro v hv s
   obtain ⟨b,_,e⟩:=List.mem_map.mp hv
   subst e
   rfl
end
end Go.Vai

/- VAI,part P: append and copy. -/
namespace Go.Vai
section
variable {R : Type} {P : Program} {pr : Pr} {ng : Nat} {ι : Emb} {H : Heap} {fr : Tr AV} {a : Act} {w : World}
variable {k : HK R} {r : R} {call : CallK R}
theorem growBy_le (m : Nat) : ∀ (n c : Nat),256≤c→c≤2 * m→Builtin.growBy m n c≤2 * m
 | 0,_,_,h=>h
 | n + 1,c,h0,h=>by
  unfold Builtin.growBy
  split
  ·exact h
  ·exact growBy_le m n _ (by omega) (by omega)
theorem nextslicecap_le {m c : Nat} (h : c < m) : Builtin.nextslicecap m c≤2 * m:=by
 unfold Builtin.nextslicecap
 split
 ·omega
 ·split
  ·omega
  ·exact growBy_le m 4 c (by omega) (by omega)
section
variable {t u ty el : TypeId} {du : TypeDesc} {sz bytes : Nat}
theorem run_append_fit (ht : P.underlying t = some (.slice el)) (hu : P.underlying u = some du) (hdu : ∀ kd,du ≠ .int kd) (hn : szOf P el = some sz) {ad : Addr} {len cp n : Nat} {x : Value} {new : Array Value} {w' : World}
  (hl : ∀ w,(Builtin.lenOf x).run P w = .ok n w) (hf : (Builtin.firstCells sz n x).run P w = .ok new w) (hle : len + n≤cp) (hst : (storeCells (ad.add (len * sz)) new.toList).run P w = .ok () w') :
  (Builtin.append_ #[t,u] ty #[.slice (some ad) len cp,x]).run P w = .ok (.slice (some ad) (len + n) cp) w':=by
 have hz : (match du with | .int _=>true | _=>false) = false:=by cases du <;> first | rfl | exact (hdu _ rfl).elim
 cases du <;> first | (exact (hdu _ rfl).elim) | skip
 all_goals
  simp [Builtin.append_,run_underlying ht,run_underlying hu,run_size hn,hl,hf,hle,hst]
theorem run_append_none (ht : P.underlying t = some (.slice el)) (hu : P.underlying u = some du) (hdu : ∀ kd,du ≠ .int kd) (hn : szOf P el = some sz) {x : Value}  {new : Array Value}
  (hl : ∀ w,(Builtin.lenOf x).run P w = .ok 0 w) (hf : (Builtin.firstCells sz 0 x).run P w = .ok new w) :
  (Builtin.append_ #[t,u] ty #[.slice none 0 0,x]).run P w = .ok (.slice none 0 0) w:=by
 cases du <;> first | (exact (hdu _ rfl).elim) | skip
 all_goals
  simp [Builtin.append_,run_underlying ht,run_underlying hu,run_size hn,hl,hf]
theorem run_append_grow (ht : P.underlying t = some (.slice el)) (hu : P.underlying u = some du) (hdu : ∀ kd,du ≠ .int kd) (hn : szOf P el = some sz) (hb : byOf P el = some (bytes + 1)) {base : Option Addr} {len cp n : Nat} {x : Value} {old new : Array Value} {z : Value}
  (hl : ∀ w,(Builtin.lenOf x).run P w = .ok n w) (ho : (Builtin.firstCells sz len (.slice base len cp)).run P w.drew = .ok old w.drew) (hf : (Builtin.firstCells sz n x).run P w.drew = .ok new w.drew) (hz : ∀ w,(zeroValue el).run P w = .ok z w)
  (hle : cp < len + n) (hroom : (len + n) * (bytes + 1)≤roomN) :
  ∃ nc,len + n≤nc∧(Builtin.append_ #[t,u] ty #[.slice base len cp,x]).run P w = .ok (.slice (some ⟨w.heap.size,0,none⟩) (len + n) nc)
   (w.drew.alloc (.cells (old ++ new ++ Builtin.zeroCells z.cells (nc - (len + n))) el)):=by
 obtain ⟨i,hi,his,hib⟩:=info_of hn hb
 have hq : (Question.appendCap (len + n) cp el).forced = false:=rfl
 generalize hcap : (Question.appendCap (len + n) cp el).cut (w.tape w.drawn (Question.appendCap (len + n) cp el)) = nc
 have hcl : len + n≤nc:=by rw [← hcap]; exact Nat.le_add_right _ _
 refine ⟨nc,hcl,?_⟩
 have hle' : ¬ (len + n≤cp):=by omega
 have hns:=nextslicecap_le hle
 have hnb : ¬ (Builtin.nextslicecap (len + n) cp * (bytes + 1) > 2 ^ 48):=by
  have:=Nat.mul_le_mul_right (bytes + 1) hns
  rw [Nat.mul_assoc] at this
  have h48 : 2 * roomN≤2 ^ 48:=by decide
  omega
 have hb0 : ¬ (bytes + 1 = 0):=by omega
 cases du <;> first | (exact (hdu _ rfl).elim) | skip
 all_goals
  simp only [Builtin.append_,List.getElem?_toArray,List.getElem?_cons_zero,List.getElem?_cons_succ,Sem.run_bind,run_underlying ht,run_underlying hu,run_size hn,hl,Result.andThen_ok,Sem.run_pure,Bool.false_eq_true,if_false,hle',run_info hi,hib,hb0,or_self,and_false,hnb,run_choose,hq,hcap,run_askRoom,ho,hf,hz,newRow,run_newObj,World.alloc_eq,World.drew_eq,Bool.not_false,if_true]
  try rfl
end
theorem lt_of_get {α : Type} {l : List α} {i : Nat} {x : α} (h : l[i]? = some x) : i < l.length:=by
 rcases Nat.lt_or_ge i l.length with g | g
 ·exact g
 ·rw [List.getElem?_eq_none g] at h; cases h
/-- Cells laid behind others. -/
theorem cells_behind {xs ys : List AV} {c0 : Tr AV} (h0 : ∀ i x,xs[i]? = some x→Tr.get .u c0 (toPa i) = x) (i : Nat) (x : AV) (hx : (xs ++ ys)[i]? = some x) : Tr.get .u (setCells ys xs.length c0) (toPa i) = x:=by
 rw [setCells_get]
 by_cases g : i < xs.length
 ·rw [if_neg (by omega)]
  rw [List.getElem?_append_left g] at hx
  exact h0 i x hx
 ·rw [List.getElem?_append_right (by omega)] at hx
  have:=lt_of_get hx
  rw [if_pos ⟨by omega,by omega⟩,hx]; rfl
theorem laid_get {cs : Array Value} {o : Nat} {vs : List Value} (h : o + vs.length≤cs.size) : (laid cs o 0 vs).size = cs.size∧∀ i,(laid cs o 0 vs)[i]? = if o≤i∧i < o + vs.length then vs[i - o]? else cs[i]?:=by
 have:=fold_get o vs 0 cs (by omega)
 exact this
/-- A block that is let go,and a new one that holds what it held and more: over the old one's room,or over a new row. -/
theorem grow2K_ok (Rl : Rel pr ng ι H w.heap) {pa : Pa} {fz eb size : Nat} {c c0 : Tr AV} {j : Inj} (hb : H.get pa = .cells false fz eb size c) (hj : ι pa = some j)
  {e2 el sz len off need fz2 : Nat} {xs ys : List AV} {vs : List Value} (hxl : xs.length = len * sz) (hys : VRs ι ys vs) (hyl : len * sz + ys.length = need * sz)
  (h0 : ∀ i x,xs[i]? = some x→Tr.get .u c0 (toPa i) = x) (hoff : off + len * sz≤size) (hfz2 : fz≤off + fz2) (hfz : fz≤off + len * sz)
  (he2 : e2 ≠ 0→e2 = el∧eb = e2∧off = 0)
  (hxs : ∀ cs e' f,w.heap[j.blk]? = some (.cells cs e' f)→VRs ι xs (cs.extract (j.d + off) (j.d + off + len * sz)).toList)
  (h : grow2K e2 sz (len * sz) need fz2 pa ys H k c0 = some r) :
  ∃ H',k (.sl H.next 0 need none sz) H' = some r∧∃ cs e' f,w.heap[j.blk]? = some (.cells cs e' f)∧j.m = cs.size∧¬ pr j.blk ∧
   (∀ q,j.d + (off + len * sz)≤q→q < j.m→¬ (f.1≤q∧q < f.2))∧j.d + off + len * sz≤cs.size ∧
   (j.d + off + need * sz≤j.m→Ext ι (ι.add H.next ⟨j.blk,j.d + off,need * sz,j.m⟩) ∧
    Rel pr ng (ι.add H.next ⟨j.blk,j.d + off,need * sz,j.m⟩) H' (w.heap.setIfInBounds j.blk (.cells (laid cs (j.d + (off + len * sz)) 0 vs) e' f))) ∧
   (∀ rest,Ext ι (ι.add H.next ⟨w.heap.size,0,need * sz,need * sz + rest.size⟩) ∧
    Rel pr ng (ι.add H.next ⟨w.heap.size,0,need * sz,need * sz + rest.size⟩) H' (w.heap.push (.cells (cs.extract (j.d + off) (j.d + off + len * sz) ++ vs.toArray ++ rest) el))):=by
 unfold grow2K at h
 rw [setCellsK_eq,forceN_eq,Heap.putK_eq,Heap.allocK_eq] at h
 have hnext : (H.put pa .dead).next = H.next:=rfl
 rw [hnext] at h
 have hnone : ι H.next = none:=Rl.fresh _ (Nat.le_refl _)
 have hlt : pa.toN < H.next.toN:=Rl.lt_next hj
 have Rk : Rel pr ng ι (H.put pa .dead) w.heap:=Rl.kill hlt
 obtain ⟨j',hj',hcr⟩:=Rl.cells hb
 rw [hj] at hj'; cases hj'
 obtain ⟨h1,cs,e',f,h2,he,h3,h4,h5,h6⟩:=hcr
 obtain ⟨hnp,hnf⟩:=h6 rfl
 have hxs:=hxs cs e' f h2
 have hvl:=VRs_length hys
 have hjlt:=Rl.lt _ _ hj
 refine ⟨_,h,cs,e',f,h2,h3,hnp,fun q q1 q2=>hnf q (by omega) q2,by omega,?_,?_⟩
 ·intro hfit
  have hext:=Ext.add (ι:=ι) ⟨j.blk,j.d + off,need * sz,j.m⟩ hnone
  refine ⟨hext,Rk.newOver _ ⟨j.blk,j.d + off,need * sz,j.m⟩ _ (by simp) (by simpa using hjlt) (fun b _ hne=>by simp [Ne.symm hne]) ?_ ?_⟩
  ·intro b q hal hq
   rw [Heap.get_put] at hal
   by_cases e : pa = b
   ·rw [if_pos e] at hal; cases hal
   ·rw [if_neg e] at hal
    exact fun e'=>Rl.sep pa b j q e (by rw [hb]; rfl) hal hj hq e'.symm
  ·obtain ⟨k1,k2⟩:=laid_get (cs:=cs) (o:=j.d + (off + len * sz)) (vs:=vs) (by omega)
   have hll : (xs ++ ys).length = need * sz:=by rw [List.length_append,hxl,hyl]
   refine ⟨_,rfl,?_,fun h=>hnp (.inr h)⟩
   have:=CR.of (ι.add H.next ⟨j.blk,j.d + off,need * sz,j.m⟩) pr false fz2 e2 e' (xs ++ ys) (setCells ys (len * sz) c0) ⟨j.blk,j.d + off,need * sz,j.m⟩
    (w.heap.setIfInBounds j.blk (.cells (laid cs (j.d + (off + len * sz)) 0 vs) e' f)) (laid cs (j.d + (off + len * sz)) 0 vs) f hll.symm (by simp [hjlt])
    (fun h=>by obtain ⟨q1,q2,q3⟩:=he2 h; have:=he (by rw [q2]; exact h); exact ⟨by rw [this.1,q2],by show j.d + off = 0; omega⟩)
    (by show j.m = _; rw [k1,h3]) (by rw [hll]; exact hfit) (by rw [← hxl]; exact fun i x hx=>cells_behind h0 i x hx) ?_ (fun _=>⟨hnp,fun i g1 g2=>hnf i (by have : j.d + off + fz2≤i:=g1; omega) g2⟩)
   ·rw [hll] at this; exact this
   ·intro i x hx
    have hi:=lt_of_get hx
    show ∃ v,(laid cs (j.d + (off + len * sz)) 0 vs)[j.d + off + i]? = some v∧_
    rw [k2]
    by_cases g : i < xs.length
    ·rw [if_neg (by omega)]
     rw [List.getElem?_append_left g] at hx
     obtain ⟨y,hy,hv⟩:=VRs_get hxs i x hx
     rw [Array.getElem?_toList,Array.getElem?_extract,if_pos (by omega)] at hy
     exact ⟨y,hy,VR_mono hext _ _ hv⟩
    ·rw [List.getElem?_append_right (by omega)] at hx
     have:=lt_of_get hx
     obtain ⟨y,hy,hv⟩:=VRs_get hys _ x hx
     rw [if_pos ⟨by omega,by omega⟩]
     have e1 : j.d + off + i - (j.d + (off + len * sz)) = i - xs.length:=by omega
     rw [e1]
     exact ⟨y,hy,VR_mono hext _ _ hv⟩
 ·intro rest
  have hext:=Ext.add (ι:=ι) ⟨w.heap.size,0,need * sz,need * sz + rest.size⟩ hnone
  have hll : (xs ++ ys).length = need * sz:=by rw [List.length_append,hxl,hyl]
  have hel : (cs.extract (j.d + off) (j.d + off + len * sz)).size = len * sz:=by simp; omega
  have hsz : (cs.extract (j.d + off) (j.d + off + len * sz) ++ vs.toArray ++ rest).size = need * sz + rest.size:=by
   simp only [Array.size_append,hel,List.size_toArray]; omega
  refine ⟨hext,Rk.push _ _ _ _ ⟨_,rfl,?_,Rl.notHard⟩⟩
  have hall : VRs ι (xs ++ ys) ((cs.extract (j.d + off) (j.d + off + len * sz)).toList ++ vs):=VRs_append hxs hys
  have:=CR.of (ι.add H.next ⟨w.heap.size,0,need * sz,need * sz + rest.size⟩) pr false fz2 e2 el (xs ++ ys) (setCells ys (len * sz) c0) ⟨w.heap.size,0,need * sz,need * sz + rest.size⟩
    (w.heap.push (.cells (cs.extract (j.d + off) (j.d + off + len * sz) ++ vs.toArray ++ rest) el)) (cs.extract (j.d + off) (j.d + off + len * sz) ++ vs.toArray ++ rest) (0,0) hll.symm (by simp)
    (fun h=>⟨(he2 h).1.symm,rfl⟩) hsz.symm (by rw [hll]; show 0 + need * sz≤need * sz + rest.size; omega) (by rw [← hxl]; exact fun i x hx=>cells_behind h0 i x hx) ?_ (fun _=>⟨Rl.notProt,fun i _ _=>by simp⟩)
  ·rw [hll] at this; exact this
  ·intro i x hx
   have hi:=lt_of_get hx
   obtain ⟨y,hy,hv⟩:=VRs_get hall i x hx
   have hyl:=lt_of_get hy
   refine ⟨y,?_,VR_mono hext _ _ hv⟩
   show (cs.extract (j.d + off) (j.d + off + len * sz) ++ vs.toArray ++ rest)[0 + i]? = some y
   rw [Nat.zero_add,← Array.getElem?_toList]
   simp only [Array.toList_append]
   rw [List.getElem?_append_left hyl]
   exact hy
theorem zero_ok' {t : TypeId} {zs : List AV} (h : zeroOf P t = some zs) (ι : Emb) : ∃ z,(∀ w,(zeroValue t).run P w = .ok z w)∧VRs ι zs z.cells.toList:=by
 unfold zeroOf at h
 obtain ⟨z,h1,h2⟩:=bind_some h
 obtain ⟨i,hi,hz⟩:=bind_some h1
 exact ⟨z,fun w=>by simp [zeroValue,run_info hi,hz],consts_ok ι h2⟩
theorem VRs_nil {ys : List Value} (h : VRs ι [] ys) : ys = []:=h
theorem Fr.drew {w' : World} (h : Fr pr w.drew w') : Fr pr w w':=⟨h.os,h.tape,h.output,h.size,h.keep⟩
/-- A new row behind the drawing of a room. -/
theorem Fr.pushed (Rl : Rel pr ng ι H w.heap) (o : Obj) : Fr pr w (w.drew.alloc o):=by
 refine ⟨rfl,rfl,rfl,by show w.heap.size≤(w.heap.push o).size; simp,fun b hb=>?_⟩
 have:=Rl.prot b hb
 show (w.heap.push o)[b]? = w.heap[b]?
 simp [Array.getElem?_push,Nat.ne_of_lt this]
theorem slice_new {j : Inj} {id : Pa} {ι' : Emb} {need nc sz : Nat} (hj : ι' id = some j) (hle : need≤nc) (hn : j.n = need * sz) (hm : j.d + nc * sz≤j.m) : VR ι' (.sl id 0 need none sz) (.slice (some ⟨j.blk,j.d,none⟩) need nc):=by
 have:=Nat.mul_le_mul_right sz hle
 exact ⟨_,nc,j,rfl,hj,hle,fun q e=>(by cases e),fun _=>by omega,.inr rfl,by omega,by omega⟩
theorem ok_app {t u ty el : TypeId} {du : TypeDesc} {n b : Nat} {zs : List AV} {x y : Operand} {x' y' : Opd} (ht : P.underlying t = some (.slice el)) (hu : P.underlying u = some du) (hdu : ∀ kd,du ≠ .int kd)
  (hn : szOf P el = some (n + 1)) (hb : byOf P el = some (b + 1)) (hz : zeroOf P el = some zs) (hzl : zs.length = n + 1) (C : Ctx P pr ι H fr a w) (hx : compOpd P x = some x') (hy : compOpd P y = some y')
  (h : xApp el (n + 1) (b + 1) x' y' call fr H k = some r) : MemOK P pr ι w k r (Builtin.append_ #[t,u] ty #[a.eval x,a.eval y]):=by
 unfold xApp at h; rw [evK_eq,evK_eq] at h
 unfold appendK at h
 have hxv:=C.opd hx
 obtain ⟨m,l,h1,hll,hlen,hcells⟩:=srcK_ok (P:=P) C.rel (C.opd hy) h
 obtain ⟨z,hzr,hzs⟩:=zero_ok' hz ι
 have hzsz : z.cells.size = n + 1:=by have:=VRs_length hzs; simpa [hzl] using this
 have hrest : ∀ q,(Builtin.zeroCells z.cells q).size = q * (n + 1):=fun q=>by simp [Builtin.zeroCells,hzsz]
 unfold append2K at h1
 cases m with
 | zero =>
  have h1 : vL (ev fr x') (k .ns H) (fun a off len cap sz=>k (.sl a off len cap sz) H) = some r:=h1
  obtain ⟨new,hnew,hnv⟩:=hcells 0 (Nat.le_refl _)
  have hnew:=hnew w rfl
  have hnil : new.toList = []:=by rw [Nat.zero_mul,List.take_zero] at hnv; exact hnv
  rcases vL_some h1 with ⟨e,h2⟩ | ⟨pa,off,len,cap,sz',e,h2⟩
  ·rw [e] at hxv
   have hxv : a.eval x = .slice none 0 0:=hxv
   exact ⟨_,H,h2,C.pure (by rw [hxv]; exact run_append_none ht hu hdu hn hlen hnew) rfl⟩
  ·rw [e] at hxv
   have hxv':=hxv
   obtain ⟨ad,cp,j,hve,hj,hlc,hck,hcn,had,hm,hjn⟩:=hxv
   refine ⟨_,H,h2,C.pure (v':=a.eval x) ?_ hxv'⟩
   rw [hve]
   have:=run_append_fit (ty:=ty) (w':=w) (ad:=ad) (len:=len) (cp:=cp) ht hu hdu hn hlen hnew (by omega) (by rw [hnil]; rfl)
   exact this
 | succ m =>
  have h1 : guardK (oneCs l) (vL (ev fr x') (appNil el (n + 1) (b + 1) (Nat.succ m) l H k) (appSl el (n + 1) (b + 1) (Nat.succ m) l H k)) = some r:=h1
  obtain ⟨ho,h1⟩:=guardK_some h1
  have Rd : Rel pr P.globals.size ι H w.drew.heap:=C.rel
  obtain ⟨new,hnew',hnv⟩:=hcells (m + 1) (Nat.le_refl _)
  have hnew:=hnew' w rfl
  have hnewd:=hnew' w.drew rfl
  rw [take_all _ _ hll] at hnv
  have hnl : new.size = (m + 1) * (n + 1):=by have:=VRs_length hnv; simpa [hll] using this
  rcases vL_some h1 with ⟨e,h2⟩ | ⟨pa,off,len,cap,sz',e,h2⟩
  ·rw [e] at hxv
   have hxv : a.eval x = .slice none 0 0:=hxv
   unfold appNil at h2
   obtain ⟨g1,h3⟩:=guardK_some h2
   have g1 : (m + 1) * (b + 1)≤roomN:=Nat.le_of_ble_eq_true g1
   obtain ⟨nc,hnc,hrun⟩:=run_append_grow (w:=w) (t:=t) (u:=u) (ty:=ty) (base:=none) (len:=0) (cp:=0) (old:=#[]) ht hu hdu hn hb hlen rfl hnewd hzr (by omega) (by rw [Nat.zero_add]; exact g1)
   rw [Nat.zero_add] at hnc hrun
   have hcs : (#[] ++ new ++ Builtin.zeroCells z.cells (nc - (m + 1))).size = nc * (n + 1):=by
    rw [Array.size_append,Array.size_append,hnl,hrest,Nat.sub_mul]
    have:=Nat.mul_le_mul_right (n + 1) hnc
    simp only [List.size_toArray,List.length_nil]
    omega
   obtain ⟨H',h4,hext,hrel,hfr⟩:=newK_ok (w:=w.drew) Rd (cs:=#[] ++ new ++ Builtin.zeroCells z.cells (nc - (m + 1))) (fz':=(0,0)) (by rw [hcs,hll]; exact Nat.mul_le_mul_right _ hnc)
    (by
     simp only [Array.toList_append]
     rw [List.nil_append,List.take_append_of_le_length (by simp [hll,hnl]),take_all _ _ (by simp [hll,hnl])]
     exact hnv) (fun i _=>by simp) h3
   refine ⟨_,H',h4,_,_,_,by rw [hxv]; exact hrun,hext,hrel,⟨hfr.os,hfr.tape,hfr.output,hfr.size,hfr.keep⟩,slice_new (j:=⟨w.heap.size,0,l.length,(#[] ++ new ++ Builtin.zeroCells z.cells (nc - (m + 1))).size⟩) (Emb.add_same _ _ _) hnc hll (Nat.le_of_eq ((Nat.zero_add _).trans hcs.symm))⟩
  ·rw [e] at hxv
   obtain ⟨ad,cp,j,hve,hj,hlc,hck,hcn,had,hm,hjn⟩:=hxv
   unfold appSl at h2
   obtain ⟨gz,h3⟩:=guardK_some h2
   have gz:=Nat.eq_of_beq_eq_true gz
   subst gz
   rw [forceN_eq] at h3
   have hadp : cp ≠ 0→ad = ⟨j.blk,j.d + off,none⟩:=fun hne=>had.resolve_left hne
   cases cap with
   | some q =>
    obtain ⟨e1,e2⟩:=hck q rfl
    subst e1
    have h3 : (Bool.casesOn (Nat.ble (Nat.add len (Nat.succ m)) cp) (appNew el (n + 1) (b + 1) len off (Nat.add len (Nat.succ m)) pa l H k) (appFits (n + 1) (Nat.succ m) len off (Nat.add len (Nat.succ m)) cp pa l H k) : Option R) = some r:=h3
    cases g : Nat.ble (Nat.add len (Nat.succ m)) cp with
    | true =>
     rw [g] at h3
     have g : len + (m + 1)≤cp:=Nat.le_of_ble_eq_true g
     have h3 : appFits (n + 1) (Nat.succ m) len off (Nat.add len (Nat.succ m)) cp pa l H k = some r:=h3
     unfold appFits at h3
     rw [forceN_eq] at h3
     obtain ⟨H',h4,j',w',hj',hst,hrel,hfr⟩:=storeK_ok (P:=P) C.rel hnv hll h3
     rw [hj] at hj'; cases hj'
     have hadd : ad.add (len * (n + 1)) = ⟨j.blk,j.d + (off + len * (n + 1)),none⟩:=by rw [hadp (by omega),Addr.add_lit,Nat.add_assoc]
     refine ⟨_,H',h4,.slice (some ad) (len + (m + 1)) cp,w',ι,?_,Ext.refl _,hrel,hfr,ad,cp,j,rfl,hj,g,hck,hcn,had,hm,?_⟩
     ·rw [hve]
      exact run_append_fit ht hu hdu hn hlen hnew g (by rw [hadd]; exact hst)
     ·have:=Nat.mul_le_mul_right (n + 1) g
      have e2 : off + cp * (n + 1)≤j.n:=e2
      show off + (len + (m + 1)) * (n + 1)≤j.n
      omega
    | false =>
     rw [g] at h3
     have g : cp < len + (m + 1):=by
      rcases Nat.lt_or_ge cp (len + (m + 1)) with g' | g'
      ·exact g'
      ·exact absurd (Nat.ble_eq.mpr g') (by rw [show len + (m + 1) = Nat.add len (Nat.succ m) from rfl,g]; simp)
     have h3 : appNew el (n + 1) (b + 1) len off (Nat.add len (Nat.succ m)) pa l H k = some r:=h3
     unfold appNew at h3
     obtain ⟨g1,h4⟩:=guardK_some h3
     have g1 : (len + (m + 1)) * (b + 1)≤roomN:=Nat.le_of_ble_eq_true g1
     obtain ⟨xs,h5,hxl,j',cs,e',f',hj',hbl,hle,hvs⟩:=rangeCK_ok C.rel h4
     rw [hj] at hj'; cases hj'
     have hxl : xs.length = len * (n + 1):=hxl
     have hle : j.d + off + len * (n + 1)≤cs.size:=hle
     have hvs : VRs ι xs (cs.extract (j.d + off) (j.d + off + len * (n + 1))).toList:=hvs
     have hold : (Builtin.firstCells (n + 1) len (.slice (some ad) len cp)).run P w.drew = .ok (cs.extract (j.d + off) (j.d + off + len * (n + 1))) w.drew:=by
      by_cases h0 : len = 0
      ·subst h0
       simp only [Builtin.firstCells,Nat.zero_mul]
       have : cs.extract (j.d + off) (j.d + off + 0) = #[]:=by simp; omega
       rw [this]; rfl
      ·rw [hadp (by omega)]
       exact run_loadRow (w:=w.drew) hbl hle
     obtain ⟨nc,hnc,hrun⟩:=run_append_grow (w:=w) (t:=t) (u:=u) (ty:=ty) (base:=some ad) (len:=len) (cp:=cp) ht hu hdu hn hb hlen hold hnewd hzr g g1
     have hes : (cs.extract (j.d + off) (j.d + off + len * (n + 1))).size = len * (n + 1):=by rw [Array.size_extract]; omega
     generalize hold' : cs.extract (j.d + off) (j.d + off + len * (n + 1)) = old at *
     have hneed:=Nat.add_mul len (m + 1) (n + 1)
     have hcs : (old ++ new ++ Builtin.zeroCells z.cells (nc - (len + (m + 1)))).size = nc * (n + 1):=by
      rw [Array.size_append,Array.size_append,hnl,hes,hrest,Nat.sub_mul]
      have:=Nat.mul_le_mul_right (n + 1) hnc
      omega
     have hxyl : (xs ++ l).length = (len + (m + 1)) * (n + 1):=by rw [List.length_append,hxl,hll]; omega
     obtain ⟨H',h6,hext,hrel,hfr⟩:=newK_ok (w:=w.drew) Rd (cs:=old ++ new ++ Builtin.zeroCells z.cells (nc - (len + (m + 1)))) (fz':=(0,0)) (by rw [hcs,hxyl]; exact Nat.mul_le_mul_right _ hnc)
      (by
       simp only [Array.toList_append]
       rw [List.take_append_of_le_length (by simp [hxyl,hnl,hes]; omega),take_all _ _ (by simp [hxyl,hnl,hes]; omega)]
       exact VRs_append hvs hnv) (fun i _=>by simp) h5
     refine ⟨_,H',h6,_,_,_,by rw [hve]; exact hrun,hext,hrel,⟨hfr.os,hfr.tape,hfr.output,hfr.size,hfr.keep⟩,slice_new (j:=⟨w.heap.size,0,(xs ++ l).length,(old ++ new ++ Builtin.zeroCells z.cells (nc - (len + (m + 1)))).size⟩) (Emb.add_same _ _ _) hnc hxyl (Nat.le_of_eq ((Nat.zero_add _).trans hcs.symm))⟩
   | none =>
    have h3 : (H.getK pa fun b'=>bC b' (appOpen el (n + 1) (b + 1) len off (Nat.add len (Nat.succ m)) pa l H k)) = some r:=h3
    rw [Heap.getK_eq] at h3
    obtain ⟨ro,fz,eb,size,c,hbk,h4⟩:=bC_some h3
    unfold appOpen at h4
    cases ro with
    | true=>cases h4
    | false =>
     have hjn0:=hcn rfl
     obtain ⟨j',hj',hcr⟩:=C.rel.cells hbk
     rw [hj] at hj'; cases hj'
     have hjs : j.n = size:=hcr.1
     have hjm : j.d + size≤j.m:=by obtain ⟨_,_,_,_,_,_,_,h4,_⟩:=hcr; exact h4
     simp only [forceN_eq] at h4
     obtain ⟨gf,h5⟩:=guardK_some h4
     have gf : fz≤off + len * (n + 1):=Nat.le_of_ble_eq_true gf
     have hneed:=Nat.add_mul len (m + 1) (n + 1)
     have hpos : 0 < n + 1:=by omega
     cases g : Nat.ble (Nat.add off (Nat.mul (Nat.add len (Nat.succ m)) (n + 1))) size with
     | true =>
      rw [g] at h5
      have h5 : setCellsK l (Nat.add off (Nat.mul len (n + 1))) c (fun c=>H.putK pa (.cells false fz eb size c) fun H=>k (.sl pa off (Nat.add len (Nat.succ m)) none (n + 1)) H) = some r:=h5
      rw [setCellsK_eq,Heap.putK_eq] at h5
      have g : off + (len + (m + 1)) * (n + 1)≤size:=Nat.le_of_ble_eq_true g
      have hfit : len + (m + 1)≤cp:=by
       have : (len + (m + 1)) * (n + 1)≤cp * (n + 1):=by omega
       exact Nat.le_of_mul_le_mul_right this hpos
      obtain ⟨cs,e',f',hbl,hle,hfz,hcr'⟩:=hcr.store (off:=off + len * (n + 1)) hnv (by rw [hll]; omega)
      have hnp:=(hcr.2.choose_spec.choose_spec.choose_spec.2.2.2.2.2 rfl).1
      have hadd : ad.add (len * (n + 1)) = ⟨j.blk,j.d + (off + len * (n + 1)),none⟩:=by rw [hadp (by omega),Addr.add_lit,Nat.add_assoc]
      have hst:=run_storeRow (P:=P) new.toList 0 cs w hbl (oneCs_cell ho hnv) (by omega) (fun q q1 q2=>hfz gf q (by omega) (by omega))
      refine ⟨_,_,h5,.slice (some ad) (len + (m + 1)) cp,_,ι,by rw [hve]; exact run_append_fit ht hu hdu hn hlen hnew hfit (by rw [hadd]; exact hst),Ext.refl _,C.rel.turn (.cells false fz eb size (setCells l (off + len * (n + 1)) c)) (.cells (laid cs (j.d + (off + len * (n + 1))) 0 new.toList) e' f') hj (by rw [hbk]; rfl) ⟨j,rfl,hcr',fun h=>hnp (.inr h)⟩,?_,ad,cp,j,rfl,hj,hfit,hck,hcn,had,hm,?_⟩
      ·refine ⟨rfl,rfl,rfl,by simp,fun q hq=>?_⟩
       have : j.blk ≠ q:=fun e=>hnp (e ▸ hq)
       simp [this]
      ·show off + (len + (m + 1)) * (n + 1)≤j.n
       omega
     | false =>
      rw [g] at h5
      have h5 : growK (Bool.casesOn (Nat.beq eb el) 0 el) (n + 1) (b + 1) len off (Nat.add len (Nat.succ m)) fz pa l H c k = some r:=h5
      have he2 : (Bool.casesOn (Nat.beq eb el) 0 el : Nat) ≠ 0→(Bool.casesOn (Nat.beq eb el) 0 el : Nat) = el∧eb = (Bool.casesOn (Nat.beq eb el) 0 el : Nat):=by
       cases ge : Nat.beq eb el with
       | false=>intro h; exact (h rfl).elim
       | true=>intro _; exact ⟨rfl,Nat.eq_of_beq_eq_true ge⟩
      generalize (Bool.casesOn (Nat.beq eb el) 0 el : Nat) = e2 at h5 he2
      unfold growK at h5
      obtain ⟨g1,h6⟩:=guardK_some h5
      have g1 : (len + (m + 1)) * (b + 1)≤roomN:=Nat.le_of_ble_eq_true g1
      have hoff : off + len * (n + 1)≤size:=by omega
      obtain ⟨cs0,e0,f0,hbl0,hle0,hvs0⟩:=hcr.row (off:=off) (n:=len * (n + 1)) hoff
      have hxs : ∀ cs e' f,w.heap[j.blk]? = some (.cells cs e' f)→VRs ι (getCells (len * (n + 1)) off c) (cs.extract (j.d + off) (j.d + off + len * (n + 1))).toList:=by
       intro cs e' f hbl
       rw [hbl0] at hbl; cases hbl
       exact hvs0
      -- what both ways leave
      have key : ∃ H',k (.sl H.next 0 (len + (m + 1)) none (n + 1)) H' = some r∧∃ cs e' f,w.heap[j.blk]? = some (.cells cs e' f)∧j.m = cs.size∧¬ pr j.blk ∧
        (∀ q,j.d + (off + len * (n + 1))≤q→q < j.m→¬ (f.1≤q∧q < f.2))∧j.d + off + len * (n + 1)≤cs.size ∧
        (j.d + off + (len + (m + 1)) * (n + 1)≤j.m→Ext ι (ι.add H.next ⟨j.blk,j.d + off,(len + (m + 1)) * (n + 1),j.m⟩) ∧
         Rel pr P.globals.size (ι.add H.next ⟨j.blk,j.d + off,(len + (m + 1)) * (n + 1),j.m⟩) H' (w.heap.setIfInBounds j.blk (.cells (laid cs (j.d + (off + len * (n + 1))) 0 new.toList) e' f))) ∧
        (∀ rest,Ext ι (ι.add H.next ⟨w.heap.size,0,(len + (m + 1)) * (n + 1),(len + (m + 1)) * (n + 1) + rest.size⟩) ∧
         Rel pr P.globals.size (ι.add H.next ⟨w.heap.size,0,(len + (m + 1)) * (n + 1),(len + (m + 1)) * (n + 1) + rest.size⟩) H' (w.heap.push (.cells (cs.extract (j.d + off) (j.d + off + len * (n + 1)) ++ new.toList.toArray ++ rest) el))):=by
       have hg : ∀ i x,(getCells (len * (n + 1)) off c)[i]? = some x→Tr.get .u c (toPa (off + i)) = x:=by
        intro i x hx
        have hi:=lt_of_get hx
        rw [getCells_length] at hi
        rw [getCells_get _ _ _ _ hi] at hx
        exact Option.some.inj hx
       cases off with
       | zero =>
        have h6 : grow2K e2 (n + 1) (Nat.mul len (n + 1)) (Nat.add len (Nat.succ m)) fz pa l H k c = some r:=h6
        exact grow2K_ok C.rel hbk hj (getCells_length _ _ _) hnv (by rw [hll]; omega) (fun i x hx=>by have:=hg i x hx; rwa [Nat.zero_add] at this) hoff (by omega) gf (fun h=>⟨(he2 h).1,(he2 h).2,rfl⟩) hxs h6
       | succ off =>
        have h6 : getCellsK (Nat.mul len (n + 1)) (Nat.succ off) c (fun xs=>setCellsK xs 0 .leaf fun c=>forceN (Nat.sub fz (Nat.succ off)) fun fz=>grow2K 0 (n + 1) (Nat.mul len (n + 1)) (Nat.add len (Nat.succ m)) fz pa l H k c) = some r:=h6
        rw [getCellsK_eq,setCellsK_eq,forceN_eq] at h6
        refine grow2K_ok C.rel hbk hj (getCells_length _ _ _) hnv (by rw [hll]; omega) (fun i x hx=>?_) hoff ?_ gf (fun h=>(h rfl).elim) hxs h6
        ·have hi:=lt_of_get hx
         have hx' : (getCells (Nat.mul len (n + 1)) (Nat.succ off) c)[i]? = some x:=hx
         have hi' : i < (getCells (Nat.mul len (n + 1)) (Nat.succ off) c).length:=hi
         rw [setCells_get,if_pos ⟨by omega,by omega⟩,Nat.sub_zero,hx']; rfl
        ·show fz≤off + 1 + (fz - (off + 1))
         omega
      obtain ⟨H',h7,cs,e',f,hbl,hjmc,hnp,hnf,hle,hA,hB⟩:=key
      by_cases hfit : len + (m + 1)≤cp
      ·have hmul:=Nat.mul_le_mul_right (n + 1) hfit
       obtain ⟨hext,hrel⟩:=hA (by omega)
       have hadd : ad.add (len * (n + 1)) = ⟨j.blk,j.d + (off + len * (n + 1)),none⟩:=by rw [hadp (by omega),Addr.add_lit,Nat.add_assoc]
       have hnl' : new.toList.length = (m + 1) * (n + 1):=by simpa using hnl
       have hst:=run_storeRow (P:=P) (o:=j.d + (off + len * (n + 1))) new.toList 0 cs w hbl (oneCs_cell ho hnv) (by omega) (fun q q1 q2=>hnf q (by omega) (by omega))
       refine ⟨_,H',h7,.slice (some ad) (len + (m + 1)) cp,_,_,by rw [hve]; exact run_append_fit ht hu hdu hn hlen hnew hfit (by rw [hadd]; exact hst),hext,hrel,?_,?_⟩
       ·refine ⟨rfl,rfl,rfl,by simp,fun q hq=>?_⟩
        have : j.blk ≠ q:=fun e=>hnp (e ▸ hq)
        simp [this]
       ·rw [hadp (by omega)]
        exact slice_new (j:=⟨j.blk,j.d + off,(len + (m + 1)) * (n + 1),j.m⟩) (Emb.add_same _ _ _) hfit rfl hm
      ·have hold : (Builtin.firstCells (n + 1) len (.slice (some ad) len cp)).run P w.drew = .ok (cs.extract (j.d + off) (j.d + off + len * (n + 1))) w.drew:=by
        by_cases h0 : len = 0
        ·subst h0
         simp only [Builtin.firstCells,Nat.zero_mul]
         have : cs.extract (j.d + off) (j.d + off + 0) = #[]:=by simp; omega
         rw [this]; rfl
        ·rw [hadp (by omega)]
         exact run_loadRow (w:=w.drew) hbl hle
       obtain ⟨nc,hnc,hrun⟩:=run_append_grow (w:=w) (t:=t) (u:=u) (ty:=ty) (base:=some ad) (len:=len) (cp:=cp) ht hu hdu hn hb hlen hold hnewd hzr (by omega) g1
       obtain ⟨hext,hrel⟩:=hB (Builtin.zeroCells z.cells (nc - (len + (m + 1))))
       have hmc:=Nat.mul_le_mul_right (n + 1) hnc
       have hms:=Nat.sub_mul nc (len + (m + 1)) (n + 1)
       refine ⟨_,H',h7,_,_,_,by rw [hve]; exact hrun,hext,?_,Fr.pushed C.rel _,slice_new (j:=⟨w.heap.size,0,(len + (m + 1)) * (n + 1),(len + (m + 1)) * (n + 1) + (Builtin.zeroCells z.cells (nc - (len + (m + 1)))).size⟩) (Emb.add_same _ _ _) hnc rfl ?_⟩
       ·rw [Array.toArray_toList] at hrel
        exact hrel
       ·show 0 + nc * (n + 1)≤(len + (m + 1)) * (n + 1) + (Builtin.zeroCells z.cells (nc - (len + (m + 1)))).size
        rw [hrest]; omega
end
end Go.Vai

/- VAI,part Q: copy,pointers seen as others,iterators,builders' strings,entries of the library's. -/
namespace Go.Vai
section
variable {R : Type} {P : Program} {pr : Pr} {ng : Nat} {ι : Emb} {H : Heap} {fr : Tr AV} {a : Act} {w : World}
variable {k : HK R} {r : R} {call : CallK R}
theorem run_copy {t u ty el : TypeId} {sz : Nat} (ht : P.underlying t = some (.slice el)) (hn : szOf P el = some sz) {base : Option Addr} {len cp n : Nat} {x : Value} {cs : Array Value}
  (hl : ∀ w,(Builtin.lenOf x).run P w = .ok n w) (hf : (Builtin.firstCells sz (Nat.min n len) x).run P w = .ok cs w) :
  (Builtin.copy_ #[t,u] ty #[.slice base len cp,x]).run P w = match base with
   | none=>.ok (.int .i64 (Nat.min n len : Nat)) w
   | some ad=>((storeCells ad cs.toList).run P w).andThen fun _ w'=>.ok (.int .i64 (Nat.min n len : Nat)) w':=by
 cases base <;> simp [Builtin.copy_,run_underlying ht,run_size hn,hl,hf,goInt]
theorem ok_cpy {t u ty el : TypeId} {n : Nat} {x y : Operand} {x' y' : Opd} (ht : P.underlying t = some (.slice el)) (hn : szOf P el = some (n + 1)) (C : Ctx P pr ι H fr a w) (hx : compOpd P x = some x') (hy : compOpd P y = some y')
  (h : xCpy (n + 1) x' y' call fr H k = some r) : MemOK P pr ι w k r (Builtin.copy_ #[t,u] ty #[a.eval x,a.eval y]):=by
 unfold xCpy at h; rw [evK_eq,evK_eq] at h
 unfold copyK at h
 have hxv:=C.opd hx
 rcases vL_some h with ⟨e,h1⟩ | ⟨pa,off,len,cap,sz',e,h1⟩
 ·obtain ⟨m,l,h2,hll,hlen,hcells⟩:=srcK_ok (P:=P) C.rel (C.opd hy) h1
  rw [e] at hxv
  have hxv : a.eval x = .slice none 0 0:=hxv
  obtain ⟨cs,hcs,_⟩:=hcells (Nat.min m 0) (Nat.min_le_left _ _)
  refine ⟨_,H,h2,C.pure (v':=.int .i64 (.ofNat 0)) ?_ rfl⟩
  rw [hxv,run_copy ht hn hlen (hcs w rfl)]
  show Result.ok _ w = _
  rw [show Nat.min m 0 = 0 from Nat.min_zero m]; rfl
 ·unfold copySl at h1
  obtain ⟨gz,h2⟩:=guardK_some h1
  have gz:=Nat.eq_of_beq_eq_true gz
  subst gz
  obtain ⟨m,l,h3,hll,hlen,hcells⟩:=srcK_ok (P:=P) C.rel (C.opd hy) h2
  rw [forceN_eq,minN_eq] at h3
  rw [e] at hxv
  obtain ⟨ad,cp,j,hve,hj,hlc,hck,hcn,had,hm,hjn⟩:=hxv
  obtain ⟨cs,hcs,hcv⟩:=hcells (Nat.min m len) (Nat.min_le_left _ _)
  have hrun:=run_copy (w:=w) (u:=u) (ty:=ty) (base:=some ad) (cp:=cp) ht hn hlen (hcs w rfl)
  have hmin : Nat.min m len = min m len:=rfl
  rw [hmin] at hcv hrun
  unfold copy2K at h3
  cases hq : min m len with
  | zero =>
   rw [hq] at h3 hcv hrun
   have h3 : k (.i .i64 (.ofNat 0)) H = some r:=h3
   rw [Nat.zero_mul,List.take_zero] at hcv
   have hnil : cs.toList = []:=hcv
   rw [hnil] at hrun
   exact ⟨_,H,h3,C.pure (v':=.int .i64 (.ofNat 0)) (by rw [hve]; exact hrun) rfl⟩
  | succ q =>
   rw [hq] at h3 hcv hrun
   have h3 : storeK (l.take (Nat.mul (q + 1) (n + 1))) (Nat.mul (q + 1) (n + 1)) pa off H (fun H=>k (.i .i64 (.ofNat (q + 1))) H) = some r:=h3
   have hle : q + 1≤m:=by omega
   have hmul:=Nat.mul_le_mul_right (n + 1) hle
   obtain ⟨H',h4,j',w',hj',hst,hrel,hfr⟩:=storeK_ok (P:=P) C.rel (l:=l.take ((q + 1) * (n + 1))) hcv (by rw [List.length_take,hll]; exact Nat.min_eq_left hmul) h3
   rw [hj] at hj'; cases hj'
   have hadp : ad = ⟨j.blk,j.d + off,none⟩:=had.resolve_left (by omega)
   refine ⟨_,H',h4,.int .i64 (.ofNat (q + 1)),w',ι,?_,Ext.refl _,hrel,hfr,rfl⟩
   rw [hve,hrun,hadp]
   show ((storeCells ⟨j.blk,j.d + off,none⟩ cs.toList).run P w).andThen _ = _
   rw [hst]
   rfl
theorem CR.shape {ro : Bool} {fz e size : Nat} {c : Tr AV} {j : Inj} (r : CR ι pr ro fz e size c j w.heap) : ∃ e' n,w.shape? j.blk = some (e',n)∧(e ≠ 0→e' = e∧j.d = 0)∧j.m = n∧j.d + size≤n:=by
 obtain ⟨_,cs,e',f,h2,he,h3,h4,_⟩:=r
 exact ⟨e',cs.size,by simp [World.shape?,h2],he,h3,by omega⟩
theorem ok_p2u {s d t : TypeId} {n : Nat} {x : Operand} {x' : Opd} (hs : P.underlying s = some (.pointer t)) (hd : P.underlying d = some .unsafePointer) (hn : szOf P t = some (n + 1)) (C : Ctx P pr ι H fr a w) (hx : compOpd P x = some x')
  (h : xP2u x' call fr H k = some r) : PureOK P ι w H k r (convert s d (a.eval x)):=by
 unfold xP2u at h; rw [evK_eq] at h
 have hv:=C.opd hx
 rcases vP_some h with ⟨e,h1⟩ | ⟨pa,off,e,h1⟩
 ·rw [e] at hv
  have hv : a.eval x = .pointer none:=hv
  refine ⟨_,h1,.pointer none,rfl,?_⟩
  rw [hv]
  simp [convert,run_underlying hs,run_underlying hd,Conv.unsafePointer]
 ·rw [Heap.getK_eq] at h1
  obtain ⟨ro,fz,e',size,c,hb,h2⟩:=bC_some h1
  obtain ⟨g,h3⟩:=guardK_some h2
  have g : off < size:=Nat.blt_eq.mp g
  rw [e] at hv
  obtain ⟨j,hj,hve⟩:=hv
  obtain ⟨j',hj',hcr⟩:=C.rel.cells hb
  rw [hj] at hj'; cases hj'
  obtain ⟨e'',m,hsh,_,_,hle⟩:=hcr.shape
  obtain ⟨i,hi,his⟩ : ∃ i,P.info? t = some i∧i.size = n + 1:=by
   unfold szOf at hn
   cases hi : P.info? t with
   | none=>rw [hi] at hn; cases hn
   | some i=>rw [hi] at hn; exact ⟨i,rfl,Option.some.inj hn⟩
  refine ⟨_,h3,_,⟨j,hj,rfl⟩,?_⟩
  rw [hve]
  exact Lib.run_to_unsafe w _ hs hd hi (by omega) hsh (by show j.d + off < m; omega)
theorem lies_self {e : TypeId} {n m : Nat} (hc : P.cellsOf e = n + 1) (hm : n + 1≤m) : liesAt P P.depth e (m / P.cellsOf e) 0 e 1 = true:=by
 have hd : P.depth = (2 * (P.types.size + Made.depth) + 1) + 1:=rfl
 have h1 : 1≤m / (n + 1):=(Nat.le_div_iff_mul_le (by omega)).mpr (by omega)
 rw [hd]
 simp only [liesAt,Bool.or_eq_true]
 left
 rw [hd]
 simp [rowAt,hc,h1,sameLayout]
theorem ok_u2p {s d u : TypeId} {n : Nat} {x : Operand} {x' : Opd} (hs : P.underlying s = some .unsafePointer) (hd : P.underlying d = some (.pointer u)) (hn : szOf P u = some (n + 1)) (hu : u ≠ 0) (C : Ctx P pr ι H fr a w) (hx : compOpd P x = some x')
  (h : xU2p u (n + 1) x' call fr H k = some r) : PureOK P ι w H k r (convert s d (a.eval x)):=by
 unfold xU2p at h; rw [evK_eq] at h
 have hv:=C.opd hx
 rcases vP_some h with ⟨e,h1⟩ | ⟨pa,off,e,h1⟩
 ·rw [e] at hv
  have hv : a.eval x = .pointer none:=hv
  refine ⟨_,h1,.pointer none,rfl,?_⟩
  rw [hv]
  simp [convert,run_underlying hs,run_underlying hd,Conv.unsafePointer]
 ·rw [Heap.getK_eq] at h1
  obtain ⟨ro,fz,e',size,c,hb,h2⟩:=bC_some h1
  obtain ⟨g1,h3⟩:=guardK_some h2
  obtain ⟨g2,h4⟩:=guardK_some h3
  obtain ⟨g3,h5⟩:=guardK_some h4
  have g1:=Nat.eq_of_beq_eq_true g1
  have g2:=Nat.eq_of_beq_eq_true g2
  have g3 : n + 1≤size:=Nat.le_of_ble_eq_true g3
  subst g1 g2
  rw [e] at hv
  obtain ⟨j,hj,hve⟩:=hv
  obtain ⟨j',hj',hcr⟩:=C.rel.cells hb
  rw [hj] at hj'; cases hj'
  obtain ⟨e'',m,hsh,he,_,hle⟩:=hcr.shape
  obtain ⟨he1,he2⟩:=he hu
  subst he1
  obtain ⟨i,hi,his⟩ : ∃ i,P.info? e'' = some i∧i.size = n + 1:=by
   unfold szOf at hn
   cases hi : P.info? e'' with
   | none=>rw [hi] at hn; cases hn
   | some i=>rw [hi] at hn; exact ⟨i,rfl,Option.some.inj hn⟩
  refine ⟨_,h5,_,⟨j,hj,rfl⟩,?_⟩
  rw [hve]
  exact Lib.run_from_unsafe w _ hs hd hi hsh (by
   show liesAt P P.depth e'' (m / P.cellsOf e'') (j.d + 0) e'' 1 = true
   rw [he2]
   exact lies_self (n:=n) (by simp [Program.cellsOf,hi,his]) (by omega))
theorem ok_rng {t : TypeId} {x : Operand} {x' : Opd} (ht : P.underlying t = some .string) (C : Ctx P pr ι H fr a w) (hx : compOpd P x = some x') (h : xRng x' call fr H k = some r) : MemOK P pr ι w k r (Instr.range t (a.eval x)):=by
 unfold xRng at h; rw [evK_eq] at h
 obtain ⟨len,n,e,h1⟩:=vS_some h
 rw [Heap.allocK_eq] at h1
 have hv:=C.opd hx
 rw [e] at hv
 obtain ⟨s,hve,hsr⟩:=hv
 have hnone : ι H.next = none:=C.rel.fresh _ (Nat.le_refl _)
 refine ⟨_,_,h1,.pointer (some ⟨w.heap.size,0,none⟩),w.alloc (.stringIter s 0),ι.add H.next ⟨w.heap.size,0,0,0⟩,?_,Ext.add _ hnone,C.rel.push _ _ _ _ ⟨_,rfl,rfl,C.rel.notProt,s,by simp,hsr⟩,?_,⟨_,Emb.add_same _ _ _,rfl⟩⟩
 ·rw [hve]
  simp [Instr.range,run_underlying ht]
 ·refine ⟨rfl,rfl,rfl,by show w.heap.size≤(w.heap.push _).size; simp,fun b hb=>?_⟩
  have:=C.rel.prot b hb
  show (w.heap.push _)[b]? = w.heap[b]?
  simp [Array.getElem?_push,Nat.ne_of_lt this]
theorem run_getIter {b pos : Nat} {s : ByteArray} (h : w.heap[b]? = some (.stringIter s pos)) : (getObj b).run P w = .ok (.stringIter s pos) w:=by
 simp [getObj,Sem.run,h]
theorem run_setIter {b pos : Nat} {s : ByteArray} (h : w.heap[b]? = some (.stringIter s pos)) (o : Obj) : (setObj b o).run P w = .ok () { w with heap:=w.heap.setIfInBounds b o }:=by
 simp [setObj,Sem.run,h]
theorem ok_nxt {ty : TypeId} {x : Operand} {x' : Opd} (C : Ctx P pr ι H fr a w) (hx : compOpd P x = some x') (h : xNxt x' call fr H k = some r) : MemOK P pr ι w k r (Instr.next (a.eval x) true ty):=by
 unfold xNxt at h; rw [evK_eq] at h
 rcases vP_some h with ⟨_,h1⟩ | ⟨pa,off,e,h1⟩
 ·cases h1
 ·obtain ⟨g,h2⟩:=guardK_some h1
  have g:=Nat.eq_of_beq_eq_true g
  subst g
  rw [Heap.getK_eq] at h2
  obtain ⟨len,n,pos,hb,h3⟩:=bI_some h2
  have hv:=C.opd hx
  rw [e] at hv
  obtain ⟨j,hj,hve⟩:=hv
  have hd:=C.rel.dom pa
  rw [hb] at hd
  obtain ⟨j',hj',hjd,hnp,s,hbl,hsr⟩:=hd
  rw [hj] at hj'; cases hj'
  rw [hjd] at hve
  have hve : a.eval x = .pointer (some ⟨j.blk,0,none⟩):=hve
  have hsz:=hsr.size
  have hlt:=C.rel.lt _ _ hj
  unfold nxt2 at h3
  cases g : Nat.blt pos len with
  | false =>
   rw [g] at h3
   have g : ¬ pos < s.size:=by rw [hsz]; intro g'; rw [Nat.blt_eq.mpr g'] at g; cases g
   refine ⟨_,H,h3,C.pure (v':=.tuple #[.bool false]) ?_ ⟨_,rfl,_,_,rfl,rfl,rfl⟩⟩
   rw [hve]
   simp [Instr.next,run_getIter hbl,g]
  | true =>
   rw [g] at h3
   have g : pos < len:=Nat.blt_eq.mp g
   have h4:=decK_ok hsr g h3
   simp only [forceN_eq,Heap.putK_eq] at h4
   rw [← hsz] at g
   have hrel:=C.rel.turn (.iter len n (pos + (Utf8.decode s pos).2)) (.stringIter s (pos + (Utf8.decode s pos).2)) hj (by rw [hb]; rfl) ⟨j,rfl,hjd,hnp,s,by simp [hlt],hsr⟩
   have h4 : k (.tu [.b true,.i .i64 (.ofNat pos),.i .i32 (.ofNat (Utf8.decode s pos).1)]) (H.put pa (.iter len n (pos + (Utf8.decode s pos).2))) = some r:=h4
   refine ⟨_,_,h4,.tuple #[.bool true,.int .i64 (.ofNat pos),.int .i32 (.ofNat (Utf8.decode s pos).1)],{ w with heap:=w.heap.setIfInBounds j.blk (.stringIter s (pos + (Utf8.decode s pos).2)) },ι,?_,Ext.refl _,hrel,?_,⟨_,rfl,_,_,rfl,rfl,_,_,rfl,rfl,_,_,rfl,rfl,rfl⟩⟩
   ·rw [hve]
    simp only [Instr.next,Sem.run_bind,run_getIter hbl,Result.andThen_ok,g,if_true,run_setIter hbl,Sem.run_pure]
    rfl
   ·refine ⟨rfl,rfl,rfl,by simp,fun b hb=>?_⟩
    have : j.blk ≠ b:=fun e=>hnp (e ▸ hb)
    simp [this]
theorem freeze_row {b : Nat} {cs : Array Value} {e : Nat} {f : Nat × Nat} (hb : w.heap[b]? = some (.cells cs e f)) (n : Nat) : ∃ f',w.freeze ⟨b,0,none⟩ (n + 1) = { w with heap:=w.heap.setIfInBounds b (.cells cs e f') }:=by
 refine ⟨if f.1 == f.2 then (0,0 + (n + 1)) else (min f.1 0,max f.2 (0 + (n + 1))),?_⟩
 have hlt : b < w.heap.size:=by
  rcases Nat.lt_or_ge b w.heap.size with g | g
  ·exact g
  ·rw [Array.getElem?_eq_none g] at hb; cases hb
 unfold World.freeze
 rw [if_neg (by omega)]
 congr 1
 apply Array.ext_getElem?
 intro i
 rw [Array.getElem?_modify,Array.getElem?_setIfInBounds]
 by_cases e : b = i
 ·subst e; rw [if_pos rfl,if_pos rfl,if_pos hlt,hb]; rfl
 ·rw [if_neg e,if_neg e]
theorem ok_ustr {pt it ty el : TypeId} {x y : Operand} {x' y' : Opd} (ht : P.underlying pt = some (.pointer el)) (hn : szOf P el = some 1) (hel : el ≠ 0) (C : Ctx P pr ι H fr a w) (hx : compOpd P x = some x') (hy : compOpd P y = some y')
  (h : xUstr el x' y' call fr H k = some r) : MemOK P pr ι w k r (Builtin.unsafeString_ #[pt,it] ty #[a.eval x,a.eval y]):=by
 unfold xUstr at h; rw [evK_eq,evK_eq] at h
 obtain ⟨kd,n,e,h1⟩:=vI_some h
 obtain ⟨g1,h2⟩:=guardK_some h1
 have g1:=kix_i64 g1
 subst g1
 obtain ⟨n,e1,h3⟩:=iN_some h2
 subst e1
 have hxv:=C.opd hx
 have hyv:=C.opd hy
 rw [e] at hyv
 have hyv : a.eval y = .int .i64 (n : Int):=hyv
 cases n with
 | zero =>
  have hp : ∃ p,a.eval x = .pointer p∧k (.s 0 0) H = some r:=by
   rcases vP_some h3 with ⟨e,h4⟩ | ⟨pa,off,e,h4⟩
   ·rw [e] at hxv; exact ⟨_,hxv,h4⟩
   ·rw [e] at hxv
    obtain ⟨j,hj,hve⟩:=hxv
    exact ⟨_,hve,h4⟩
  obtain ⟨p,hp,h4⟩:=hp
  exact ⟨_,H,h4,C.pure (v':=.string .empty) (by rw [hp,hyv]; exact Lib.run_unsafeString_none w pt it ty p) ⟨_,rfl,rfl,rfl⟩⟩
 | succ n =>
  have h3 : (vP (ev fr x') none fun a off=>guardK (Nat.beq off 0) (guardK (Nat.ble n roomN) (H.getK a fun b=>bC b (ustr2 el a (Nat.succ n) H k)))) = some r:=h3
  rcases vP_some h3 with ⟨_,h4⟩ | ⟨pa,off,e2,h4⟩
  ·cases h4
  ·obtain ⟨g2,h5⟩:=guardK_some h4
   obtain ⟨g3,h6⟩:=guardK_some h5
   have g2:=Nat.eq_of_beq_eq_true g2
   have g3 : n≤140737488351232:=Nat.le_of_ble_eq_true g3
   subst g2
   rw [Heap.getK_eq] at h6
   obtain ⟨ro,fz,e',size,c,hb,h7⟩:=bC_some h6
   unfold ustr2 at h7
   cases ro with
   | true=>cases h7
   | false =>
    obtain ⟨g4,h8⟩:=guardK_some h7
    obtain ⟨g5,h9⟩:=guardK_some h8
    have g4:=Nat.eq_of_beq_eq_true g4
    have g5 : n + 1≤size:=Nat.le_of_ble_eq_true g5
    subst g4
    rw [getCellsK_eq] at h9
    rw [e2] at hxv
    obtain ⟨j,hj,hve⟩:=hxv
    obtain ⟨j',hj',hcr⟩:=C.rel.cells hb
    rw [hj] at hj'; cases hj'
    obtain ⟨cs,e',f,hbl,hle,hvs⟩:=hcr.row (off:=0) (n:=n + 1) (by omega)
    obtain ⟨h1',cs',e'',f',h2',he,h3',h4',h5',h6'⟩:=hcr
    rw [hbl] at h2'
    cases h2'
    obtain ⟨he1,he2⟩:=he hel
    subst he1
    obtain ⟨hnp,_⟩:=h6' rfl
    obtain ⟨bs,hbs,h10⟩:=packK_ok h9 hvs [] rfl rfl
    rw [Heap.putK_eq] at h10
    have hlt:=C.rel.lt _ _ hj
    have hbl' : bs.length = n + 1:=by
     have:=congrArg List.length hbs
     simp only [Array.length_toList,List.length_map,Array.size_extract] at this
     omega
    have hex : cs.extract (j.d + 0) (j.d + 0 + (n + 1)) = (bs.map fun b=>(Value.int .u8 (b.toNat : Int))).toArray:=by rw [← hbs,Array.toArray_toList]
    obtain ⟨f',hfz⟩:=freeze_row (w:=w) hbl n
    refine ⟨_,_,h10,.string ⟨bs.toArray⟩,{ w with heap:=w.heap.setIfInBounds j.blk (.cells cs e' f') },ι,?_,Ext.refl _,C.rel.turn (.cells true fz e' size c) (.cells cs e' f') hj (by rw [hb]; rfl) ⟨j,rfl,⟨h1',cs,e',f',by simp [hlt],he,h3',h4',h5',fun h=>(by cases h)⟩,fun h=>hnp (.inr h)⟩,?_,⟨_,rfl,by simp,by simp⟩⟩
    ·rw [hve,hyv]
     have hcell : ∀ q x,bs[q]? = some x→w.cell? ((⟨j.blk,0,none⟩ : Addr).add q) = some (.int .u8 x.toNat):=by
      intro q x hq
      have hql:=lt_of_get hq
      rw [Addr.add_lit,cell_row hbl,Nat.zero_add]
      have : (cs.extract (j.d + 0) (j.d + 0 + (n + 1)))[q]? = some (.int .u8 x.toNat):=by
       rw [hex,List.getElem?_toArray,List.getElem?_map,hq]; rfl
      rw [Array.getElem?_extract,if_pos (by omega)] at this
      rw [he2] at this
      simpa using this
     have:=Lib.run_unsafeString_row (P:=P) w pt it ty e' ht (by
       unfold szOf at hn
       cases hi : P.info? e' with
       | none=>rw [hi] at hn; cases hn
       | some i=>rw [hi] at hn; simp only [Program.cellsOf,hi]; exact Option.some.inj hn) j.blk cs.size (by simp [World.shape?,hbl]) bs (by intro e; rw [e] at hbl'; cases hbl') (by omega) (by omega) hcell
     rw [hbl',hfz] at this
     rw [he2]
     exact this
    ·refine ⟨rfl,rfl,rfl,by simp,fun b hb=>?_⟩
     have : j.blk ≠ b:=fun e=>hnp (e ▸ hb)
     simp [this]
theorem rep_u (ι : Emb) : ∀ (n : Nat) (ys : List Value),ys.length = n→VRs ι (repK [.u] n) ys
 | 0,ys,h=>List.eq_nil_of_length_eq_zero h
 | n + 1,[],h=>by simp at h
 | n + 1,y :: ys,h=>⟨y,ys,rfl,trivial,rep_u ι n ys (by simpa using h)⟩
theorem ok_mnz {ps : Array TypeId} {t el : TypeId} {y : Operand} {y' : Opd} (ht : P.underlying t = some (.slice el)) (C : Ctx P pr ι H fr a w) (hy : compOpd P y = some y')
  (h : xMnz el y' call fr H k = some r) : MemOK P pr ι w k r (Extern.BytealgMakeNoZero.makeNoZero ps #[t] #[a.eval y]):=by
 unfold xMnz at h; rw [evK_eq] at h
 obtain ⟨kd,n,e,h1⟩:=vI_some h
 obtain ⟨g1,h2⟩:=guardK_some h1
 have g1:=kix_i64 g1
 subst g1
 obtain ⟨n,e1,h3⟩:=iN_some h2
 subst e1
 obtain ⟨g2,h4⟩:=guardK_some h3
 have g2 : n≤140737488351232:=Nat.le_of_ble_eq_true g2
 have hyv:=C.opd hy
 rw [e] at hyv
 have hyv : a.eval y = .int .i64 (n : Int):=hyv
 obtain ⟨cs,hrun,hle,_⟩:=Lib.run_makeNoZero (P:=P) w ps t el ht n (by omega)
 have Rd : Rel pr P.globals.size ι H w.drew.drew.heap:=C.rel
 have hll : (repK [.u] n).length = n:=by rw [repK_length]; simp
 obtain ⟨H',h5,hext,hrel,hfr⟩:=newK_ok (w:=w.drew.drew) Rd (cs:=cs) (fz':=(0,0)) (by rw [hll]; exact hle) (by rw [hll]; exact rep_u ι n _ (by simp; omega)) (fun i _=>by simp) h4
 exact ⟨_,H',h5,_,_,_,by rw [hyv]; exact hrun,hext,hrel,⟨hfr.os,hfr.tape,hfr.output,hfr.size,hfr.keep⟩,slice_new (j:=⟨w.heap.size,0,(repK [.u] n).length,cs.size⟩) (Emb.add_same _ _ _) hle (by rw [hll,Nat.mul_one]) (by rw [Nat.mul_one]; exact Nat.le_of_eq (Nat.zero_add _))⟩
theorem byte_bang {len n i : Nat} {s : ByteArray} (hs : SR len n s) (h : i < len) : s[i]! = UInt8.ofNat (byteAt len n i)∧byteAt len n i < 256:=by
 obtain ⟨h1,h2⟩:=hs.byte h
 have hlt : i < s.size:=by rw [hs.size]; exact h
 rw [getElem?_pos s i hlt] at h1
 exact ⟨by rw [getElem!_pos s i hlt]; exact Option.some.inj h1,h2⟩
theorem idx_ok {len n c : Nat} {s : ByteArray} (hs : SR len n s) (hc : c < 256) {g : AV→Option R} {r : R} : ∀ (f i : Nat),i + f = len→(∀ q,q < i→¬ (s[q]! == UInt8.ofNat c) = true)→idxByteK len n c f i g = some r →
  g (.i .i64 (firstIdx s (UInt8.ofNat c))) = some r
 | 0,i,h1,h2,h=>by
  have hsz:=hs.size
  have : (List.range s.size).find? (fun i=>s[i]! == UInt8.ofNat c) = none:=by
   rw [List.find?_eq_none]
   intro q hq
   have:=List.mem_range.mp hq
   exact h2 q (by omega)
  unfold firstIdx
  rw [this]
  exact h
 | f + 1,i,h1,h2,h=>by
  have hsz:=hs.size
  have h : (Bool.casesOn (Nat.beq (byteAt len n i) c) (forceN (Nat.succ i) fun i=>idxByteK len n c f i g) (g (.i .i64 (.ofNat i))) : Option R) = some r:=h
  obtain ⟨hb,hb2⟩:=byte_bang hs (i:=i) (by omega)
  cases e : Nat.beq (byteAt len n i) c with
  | true =>
   rw [e] at h
   have e:=Nat.eq_of_beq_eq_true e
   have : (List.range s.size).find? (fun i=>s[i]! == UInt8.ofNat c) = some i:=by
    rw [List.find?_range_eq_some]
    refine ⟨by rw [hb,e]; simp,List.mem_range.mpr (by omega),fun q hq=>?_⟩
    have:=h2 q hq
    simpa using this
   unfold firstIdx
   rw [this]
   exact h
  | false =>
   rw [e] at h
   rw [forceN_eq] at h
   refine idx_ok hs hc f (i + 1) (by omega) (fun q hq=>?_) h
   rcases Nat.lt_or_ge q i with g' | g'
   ·exact h2 q g'
   ·have : q = i:=by omega
    subst this
    rw [hb]
    intro e'
    have e' : UInt8.ofNat (byteAt len n q) = UInt8.ofNat c:=by simpa using e'
    have:=congrArg UInt8.toNat e'
    rw [UInt8.toNat_ofNat_of_lt' hb2,UInt8.toNat_ofNat_of_lt' hc] at this
    rw [this,Nat.beq_refl] at e; cases e
theorem ok_ixb {x y : Operand} {x' y' : Opd} (C : Ctx P pr ι H fr a w) (hx : compOpd P x = some x') (hy : compOpd P y = some y')
  (h : xIxb x' y' call fr H k = some r) : PureOK P ι w H k r (Extern.BytealgIndexByte.indexByte #[a.eval x,a.eval y]):=by
 unfold xIxb at h; rw [evK_eq,evK_eq] at h
 obtain ⟨len,n,e,h1⟩:=vS_some h
 have hxv:=C.opd hx
 rw [e] at hxv
 obtain ⟨s,hve,hs⟩:=hxv
 obtain ⟨c,h2,hc,hyv⟩:=byteOf_ok h1 (C.opd hy)
 have h3:=idx_ok hs hc len 0 (by omega) (fun q hq=>by omega) h2
 refine ⟨_,h3,_,rfl,?_⟩
 rw [hve,hyv,run_indexByte_string]
 rfl
end
end Go.Vai

/- VAI,part R: each operation,whole. -/
namespace Go.Vai
section
variable {R : Type} {P : Program} {pr : Pr} {ng : Nat} {ι : Emb} {H : Heap} {fr : Tr AV} {a : Act} {w : World}
variable {k : HK R} {r : R} {call : CallK R}
/-- What a call is worth. -/
def CallOK (P : Program) (pr : Pr) (call : CallK R) : Prop :=
 ∀ (f : Nat) (args : List AV) (args' : Array Value) (ι : Emb) (H : Heap) (w : World) (k : HK R) (r : R),Rel pr P.globals.size ι H w.heap→VRs ι args args'.toList→call (toPa f) args H k = some r →
  (∃ fn c,P.funcs[f]? = some fn∧fn.body = some c∧fn.name ≠ "runtime.NumGoroutine") ∧
  Calls P f args' w fun e w'=>∃ v H' v' ι',k v H' = some r∧e = .returned v'∧Ext ι ι'∧Rel pr P.globals.size ι' H' w'.heap∧Fr pr w w'∧VR ι' v v'
/-- What an operation leaves,whatever comes behind it,where what is told goes on to r. -/
def SimK (P : Program) (pr : Pr) (ι : Emb) (o : Oper) (a : Act) (w : World) (k : HK R) (r : R) : Prop :=
 ∀ (next : Act→World→Prop) (Q : Exit→Act→World→Prop),
  (∀ v H' ι' v' w',k v H' = some r→Ext ι ι'→Rel pr P.globals.size ι' H' w'.heap→Fr pr w w'→VR ι' v v'→next (a.put o.dst v') w')→o.wp P a w next Q
theorem SimK.of {o : Oper} (h : ∃ v H',k v H' = some r∧Sim P pr ι o a w v H') : SimK P pr ι o a w k r:=by
 obtain ⟨v,H',h1,h2⟩:=h
 exact fun next Q hk=>h2 next Q fun ι' v' w'=>hk v H' ι' v' w' h1
/-- A call of a function that has a body. -/
theorem run_callFunc_body {f : Nat} {fn : Func} {c : Code} (hf : P.funcs[f]? = some fn) (hn : fn.name ≠ "runtime.NumGoroutine") (hb : fn.body = some c) (args : Array Value) : (callFunc f args).run P w = .ok (.enter f args) w:=by
 simp [callFunc,hf,hn,hb]
theorem CallOK.sim {o : Oper} (hc : CallOK P pr call) (C : Ctx P pr ι H fr a w) {f : Nat} {args : List AV} {args' : Array Value} (he : (execOp a.eval o).run P w = (callFunc f args').run P w) (hv : VRs ι args args'.toList)
  (h : call (toPa f) args H k = some r) : SimK P pr ι o a w k r:=by
 obtain ⟨⟨fn,c,hf,hb,hn⟩,h2⟩:=hc f args args' ι H w k r C.rel hv h
 intro next Q hk
 unfold Oper.wp
 rw [he,run_callFunc_body hf hn hb]
 refine h2.mono ?_
 rintro e w' ⟨v,H',v',ι',h1,rfl,hext,hrel,hfr,hvr⟩
 exact hk v H' ι' v' w' h1 hext hrel hfr hvr
theorem PureOK.sim {o : Oper} {s : Sem Value} (C : Ctx P pr ι H fr a w) (h : PureOK P ι w H k r s) (he : execOp a.eval o = (do pure (.value (← s)) : Sem Next)) : ∃ v H',k v H' = some r∧Sim P pr ι o a w v H':=by
 obtain ⟨v,h1,h2⟩:=h.does C
 exact ⟨v,H,h1,h2.sim he⟩
theorem MemOK.sim {o : Oper} {s : Sem Value} (h : MemOK P pr ι w k r s) (he : execOp a.eval o = (do pure (.value (← s)) : Sem Next)) : ∃ v H',k v H' = some r∧Sim P pr ι o a w v H':=by
 obtain ⟨v,H',h1,h2⟩:=h
 exact ⟨v,H',h1,h2.sim he⟩
theorem execOp_call {o : Oper} {c : Call} (ho : o.op = .call c) : execOp a.eval o = (do let d ← resolve a.eval c o.type; invoke d.target d.args):=by
 unfold execOp; rw [ho]
theorem lookK_some {tbl : List (Nat × Pa)} {t : Nat} {f : Pa→Option R} {r : R} (h : lookK t tbl f = some r) : ∃ p,(t,p) ∈ tbl∧f p = some r:=by
 induction tbl with
 | nil=>cases h
 | cons x tbl ih =>
  have h : (Bool.casesOn (Nat.beq x.1 t) (lookK t tbl f) (f x.2) : Option R) = some r:=h
  cases e : Nat.beq x.1 t with
  | true =>
   rw [e] at h
   have e:=Nat.eq_of_beq_eq_true e
   exact ⟨x.2,by rw [← e]; exact List.mem_cons_self ..,h⟩
  | false =>
   rw [e] at h
   obtain ⟨p,h1,h2⟩:=ih h
   exact ⟨p,List.mem_cons_of_mem _ h1,h2⟩
theorem ite_none {c : Prop} [Decidable c] {α : Type} {x y : α} (h : (if c then some x else none) = some y) : c∧x = y:=by
 split at h
 ·exact ⟨by assumption,Option.some.inj h⟩
 ·cases h
theorem ite_none' {c : Prop} [Decidable c] {α : Type} {x : Option α} {y : α} (h : (if c then x else none) = some y) : c∧x = some y:=by
 split at h
 ·exact ⟨by assumption,h⟩
 ·cases h
theorem ite_none'' {c : Prop} [Decidable c] {α : Type} {x : Option α} {y : α} (h : (if c then none else x) = some y) : ¬ c∧x = some y:=by
 split at h
 ·cases h
 ·exact ⟨by assumption,h⟩
theorem mapOpdo {x : Option Operand} {x' : Option Opd} (h : compOpdo P x = some x') : x' = none→x = none:=by
 intro e
 cases x with
 | none=>rfl
 | some y=>obtain ⟨_,_,e2⟩:=map_some h; rw [e] at e2; cases e2
theorem ok_frz {s d e0 el : TypeId} {x : Operand} {x' : Opd} (hs : P.underlying s = some (.slice e0)) (hd : P.underlying d = some (.slice el)) (he : P.underlying el = some (.int .u8)) (hsd : s = d) (C : Ctx P pr ι H fr a w) (hx : compOpd P x = some x') (h : xFrz x' call fr H k = some r) :
  MemOK P pr ι w k r (convert s d (a.eval x)):=by
 unfold xFrz at h; rw [evK_eq] at h
 rcases vL_some h with ⟨_,h1⟩ | ⟨b,o,l,cp0,z,e,h1⟩
 ·cases h1
 obtain ⟨g0,h1⟩:=guardK_some h1
 obtain ⟨gz,h2⟩:=guardK_some h1
 have g0 : 0 < l:=Nat.blt_eq.mp g0
 have gz : 0 < z:=Nat.blt_eq.mp gz
 rw [Heap.getK_eq] at h2
 obtain ⟨ro,fz,e1,size,c,hb,h3⟩:=bC_some h2
 cases ro with
 | true=>cases h3
 | false =>
  have h3 : H.putK b (.cells true fz e1 size c) (fun H=>k (.sl b o l cp0 z) H) = some r:=h3
  rw [Heap.putK_eq] at h3
  have hv:=C.opd hx
  rw [e] at hv
  have hv0:=hv
  obtain ⟨ad,cp,j,hve,hj,hle,_,_,hadr,_,_⟩:=hv
  have hadr:=hadr.resolve_left (by omega)
  obtain ⟨j',hj',hcr⟩:=C.rel.cells hb
  rw [hj] at hj'; cases hj'
  obtain ⟨q1,cs,e',f,q2,q3,q4,q5,q6,q7⟩:=hcr
  have hnp:=(q7 rfl).1
  have hsoft:=C.rel.soft hb hj
  have hlt:=C.rel.lt _ _ hj
  obtain ⟨f',hf'⟩ : ∃ f' : Nat × Nat,w.freeze { block:=j.blk,off:=cs.size } 1 = { w with heap:=w.heap.setIfInBounds j.blk (.cells cs e' f') }:=by
   refine ⟨if f.1 == f.2 then (cs.size,cs.size + 1) else (min f.1 cs.size,max f.2 (cs.size + 1)),?_⟩
   unfold World.freeze
   rw [if_neg (by decide)]
   refine congrArg (fun h=>({ w with heap:=h } : World)) ?_
   apply Array.ext_getElem?
   intro i
   rw [Array.getElem?_modify,Array.getElem?_setIfInBounds]
   by_cases ei : j.blk = i
   ·subst ei; rw [if_pos rfl,if_pos rfl,if_pos hlt,q2]; rfl
   ·rw [if_neg ei,if_neg ei]
  have hsh : w.shape? j.blk = some (e',cs.size):=by simp only [World.shape?,q2]
  have hrun : (convert s d (a.eval x)).run P w = .ok (a.eval x) { w with heap:=w.heap.setIfInBounds j.blk (.cells cs e' f') }:=by
   rw [hve,hadr]
   simp only [convert,Sem.run_bind,run_underlying hs,run_underlying hd,Result.andThen_ok,run_underlying he,hsd,beq_self_eq_true,markStringish,run_shape,hsh,run_freeze,hf',Sem.run_pure]
  have hR : Rel pr P.globals.size ι (H.put b (.cells true fz e1 size c)) (w.heap.setIfInBounds j.blk (.cells cs e' f')):=by
   refine C.rel.turn _ _ hj (by rw [hb]; rfl) ⟨j,rfl,⟨q1,cs,e',f',by rw [Array.getElem?_setIfInBounds,if_pos rfl,if_pos hlt],q3,q4,q5,q6,fun hc=>by cases hc⟩,hsoft⟩
  refine ⟨_,_,h3,a.eval x,{ w with heap:=w.heap.setIfInBounds j.blk (.cells cs e' f') },ι,hrun,Ext.refl _,hR,⟨rfl,rfl,rfl,by show w.heap.size≤(w.heap.setIfInBounds j.blk (.cells cs e' f')).size; rw [Array.size_setIfInBounds]; exact Nat.le_refl _,fun b' hb'=>?_⟩,hv0⟩
  show (w.heap.setIfInBounds j.blk (.cells cs e' f'))[b']? = w.heap[b']?
  rw [Array.getElem?_setIfInBounds,if_neg (by intro q; rw [q] at hnp; exact hnp hb')]
/-- Conversions. -/
theorem conv_ok {s d : TypeId} {x : Operand} {x' : Opd} {q : AOp} (hc : compConv P s d x' = some q) (C : Ctx P pr ι H fr a w) (hx : compOpd P x = some x') (h : xopK q call fr H k = some r) : MemOK P pr ι w k r (convert s d (a.eval x)):=by
 have pm : PureOK P ι w H k r (convert s d (a.eval x))→MemOK P pr ι w k r (convert s d (a.eval x)):=fun h=>let ⟨v,h1,h2⟩:=h.does C; ⟨v,H,h1,h2⟩
 unfold compConv at hc
 split at hc
 ·rename_i h1 h2; cases hc; exact pm (ok_cvi (call:=call) h1 h2 C hx h)
 ·rename_i h1 h2; cases hc; exact pm (ok_i2s (call:=call) h1 h2 C hx h)
 ·rename_i h1 h2; cases hc; exact pm (ok_cvs (call:=call) h1 h2 C hx h)
 ·rename_i h1 h2
  split at hc
  ·rename_i h3 h4; cases hc; exact ok_s2b (call:=call) h1 h2 h3 C hx h
  ·rename_i h3 h4; cases hc; exact ok_s2r (call:=call) h1 h2 h3 C hx h
  ·cases hc
 ·rename_i h1 h2
  split at hc
  ·rename_i h3 h4; cases hc; exact pm (ok_b2s (call:=call) h1 h2 h3 C hx h)
  ·rename_i h3 h4; cases hc; exact pm (ok_r2s (call:=call) h1 h2 h3 C hx h)
  ·cases hc
 ·rename_i h1 h2
  split at hc
  ·rename_i h3; cases hc; exact pm (ok_p2u (call:=call) h1 h2 h3 C hx h)
  ·cases hc
 ·rename_i h1 h2
  split at hc
  ·rename_i h3
   obtain ⟨h4,h5⟩:=ite_none'' hc
   cases h5
   exact pm (ok_u2p (call:=call) h1 h2 h3 h4 C hx h)
  ·cases hc
 ·rename_i h1 h2
  split at hc
  ·rename_i h3
   obtain ⟨h4,h5⟩:=ite_none hc
   subst h5
   exact ok_frz (call:=call) h1 h2 h3 h4 C hx h
  ·cases hc
 ·cases hc
theorem not_call_ok {o : Oper} {q : AOp} (hn : ∀ c,o.op ≠ .call c) (hc : compOp P o = some q) (C : Ctx P pr ι H fr a w) (h : xopK q call fr H k = some r) : ∃ v H',k v H' = some r∧Sim P pr ι o a w v H':=by
 unfold compOp at hc
 split at hc
 ·rename_i x ho
  obtain ⟨x',hx,e⟩:=map_some hc; subst e
  exact (ok_mv (call:=call) C hx h).sim C (by unfold execOp; rw [ho]; rfl)
 ·rename_i x ho
  obtain ⟨x',hx,e⟩:=map_some hc; subst e
  exact (ok_mv (call:=call) C hx h).sim C (by unfold execOp; rw [ho]; rfl)
 ·rename_i c x y ho
  obtain ⟨c',hcc,hc⟩:=bind_some hc
  obtain ⟨x',hx,hc⟩:=bind_some hc
  obtain ⟨y',hy,e⟩:=map_some hc; subst e
  exact (ok_pick (call:=call) C hcc hx hy h).sim C (by unfold execOp; rw [ho]; simp)
 ·rename_i e ho
  obtain ⟨zs,hz,e'⟩:=map_some hc; subst e'
  exact (ok_new (call:=call) hz C h).sim (by unfold execOp; rw [ho])
 ·rename_i e x ho
  obtain ⟨x',hx,e'⟩:=map_some hc; subst e'
  exact (ok_box (call:=call) C hx h).sim (by unfold execOp; rw [ho])
 ·rename_i t ps ho
  split at hc
  ·rename_i fs ht
   obtain ⟨hall,hc⟩:=ite_none' hc
   obtain ⟨zs,hz,hc⟩:=bind_some hc
   obtain ⟨ps',hp,e⟩:=map_some hc; subst e
   exact (ok_buildS (call:=call) ht hz hp hall C h).sim C (by unfold execOp; rw [ho])
  ·rename_i m el ht
   obtain ⟨zs,hz,hc⟩:=bind_some hc
   obtain ⟨n,hn',hc⟩:=bind_some hc
   obtain ⟨ps',hp,e⟩:=map_some hc; subst e
   exact (ok_buildA (call:=call) ht hz hn' hp C h).sim C (by unfold execOp; rw [ho])
  ·cases hc
 ·rename_i t len ps ho
  split at hc
  ·rename_i el ht
   split at hc
   ·rename_i zs n hz hn'
    obtain ⟨⟨hlim,hzl⟩,hc⟩:=ite_none' hc
    obtain ⟨ps',hp,e⟩:=map_some hc; subst e
    exact (ok_bsl (call:=call) ht hz hn' hlim hzl hp C h).sim (by unfold execOp; rw [ho])
   ·cases hc
  ·cases hc
 ·rename_i t x ho
  obtain ⟨x',hx,hc⟩:=bind_some hc
  obtain ⟨g,hg,hc⟩:=bind_some hc
  obtain ⟨n,hn',hc⟩:=bind_some hc
  obtain ⟨hgn,e⟩:=ite_none hc
  subst e
  exact (ok_ld (call:=call) hg hn' (by simpa using hgn) C hx h).sim C (by unfold execOp; rw [ho])
 ·rename_i t x y ho
  obtain ⟨x',hx,hc⟩:=bind_some hc
  obtain ⟨y',hy,hc⟩:=bind_some hc
  obtain ⟨n,hn',e⟩:=map_some hc; subst e
  obtain ⟨H',h1,w',hrun,hrel,hfr⟩:=ok_st (call:=call) hn' C hx hy h
  refine ⟨un,H',h1,fun next Q hk=>?_⟩
  unfold Oper.wp execOp
  rw [ho]
  simp only [Sem.run_bind,hrun,Result.andThen_ok,Sem.run_pure,Oper.upon]
  exact hk ι undef w' (Ext.refl _) hrel hfr (un_undef _)
 ·rename_i x ho
  obtain ⟨x',hx,e⟩:=map_some hc; subst e
  obtain ⟨v,h1,v',h2,h3⟩:=ok_nilck (call:=call) C hx h ho
  refine ⟨v,H,h1,fun next Q hk=>?_⟩
  unfold Oper.wp
  rw [h3]
  exact hk ι v' w (Ext.refl _) C.rel (Fr.refl _ _) h2
 ·rename_i op t x y c ho
  obtain ⟨x',hx,hc⟩:=bind_some hc
  obtain ⟨y',hy,e⟩:=map_some hc; subst e
  exact (ok_bin (call:=call) C hx hy h).sim C (by unfold execOp; rw [ho])
 ·rename_i op t x ho
  obtain ⟨x',hx,hc⟩:=bind_some hc
  split at hc
  ·cases hc; exact (ok_not (call:=call) C hx h).sim C (by unfold execOp; rw [ho])
  ·cases hc; exact (ok_neg (call:=call) C hx h).sim C (by unfold execOp; rw [ho])
  ·cases hc; exact (ok_cpl (call:=call) C hx h).sim C (by unfold execOp; rw [ho])
  ·cases hc
 ·rename_i s d x ho
  obtain ⟨x',hx,hc⟩:=bind_some hc
  exact (conv_ok hc C hx h).sim (by unfold execOp; rw [ho])
 ·rename_i t x ho
  split at hc
  ·cases hc
  ·rename_i d hnd ht
   obtain ⟨x',hx,e⟩:=map_some hc; subst e
   exact (ok_mkif (call:=call) ht (fun ms e=>hnd ms e) C hx h).sim C (by unfold execOp; rw [ho])
  ·cases hc
 ·rename_i f first caps ho
  obtain ⟨first',h1,hc⟩:=bind_some hc
  obtain ⟨caps',h2,e⟩:=map_some hc; subst e
  exact (ok_mkfn (call:=call) C h1 h2 h).sim C (by unfold execOp; rw [ho])
 ·rename_i t l c ho
  split at hc
  ·rename_i el ht
   split at hc
   ·rename_i zs n b hz hn' hb
    obtain ⟨hzl,hc⟩:=ite_none' hc
    obtain ⟨l',hl,hc⟩:=bind_some hc
    obtain ⟨c',hcc,e⟩:=map_some hc; subst e
    exact (ok_mks (call:=call) ht hz hn' hb hzl C hl hcc h).sim (by unfold execOp; rw [ho])
   ·cases hc
  ·cases hc
 ·rename_i t x lo hi mx ho
  obtain ⟨hmh,hc⟩:=ite_none'' hc
  have hmh : mx = none ∨ hi ≠ none:=by
   cases mx <;> cases hi <;> simp at hmh ⊢
  obtain ⟨x',hx,hc⟩:=bind_some hc
  obtain ⟨lo',hlo,hc⟩:=bind_some hc
  obtain ⟨hi',hhi,hc⟩:=bind_some hc
  obtain ⟨mx',hmx,hc⟩:=bind_some hc
  split at hc
  ·rename_i n el ht
   split at hc
   ·rename_i m hm; cases hc; exact (ok_sla (call:=call) ht hm hmh C hx hlo hhi hmx h).sim C (by unfold execOp; rw [ho])
   ·cases hc
  ·rename_i ht
   split at hc
   ·cases hc
    have hmn:=mapOpdo hmx rfl
    subst hmn
    exact (ok_sls (call:=call) ht C hx hlo hhi h).sim C (by unfold execOp; rw [ho]; rfl)
   ·cases hc
  ·rename_i el ht
   split at hc
   ·rename_i m hm; cases hc; exact (ok_sll (call:=call) ht hm hmh C hx hlo hhi hmx h).sim C (by unfold execOp; rw [ho])
   ·cases hc
  ·cases hc
 ·rename_i s x f ho
  split at hc
  ·rename_i fs hs
   split at hc
   ·rename_i fd hf
    split at hc
    ·rename_i n hn'
     obtain ⟨x',hx,e⟩:=map_some hc; subst e
     exact (ok_fa (call:=call) hs hf hn' C hx h).sim C (by unfold execOp; rw [ho])
    ·cases hc
   ·cases hc
  ·cases hc
 ·rename_i t x f ho
  split at hc
  ·rename_i fs ht
   split at hc
   ·rename_i fd hf
    obtain ⟨g,hg,hc⟩:=bind_some hc
    obtain ⟨n,hn',hc⟩:=bind_some hc
    obtain ⟨x',hx,e⟩:=map_some hc; subst e
    exact (ok_fld (call:=call) ht hf hg hn' C hx h).sim C (by unfold execOp; rw [ho])
   ·cases hc
  ·cases hc
 ·rename_i t x i ho
  obtain ⟨x',hx,hc⟩:=bind_some hc
  obtain ⟨i',hi,hc⟩:=bind_some hc
  split at hc
  ·rename_i n el ht
   obtain ⟨m,hm,e⟩:=map_some hc; subst e
   exact (ok_ixp (call:=call) ht hm C hx hi h).sim C (by unfold execOp; rw [ho])
  ·rename_i el ht
   obtain ⟨m,hm,e⟩:=map_some hc; subst e
   exact (ok_ixa (call:=call) ht hm C hx hi h).sim C (by unfold execOp; rw [ho])
  ·cases hc
 ·rename_i t x i ho
  obtain ⟨x',hx,hc⟩:=bind_some hc
  obtain ⟨i',hi,hc⟩:=bind_some hc
  split at hc
  ·rename_i ht; cases hc; exact (ok_ixs (call:=call) ht C hx hi h).sim C (by unfold execOp; rw [ho])
  ·rename_i n el ht
   obtain ⟨g,hg,hc⟩:=bind_some hc
   obtain ⟨m,hm,e⟩:=map_some hc; subst e
   exact (ok_ixg (call:=call) ht hg hm C hx hi h).sim C (by unfold execOp; rw [ho])
  ·cases hc
 ·rename_i t x ho
  split at hc
  ·rename_i ht
   obtain ⟨x',hx,e⟩:=map_some hc; subst e
   exact (ok_rng (call:=call) ht C hx h).sim (by unfold execOp; rw [ho])
  ·cases hc
 ·rename_i x isS ho
  obtain ⟨e,hc⟩:=ite_none' hc
  subst e
  obtain ⟨x',hx,e⟩:=map_some hc; subst e
  exact (ok_nxt (call:=call) C hx h).sim (by unfold execOp; rw [ho])
 ·rename_i x xt t ok ho
  split at hc
  ·cases hc
  ·rename_i d hnd ht
   split at hc
   ·rename_i z hz
    obtain ⟨zero,hzc,hc⟩:=bind_some hc
    obtain ⟨x',hx,e⟩:=map_some hc; subst e
    exact (ok_tas (call:=call) ht (fun ms e=>hnd ms e) hz hzc C hx h).sim C (by unfold execOp; rw [ho])
   ·cases hc
  ·cases hc
 ·rename_i x n ho
  obtain ⟨x',hx,e⟩:=map_some hc; subst e
  exact (ok_ext (call:=call) C hx h).sim C (by unfold execOp; rw [ho])
 ·rename_i c ho
  exact (hn c ho).elim
 ·cases hc
end
end Go.Vai

/- VAI,part S: calls; each operation,calls among them. -/
namespace Go.Vai
section
variable {R : Type} {P : Program} {pr : Pr} {ng : Nat} {ι : Emb} {H : Heap} {fr : Tr AV} {a : Act} {w : World}
variable {k : HK R} {r : R} {call : CallK R}
theorem look_next1 : Extern.allNextRows.lookup "internal/abi.NoEscape" = none:=by decide
theorem look_next2 : Extern.allNextRows.lookup "internal/bytealg.MakeNoZero" = none:=by decide
theorem look_next3 : Extern.allNextRows.lookup "internal/bytealg.IndexByteString" = none:=by decide
theorem look_next0 : Extern.allNextRows.lookup "" = none:=by decide
theorem look_gen0 : Extern.allGenericRows.lookup "internal/abi.NoEscape" = none:=by kernel_rfl
theorem look_gen1 : Extern.allGenericRows.lookup "internal/bytealg.MakeNoZero" = none:=by kernel_rfl
theorem look_gen2 : Extern.allGenericRows.lookup "internal/bytealg.IndexByteString" = none:=by kernel_rfl
theorem look_ty0 : Extern.allTypedRows.lookup "internal/abi.NoEscape" = none:=by kernel_rfl
theorem look_ty1 : Extern.allTypedRows.lookup "internal/bytealg.MakeNoZero" = some Extern.BytealgMakeNoZero.makeNoZero:=by kernel_rfl
theorem look_ty2 : Extern.allTypedRows.lookup "internal/bytealg.IndexByteString" = none:=by kernel_rfl
theorem look_row0 : Extern.allRows.lookup "internal/abi.NoEscape" = some Extern.AbiNoEscape.same:=by kernel_rfl
theorem look_row2 : Extern.allRows.lookup "internal/bytealg.IndexByteString" = some Extern.BytealgIndexByte.indexByte:=by kernel_rfl
theorem findNext_none {fn : Func} (h : Extern.allNextRows.lookup fn.name = none) (ho : fn.origin = "") : Extern.findNext fn = none:=by
 unfold Extern.findNext
 simp [h,ho,look_next0]
theorem find_noEscape {fn : Func} (h : fn.name = "internal/abi.NoEscape") : Extern.find fn = some Extern.AbiNoEscape.same:=by
 unfold Extern.find
 simp [h,look_gen0,look_ty0,look_row0]
theorem find_makeNoZero {fn : Func} (h : fn.name = "internal/bytealg.MakeNoZero") : Extern.find fn = some (Extern.BytealgMakeNoZero.makeNoZero fn.params fn.resultTypes):=by
 unfold Extern.find
 simp [h,look_gen1,look_ty1]
theorem find_indexByte {fn : Func} (h : fn.name = "internal/bytealg.IndexByteString") : Extern.find fn = some Extern.BytealgIndexByte.indexByte:=by
 unfold Extern.find
 simp [h,look_gen2,look_ty2,look_row2]
theorem resolve_value {ρ : Operand→Value} {c : Call} {ty : TypeId} {f : Operand} (h : c.callee = .value f) : resolve ρ c ty = Deferred.ofValue (ρ f) (c.args.map ρ):=by
 unfold resolve; rw [h]
theorem resolve_builtin {ρ : Operand→Value} {c : Call} {ty : TypeId} {b : Builtin} (h : c.callee = .builtin b) : resolve ρ c ty = pure { target:=.builtin b c.argTypes ty (c.args.map fun | .const _=>true | _=>false),args:=c.args.map ρ }:=by
 unfold resolve; rw [h]; rfl
theorem resolve_invoke {ρ : Operand→Value} {c : Call} {ty : TypeId} {x : Operand} {name : String} (h : c.callee = .invoke x name) : resolve ρ c ty = pure { target:=.fn (.method name) #[],args:=#[ρ x] ++ c.args.map ρ }:=by
 unfold resolve; rw [h]
/-- An entry of the library's,called. -/
theorem extern_sim {o : Oper} {c : Call} {f : Nat} {fn : Func} {e : Array Value→Sem Value} {v : AV} {H' : Heap} (ho : o.op = .call c) (hcv : c.callee = .value (.func f)) (hf : P.funcs[f]? = some fn) (hn : fn.name ≠ "runtime.NumGoroutine") (hb : fn.body = none)
  (h1 : Extern.findNext fn = none) (h2 : Extern.find fn = some e) (h : Does P pr ι w (e (c.args.map a.eval)) v H') : Sim P pr ι o a w v H':=by
 obtain ⟨v',w',ι',h3,h4,h5,h6,h7⟩:=h
 intro next Q hk
 unfold Oper.wp
 have hrun : (execOp a.eval o).run P w = .ok (.value v') w':=by
  have : (Act.eval a (.func f)) = .func (.func f) #[] #[]:=rfl
  rw [execOp_call ho,resolve_value hcv,this]
  simp only [Deferred.ofValue,Sem.run_bind,Sem.run_pure,Result.andThen_ok,invoke,Array.empty_append,Array.append_empty]
  rw [run_callFunc_extern hf (by simpa using hn) (by rw [hb]; rfl) h1 h2,h3]
  rfl
 rw [hrun]
 exact hk ι' v' w' h4 h5 h6 h7
theorem opds_list {xs : Array Operand} {os : List Opd} (h : compOpds P xs = some os) : ∃ l : List Operand,xs = l.toArray∧l.mapM (compOpd P) = some os:=⟨xs.toList,by simp,h⟩
theorem one_arg {xs : Array Operand} {x' : Opd} (h : compOpds P xs = some [x']) : ∃ x,xs = #[x]∧compOpd P x = some x':=by
 obtain ⟨l,e,hl⟩:=opds_list h
 cases l with
 | nil=>cases mapM_nil_some hl
 | cons x l =>
  obtain ⟨y,ys,h1,h2,e2⟩:=mapM_some_cons hl
  cases e2
  cases l with
  | nil=>exact ⟨x,e,h1⟩
  | cons z l=>obtain ⟨_,_,_,_,e3⟩:=mapM_some_cons h2; cases e3
theorem two_args {xs : Array Operand} {x' y' : Opd} (h : compOpds P xs = some [x',y']) : ∃ x y,xs = #[x,y]∧compOpd P x = some x'∧compOpd P y = some y':=by
 obtain ⟨l,e,hl⟩:=opds_list h
 cases l with
 | nil=>cases mapM_nil_some hl
 | cons x l =>
  obtain ⟨_,ys,h1,h2,e2⟩:=mapM_some_cons hl
  cases e2
  cases l with
  | nil=>cases mapM_nil_some h2
  | cons z l =>
   obtain ⟨_,ys,h3,h4,e3⟩:=mapM_some_cons h2
   cases e3
   cases l with
   | nil=>exact ⟨x,z,e,h1,h3⟩
   | cons z l=>obtain ⟨_,_,_,_,e3⟩:=mapM_some_cons h4; cases e3
theorem toList_one {α : Type} {xs : Array α} {x : α} (h : xs.toList = [x]) : xs = #[x]:=by rw [← Array.toArray_toList (xs:=xs),h]
theorem toList_two {α : Type} {xs : Array α} {x y : α} (h : xs.toList = [x,y]) : xs = #[x,y]:=by rw [← Array.toArray_toList (xs:=xs),h]
theorem map_one (f : Operand→Value) (x : Operand) : Array.map f #[x] = #[f x]:=by simp
theorem map_two (f : Operand→Value) (x y : Operand) : Array.map f #[x,y] = #[f x,f y]:=by simp
/-- A builtin,called. -/
theorem builtin_exec {o : Oper} {c : Call} {b : Builtin} {s : Sem Value} (ho : o.op = .call c) (hcv : c.callee = .builtin b)
  (hs : builtin b c.argTypes o.type (c.args.map fun | .const _=>true | _=>false) (c.args.map a.eval) = (do pure (.value (← s)) : Sem Next)) : execOp a.eval o = (do pure (.value (← s)) : Sem Next):=by
 rw [execOp_call ho,resolve_builtin hcv]
 show (invoke (.builtin b c.argTypes o.type (c.args.map fun | .const _=>true | _=>false)) (c.args.map a.eval)) = _
 exact hs
theorem method_ok {t : Nat} {pa : Pa} {name : String} (h : invRow P name t = some (t,pa)) (y : Value) : ∃ f,pa = toPa f∧(method (P.types.size + Made.depth) t y name).run P w = .ok (f,y) w:=by
 unfold invRow at h
 obtain ⟨i,hi,h⟩:=bind_some h
 obtain ⟨m,hm,h⟩:=bind_some h
 obtain ⟨hp,h⟩:=ite_none' h
 have hd : P.types.size + Made.depth = (P.types.size + (Made.depth - 1)) + 1:=rfl
 rw [hd]
 unfold method
 have hpl : m.path.toList = []:=by rw [hp]
 split at h
 ·cases h
 ·rename_i f d hnp hmf hu
  cases h
  refine ⟨f,rfl,?_⟩
  simp only [Sem.run_bind,run_info hi,Result.andThen_ok,hm,hpl,follow,Sem.run_pure,hmf]
  cases d <;> first | (exact (hnp _ rfl).elim) | simp [receiverAt,run_underlying hu,Place.get]
 ·rename_i f el hmf hu
  cases h
  refine ⟨f,rfl,?_⟩
  simp only [Sem.run_bind,run_info hi,Result.andThen_ok,hm,hpl,follow,Sem.run_pure,hmf]
  simp [receiverAt,run_underlying hu,Place.get]
 ·cases h
theorem fnF_some {f : Fn} {g : Nat→Option R} {r : R} (h : fnF f g = some r) : ∃ n,f = .func n∧g n = some r:=by
 cases f <;> first | (cases h; done) | exact ⟨_,rfl,h⟩
theorem call_ok {o : Oper} {c : Call} {q : AOp} (ho : o.op = .call c) (hc : compCall P c = some q) (hcall : CallOK P pr call) (C : Ctx P pr ι H fr a w) (h : xopK q call fr H k = some r) : SimK P pr ι o a w k r:=by
 unfold compCall at hc
 split at hc
 ·rename_i f hcv
  have hq:=bind_some hc
  clear hc
  obtain ⟨args,hargs,hc⟩:=hq
  have ha:=C.opds hargs
  split at hc
  ·rename_i fn hf
   have hq:=ite_none'' hc
   clear hc
   obtain ⟨hn,hc⟩:=hq
   split at hc
   ·rename_i body hb
    cases hc
    have h : evsK fr args (fun args=>call (toPa f) args H k) = some r:=h
    rw [evsK_eq] at h
    refine hcall.sim C (f:=f) (args':=c.args.map a.eval) ?_ ha h
    have : (Act.eval a (.func f)) = .func (.func f) #[] #[]:=rfl
    rw [execOp_call ho,resolve_value hcv,this]
    simp only [Deferred.ofValue,Sem.run_bind,Sem.run_pure,Result.andThen_ok,invoke,Array.empty_append,Array.append_empty]
   ·rename_i hb
    have hq:=ite_none'' hc
    clear hc
    obtain ⟨hor,hc⟩:=hq
    have hor : fn.origin = "":=by simpa using hor
    split at hc
    ·rename_i hname
     split at hc
     ·rename_i x'
      cases hc
      obtain ⟨x,hx,hx'⟩:=one_arg hargs
      obtain ⟨v,h1,h2⟩:=(ok_mv (call:=call) C hx' h).does C
      exact SimK.of ⟨v,H,h1,extern_sim ho hcv hf hn hb (findNext_none (by rw [hname]; exact look_next1) hor) (find_noEscape hname) (by rw [hx,map_one]; exact h2)⟩
     ·cases hc
    ·split at hc
     ·rename_i hname
      split at hc
      ·rename_i n' t hrt
       split at hc
       ·rename_i el ht
        cases hc
        have hrt:=toList_one hrt
        obtain ⟨x,hx,hx'⟩:=one_arg hargs
        obtain ⟨v,H',h1,h2⟩:=ok_mnz (call:=call) (ps:=fn.params) ht C hx' h
        exact SimK.of ⟨v,H',h1,extern_sim ho hcv hf hn hb (findNext_none (by rw [hname]; exact look_next2) hor) (find_makeNoZero hname) (by rw [hx,hrt,map_one]; exact h2)⟩
       ·cases hc
      ·cases hc
     ·split at hc
      ·rename_i hname
       split at hc
       ·rename_i x' y'
        cases hc
        obtain ⟨x,y,hxy,hx',hy'⟩:=two_args hargs
        obtain ⟨v,h1,h2⟩:=(ok_ixb (call:=call) C hx' hy' h).does C
        exact SimK.of ⟨v,H,h1,extern_sim ho hcv hf hn hb (findNext_none (by rw [hname]; exact look_next3) hor) (find_indexByte hname) (by rw [hxy,map_two]; exact h2)⟩
       ·cases hc
      ·cases hc
  ·cases hc
 ·rename_i f hnf hcv
  have hq:=bind_some hc
  clear hc
  obtain ⟨f',hf',hc⟩:=hq
  obtain ⟨args,hargs,e⟩:=map_some hc; subst e
  have ha:=C.opds hargs
  have h : evK fr f' (fun f=>evsK fr args fun args=>callvK call f args H k) = some r:=h
  rw [evK_eq,evsK_eq] at h
  unfold callvK at h
  rcases vF_some h with ⟨_,h1⟩ | ⟨g,first,caps,e,h1⟩
  ·cases h1
  ·obtain ⟨n,e2,h2⟩:=fnF_some h1
   have hv:=C.opd hf'
   rw [e] at hv
   obtain ⟨first',caps',hve,hfv,hcv2⟩:=hv
   refine hcall.sim C (f:=n) (args':=first' ++ (c.args.map a.eval) ++ caps') ?_ ?_ h2
   ·rw [execOp_call ho,resolve_value hcv,hve,e2]
    simp only [Deferred.ofValue,Sem.run_bind,Sem.run_pure,Result.andThen_ok,invoke]
   ·rw [Array.toList_append,Array.toList_append,List.append_assoc]
    exact VRs_append hfv (VRs_append ha hcv2)
 ·rename_i recv name hcv
  have hq:=bind_some hc
  clear hc
  obtain ⟨x',hx',hc⟩:=hq
  obtain ⟨args,hargs,e⟩:=map_some hc; subst e
  have ha:=C.opds hargs
  have h : evK fr x' (fun x=>evsK fr args fun args=>vE x none fun t v=>lookK t (invTbl P name) fun f=>call f (v :: args) H k) = some r:=h
  rw [evK_eq,evsK_eq] at h
  rcases vE_some h with ⟨_,h1⟩ | ⟨t,y,e,h1⟩
  ·cases h1
  ·obtain ⟨pa,hmem,h2⟩:=lookK_some h1
   have hv:=C.opd hx'
   rw [e] at hv
   obtain ⟨y',hve,hyv⟩:=hv
   obtain ⟨t',_,hrow⟩:=List.mem_filterMap.mp hmem
   have htt : t' = t:=by
    unfold invRow at hrow
    obtain ⟨i,hi,hrow⟩:=bind_some hrow
    obtain ⟨m,hm,hrow⟩:=bind_some hrow
    obtain ⟨hp,hrow⟩:=ite_none' hrow
    split at hrow <;> first | (cases hrow; done) | (cases hrow; rfl)
   subst htt
   obtain ⟨f,ef,hmeth⟩:=method_ok (w:=w) hrow y'
   subst ef
   refine hcall.sim C (f:=f) (args':=#[y'] ++ c.args.map a.eval) ?_ ?_ h2
   ·rw [execOp_call ho,resolve_invoke hcv,hve]
    simp only [Sem.run_bind,Sem.run_pure,Result.andThen_ok,invoke]
    have e1 : (#[Value.iface t' y'] ++ c.args.map a.eval)[0]? = some (Value.iface t' y'):=by rw [Array.getElem?_append_left (Nat.one_pos)]; rfl
    have e2 : (#[Value.iface t' y'] ++ c.args.map a.eval).extract 1 (#[Value.iface t' y'] ++ c.args.map a.eval).size = c.args.map a.eval:=by
     apply Array.ext'
     simp [List.take_of_length_le]
    rw [e1,e2]
    simp only [callMethod,Sem.run_bind,run_program,Result.andThen_ok,hmeth]
   ·exact ⟨y',_,by simp,hyv,ha⟩
 ·rename_i b hcv
  have hq:=bind_some hc
  clear hc
  obtain ⟨args,hargs,hc⟩:=hq
  split at hc
  ·rename_i x' t hat
   have hat:=toList_one hat
   obtain ⟨x,hx,hx'⟩:=one_arg hargs
   split at hc
   ·rename_i ht; cases hc
    exact SimK.of ((ok_len (str:=true) (t:=t) (call:=call) (ty:=o.type) ht C hx' h).sim C (builtin_exec ho hcv (by rw [hat,hx,map_one]; rfl)))
   ·rename_i el ht; cases hc
    exact SimK.of ((ok_len (str:=false) (t:=t) (call:=call) (ty:=o.type) ⟨_,ht⟩ C hx' h).sim C (builtin_exec ho hcv (by rw [hat,hx,map_one]; rfl)))
   ·rename_i n el ht; cases hc
    exact SimK.of ((ok_lenc (fr:=fr) (call:=call) (ty:=o.type) (v:=a.eval x) (.inl ⟨_,ht⟩) h).sim C (builtin_exec ho hcv (by rw [hat,hx,map_one]; rfl)))
   ·rename_i ar ht
    split at hc
    ·rename_i n el hta; cases hc
     exact SimK.of ((ok_lenc (fr:=fr) (call:=call) (ty:=o.type) (v:=a.eval x) (.inr ⟨_,_,ht,hta⟩) h).sim C (builtin_exec ho hcv (by rw [hat,hx,map_one]; rfl)))
    ·cases hc
   ·cases hc
  ·rename_i x' t hat
   have hat:=toList_one hat
   obtain ⟨x,hx,hx'⟩:=one_arg hargs
   split at hc
   ·rename_i el ht; cases hc
    exact SimK.of ((ok_cap (call:=call) (ty:=o.type) ht C hx' h).sim C (builtin_exec ho hcv (by rw [hat,hx,map_one]; rfl)))
   ·cases hc
  ·rename_i x' y' t u hat
   have hat:=toList_two hat
   obtain ⟨x,y,hxy,hx',hy'⟩:=two_args hargs
   split at hc
   ·cases hc
   ·rename_i el du hnd ht hu
    split at hc
    ·rename_i n bb zs hn hb hz
     have hq:=ite_none hc
     clear hc
     obtain ⟨hzl,hc⟩:=hq
     subst hc
     exact SimK.of ((ok_app (call:=call) (ty:=o.type) ht hu (fun kd e=>hnd kd e) hn hb hz hzl C hx' hy' h).sim (builtin_exec ho hcv (by rw [hat,hxy,map_two]; rfl)))
    ·cases hc
   ·cases hc
  ·rename_i x' y' t u hat
   have hat:=toList_two hat
   obtain ⟨x,y,hxy,hx',hy'⟩:=two_args hargs
   split at hc
   ·rename_i el ht
    split at hc
    ·rename_i n hn; cases hc
     exact SimK.of ((ok_cpy (call:=call) (ty:=o.type) ht hn C hx' hy' h).sim (builtin_exec ho hcv (by rw [hat,hxy,map_two]; rfl)))
    ·cases hc
   ·cases hc
  ·rename_i x' y' l hat; cases hc
   obtain ⟨x,y,hxy,hx',hy'⟩:=two_args hargs
   exact SimK.of ((ok_mm (isMax:=false) (call:=call) (ts:=c.argTypes) (ty:=o.type) C hx' hy' h).sim C (builtin_exec ho hcv (by rw [hxy,map_two]; rfl)))
  ·rename_i x' y' l hat; cases hc
   obtain ⟨x,y,hxy,hx',hy'⟩:=two_args hargs
   exact SimK.of ((ok_mm (isMax:=true) (call:=call) (ts:=c.argTypes) (ty:=o.type) C hx' hy' h).sim C (builtin_exec ho hcv (by rw [hxy,map_two]; rfl)))
  ·rename_i x' l hat; cases hc
   obtain ⟨x,hx,hx'⟩:=one_arg hargs
   exact SimK.of ((ok_usd (call:=call) (ts:=c.argTypes) (ty:=o.type) C hx' h).sim C (builtin_exec ho hcv (by rw [hx,map_one]; rfl)))
  ·rename_i x' y' t u hat
   have hat:=toList_two hat
   obtain ⟨x,y,hxy,hx',hy'⟩:=two_args hargs
   split at hc
   ·rename_i el ht
    split at hc
    ·rename_i he hn
     have hq:=ite_none'' hc
     clear hc
     obtain ⟨h0,hc⟩:=hq
     cases hc
     exact SimK.of ((ok_ustr (call:=call) (ty:=o.type) ht hn h0 C hx' hy' h).sim (builtin_exec ho hcv (by rw [hat,hxy,map_two]; rfl)))
    ·cases hc
   ·cases hc
  ·cases hc
theorem op_ok {o : Oper} {q : AOp} (hc : compOp P o = some q) (hcall : CallOK P pr call) (C : Ctx P pr ι H fr a w) (h : xopK q call fr H k = some r) : SimK P pr ι o a w k r:=by
 by_cases hn : ∃ c,o.op = .call c
 ·obtain ⟨c,ho⟩:=hn
  have : compCall P c = some q:=by unfold compOp at hc; rw [ho] at hc; exact hc
  exact call_ok ho this hcall C h
 ·exact SimK.of (not_call_ok (fun c e=>hn ⟨c,e⟩) hc C h)
end
end Go.Vai

/- VAI,part T: regions,run in the text's order; code; calls. -/
namespace Go.Vai
section
variable {R : Type} {P : Program} {pr : Pr} {n : Nat} {ι : Emb} {H : Heap} {fr : Tr AV} {a : Act} {w : World}
variable {r : R} {call : CallK R}
/-- Where one stands in a function's body: n slots,nothing deferred. -/
structure At (P : Program) (pr : Pr) (n : Nat) (ι : Emb) (H : Heap) (fr : Tr AV) (a : Act) (w : World) : Prop where
 ctx : Ctx P pr ι H fr a w
 sz : n≤a.tmps.size
 nd : a.defers = pr.ds
theorem FR.put {ι : Emb} {fr : Tr AV} {a : Act} (h : FR ι fr a) {d : Tmp} (hd : d < a.tmps.size) {v : AV} {v' : Value} (hv : VR ι v v') : FR ι (Tr.set un v fr (toPa d)) (a.put (some d) v'):=by
 intro t
 rw [Tr.get_set]
 by_cases e : d = t
 ·subst e
  rw [if_pos rfl]
  have : (a.put (some d) v').tmps.getD d undef = v':=by
   show (a.tmps.setIfInBounds d v').getD d undef = v'
   rw [Array.getD_eq_getD_getElem?,Array.getElem?_setIfInBounds]
   simp [hd]
  rw [this]; exact hv
 ·rw [if_neg (fun e'=>e (toPa_inj e'))]
  have : (a.put (some d) v').tmps.getD t undef = a.tmps.getD t undef:=by
   show (a.tmps.setIfInBounds d v').getD t undef = _
   rw [Array.getD_eq_getD_getElem?,Array.getD_eq_getD_getElem?,Array.getElem?_setIfInBounds,if_neg e]
  rw [this]; exact h t
theorem At.put {ι' : Emb} {H' : Heap} {w' : World} (h : At P pr n ι H fr a w) {dst : Option Tmp} {d : Option Pa} (hd : compDst n dst = some d) (hext : Ext ι ι') (hrel : Rel pr P.globals.size ι' H' w'.heap) {v : AV} {v' : Value} (hv : VR ι' v v') :
  At P pr n ι' H' (Vai.put d v fr) (a.put dst v') w':=by
 cases dst with
 | none =>
  cases hd
  exact ⟨⟨hrel,h.ctx.fr.mono hext⟩,h.sz,h.nd⟩
 | some t =>
  unfold compDst at hd
  obtain ⟨ht,e⟩:=ite_none hd
  subst e
  refine ⟨⟨hrel,(h.ctx.fr.mono hext).put (Nat.lt_of_lt_of_le ht h.sz) hv⟩,?_,h.nd⟩
  show n≤(a.tmps.setIfInBounds t v').size
  rw [Array.size_setIfInBounds]; exact h.sz
theorem wantV_some {v : AV} {want : Bool} {f : Bool→Option R} (h : wantV v want f = some r) : (∃ x,v = .b x∧f (x == want) = some r) ∨ ∃ l,v = .tu l∧f false = some r:=by
 cases v <;> first | (cases h; done) | skip
 case b x=>exact .inl ⟨x,rfl,by rw [← bEq_eq]; exact h⟩
 case tu l=>exact .inr ⟨l,rfl,h⟩
/-- Is an operation wanted? -/
theorem want_ok {ops : Array Oper} {o : Oper} {g : Option (Pa × Bool)} (hC : At P pr n ι H fr a w)
  (hg : (o.guard = none∧g = none) ∨ ∃ j want t,o.guard = some (j,want)∧(ops[j]?).bind (·.dst) = some t∧t < n∧g = some (toPa t,want)) {f : Bool→Option R} (h : wantK g fr f = some r) :
  f (Region.wanted o (yielded ops a.tmps)) = some r:=by
 rcases hg with ⟨h1,h2⟩ | ⟨j,want,t,h1,h2,h3,h4⟩
 ·subst h2
  have : Region.wanted o (yielded ops a.tmps) = true:=by unfold Region.wanted; rw [h1]
  rw [this]; exact h
 ·subst h4
  have h : getK un (toPa t) fr (fun v=>wantV v want f) = some r:=h
  rw [getK_eq] at h
  have hv:=hC.ctx.fr t
  have hlt : t < a.tmps.size:=Nat.lt_of_lt_of_le h3 hC.sz
  have hslot : a.tmps[t]? = some (a.tmps.getD t undef):=by
   rw [Array.getD_eq_getD_getElem?,getElem?_pos a.tmps t hlt]; rfl
  unfold Region.wanted
  rw [h1]
  show f (yielded ops a.tmps j == some want) = some r
  have hy : yielded ops a.tmps j = match a.tmps.getD t undef with | .bool b=>some b | _=>none:=by
   unfold yielded
   rw [h2]
   show (match a.tmps[t]? with | some (.bool b)=>some b | _=>none) = _
   rw [hslot]
   cases a.tmps.getD t undef <;> rfl
  rcases wantV_some h with ⟨x,e,h5⟩ | ⟨l,e,h5⟩
  ·rw [e] at hv
   rw [hy,VRb hv]
   cases x <;> cases want <;> exact h5
  ·rw [e] at hv
   obtain ⟨cs,hve,_⟩:=hv
   rw [hy,hve]
   exact h5
theorem compAI_some {ops : Array Oper} {o : Oper} {ai : AI} (h : compAI P n ops o = some ai) :
  ∃ d g,compDst n o.dst = some d∧ai = ⟨d,g,(compOp P o).getD .bad⟩ ∧
   ((o.guard = none∧g = none) ∨ ∃ j want t,o.guard = some (j,want)∧(ops[j]?).bind (·.dst) = some t∧t < n∧g = some (toPa t,want)):=by
 unfold compAI at h
 obtain ⟨d,hd,h1⟩:=bind_some h
 clear h
 split at h1
 ·rename_i hg
  cases h1
  exact ⟨d,none,hd,rfl,.inl ⟨hg,rfl⟩⟩
 ·rename_i j want hg
  split at h1
  ·rename_i t ht
   obtain ⟨hlt,e⟩:=ite_none h1
   subst e
   exact ⟨d,_,hd,rfl,.inr ⟨j,want,t,hg,ht,hlt,rfl⟩⟩
  ·cases h1
theorem op_getD {o : Oper} {k : HK R} (h : xopK ((compOp P o).getD .bad) call fr H k = some r) : ∃ q,compOp P o = some q∧xopK q call fr H k = some r:=by
 cases hq : compOp P o with
 | none=>rw [hq] at h; cases h
 | some q=>rw [hq] at h; exact ⟨q,rfl,h⟩
theorem mapM_get {α β : Type} {f : α→Option β} : ∀ {l : List α} {ys : List β},l.mapM f = some ys→ys.length = l.length∧∀ (i : Nat) (x : α),l[i]? = some x→∃ y,ys[i]? = some y∧f x = some y
 | [],ys,h=>by rw [mapM_nil_some h]; exact ⟨rfl,fun i x hx=>by simp at hx⟩
 | x :: l,ys,h=>by
  obtain ⟨y,ys',h1,h2,e⟩:=mapM_some_cons h
  subst e
  obtain ⟨h3,h4⟩:=mapM_get h2
  refine ⟨by simp [h3],fun i z hz=>?_⟩
  cases i with
  | zero=>simp at hz; subst hz; exact ⟨y,by simp,h1⟩
  | succ i=>simpa using h4 i z (by simpa using hz)
theorem ops_ok {ops : Array Oper} {l : List AI} (hl : ops.toList.mapM (compAI P n ops) = some l) (hcall : CallOK P pr call) {k : Tr AV→Heap→Option R} {Q : Exit→Act→World→Prop} :
  ∀ (m i : Nat) (ι : Emb) (H : Heap) (fr : Tr AV) (a : Act) (w : World),i + m = ops.size→At P pr n ι H fr a w→opsK call (l.drop i) fr H k = some r →
   (∀ fr' H' ι' a' w',k fr' H' = some r→Ext ι ι'→At P pr n ι' H' fr' a' w'→Fr pr w w'→Q .normal a' w')→wpOps P ops Q (List.range' i m) a w
 | 0,i,ι,H,fr,a,w,hi,hC,h,hq=>by
  have hlen:=(mapM_get hl).1
  have : l.drop i = []:=List.drop_of_length_le (by rw [hlen]; simp; omega)
  rw [this] at h
  exact hq fr H ι a w h (Ext.refl _) hC (Fr.refl _ _)
 | m + 1,i,ι,H,fr,a,w,hi,hC,h,hq=>by
  obtain ⟨hlen,hget⟩:=mapM_get hl
  have hlt : i < ops.size:=by omega
  have hoi : ops[i]? = some ops[i]:=getElem?_pos _ _ _
  obtain ⟨ai,hai,hcomp⟩:=hget i ops[i] (by rw [Array.getElem?_toList]; exact hoi)
  have hdrop : l.drop i = ai :: l.drop (i + 1):=by
   rw [List.drop_eq_getElem_cons (by rw [hlen]; simpa using hlt)]
   congr 1
   rw [List.getElem?_eq_getElem (by rw [hlen]; simpa using hlt)] at hai
   exact Option.some.inj hai
  rw [hdrop] at h
  have h : aiK call ai fr H (fun fr H=>opsK call (l.drop (i + 1)) fr H k) = some r:=h
  obtain ⟨d,g,hd,e,hg⟩:=compAI_some hcomp
  subst e
  have h : wantK g fr (ai2 d ((compOp P ops[i]).getD .bad) call fr H fun fr H=>opsK call (l.drop (i + 1)) fr H k) = some r:=h
  have h:=want_ok hC hg h
  show wpOps P ops Q (i :: List.range' (i + 1) m) a w
  unfold wpOps
  rw [hoi]
  show (if Region.wanted ops[i] (yielded ops a.tmps) then _ else _)
  unfold ai2 at h
  cases hw : Region.wanted ops[i] (yielded ops a.tmps) with
  | false =>
   rw [hw] at h
   have h : putK d un fr (fun fr=>opsK call (l.drop (i + 1)) fr H k) = some r:=h
   rw [putK_eq] at h
   rw [if_neg (by simp)]
   exact ops_ok hl hcall m (i + 1) ι H _ _ w (by omega) (hC.put hd (Ext.refl _) hC.ctx.rel (un_undef _)) h hq
  | true =>
   rw [hw] at h
   have h : xopK ((compOp P ops[i]).getD .bad) call fr H (fun v H=>putK d v fr fun fr=>opsK call (l.drop (i + 1)) fr H k) = some r:=h
   obtain ⟨q,hq1,hq2⟩:=op_getD h
   rw [if_pos rfl]
   left
   refine op_ok hq1 hcall hC.ctx hq2 _ _ fun v H' ι' v' w' h1 hext hrel hfr hv=>?_
   have h1 : putK d v fr (fun fr=>opsK call (l.drop (i + 1)) fr H' k) = some r:=h1
   rw [putK_eq] at h1
   exact ops_ok hl hcall m (i + 1) ι' H' _ _ w' (by omega) (hC.put hd hext hrel hv) h1
    (fun fr' H'' ι'' a' w'' h2 hext' hat hfr'=>hq fr' H'' ι'' a' w'' h2 (hext.trans hext') hat (hfr.trans hfr'))
end
end Go.Vai
