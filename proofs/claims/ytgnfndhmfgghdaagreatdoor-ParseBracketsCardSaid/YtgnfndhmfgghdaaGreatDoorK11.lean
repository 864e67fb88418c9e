/- A verified interpreter of the model's code, and what the functions that read expressions tell by it: part 11 (Q41, Q42, Q43, Q44, Q45, Q46, Q47, Q48, Q49). No condition but those that each statement bears. -/
import Derived.Test.YtgnfndhmfgghdaaGreatDoorK10
import Derived.Test.YtgnfndhmfgghdaaGreatDoorRows
set_option linter.unusedVariables false
set_option linter.unusedSimpArgs false
set_option linter.unusedSectionVars false
set_option linter.constructorNameAsVariable false
set_option linter.unnecessarySimpa false
/- Numbers with signs between them are read whole,whatever stands behind that is no sign. -/
namespace Go.Proofs.YtgnfndhmfgghdaaGreatDoor
open Go Go.Vai
theorem Rdz.lt {l : Nat} {ts r : List Tok} {e : Ex} (h : Rdz l ts e r) : r.length < ts.length:=P_lt _ _ _ _ _ (h _ (Nat.le_refl _))
theorem memR_no {p : Rd} {k : Nat} {e : Ex} {r : List Tok} (h : isT 4 [46] r = false) : memR p k e r = some (e,r):=by
 cases k with
 | zero=>rfl
 | succ k=>unfold memR; rw [if_neg (by rw [h]; decide)]
theorem r0_num {t : Tok} {r : List Tok} {d : Nat} (hk : t.k = 2) (hn : t.n = d) (hm : isT 4 [46] r = false) : Rdz 0 (t :: r) (numE d) r:=by
 intro n h
 obtain ⟨n,rfl⟩ : ∃ m,n = m + 1:=⟨n - 1,by omega⟩
 rw [P_0]
 unfold memW
 rw [prim1_w,if_pos hk,hn]
 exact memR_no hm
theorem r0_par {t c : Tok} {u r : List Tok} {e : Ex} (hk : t.k = 4) (hs : t.s = [40]) (h : Rdz 7 u e (c :: r)) (hck : c.k = 4) (hcs : c.s = [41]) (hm : isT 4 [46] r = false) : Rdz 0 (t :: u) e r:=by
 intro n hn
 obtain ⟨n,rfl⟩ : ∃ m,n = m + 1:=⟨n - 1,by omega⟩
 rw [P_0]
 unfold memW
 have e1 : isT 4 [40] (t :: u) = true:=by rw [isT_s hk hs]; rfl
 have e2 : isT 4 [41] (c :: r) = true:=by rw [isT_s hck hcs]; rfl
 rw [prim1_w,if_neg (by rw [hk]; decide),if_neg (by rw [hk]; decide),if_neg (by rw [hk]; decide),if_pos e1,h n (by rw [List.length_cons] at hn; omega)]
 dsimp only
 rw [if_pos e2]
 exact memR_no hm
theorem r1_ {ts r : List Tok} {e : Ex} (h : Rdz 0 ts e r) (h1 : isT 4 [33] ts = false) (h2 : isT 4 [45] ts = false) : Rdz 1 ts e r:=by
 intro n hn
 obtain ⟨n,rfl⟩ : ∃ m,n = m + 1:=⟨n - 1,by omega⟩
 rw [P_1]
 unfold unW
 rw [if_neg (by rw [h1]; decide),if_neg (by rw [h2]; decide)]
 exact h n (by omega)
def Chn (l : Nat) (e : Ex) (r : List Tok) (e' : Ex) (r' : List Tok) : Prop:=∀ n k,8 * r.length + l≤n→r.length≤k→lftR (P n (l - 1)) l k e r = some (e',r')
theorem chn_end {l : Nat} {e : Ex} {r : List Tok} (h : sgL l r = 0) : Chn l e r e r:=by
 intro n k _ _
 cases k with
 | zero=>rfl
 | succ k=>unfold lftR; rw [if_pos h]
theorem chn_step {l o : Nat} {e b e' : Ex} {s : Tok} {u r1 r' : List Tok} (hl : 0 < l) (h : sgL l (s :: u) = o) (ho : o ≠ 0) (hb : Rdz (l - 1) u b r1) (hc : Chn l (two o e b) r1 e' r') : Chn l e (s :: u) e' r':=by
 intro n k hn hk
 have hlt:=hb.lt
 rw [List.length_cons] at hn hk
 obtain ⟨k,rfl⟩ : ∃ m,k = m + 1:=⟨k - 1,by omega⟩
 unfold lftR
 rw [if_neg (by rw [h]; exact ho),h]
 rw [show (s :: u).drop 1 = u from rfl,hb n (by omega)]
 exact hc n k (by omega) (by omega)
theorem r_l {l : Nat} (hl : l = 2 ∨ l = 3 ∨ l = 5 ∨ l = 6) {ts r r' : List Tok} {e e' : Ex} (h : Rdz (l - 1) ts e r) (hc : Chn l e r e' r') : Rdz l ts e' r':=by
 intro n hn
 have hlt:=h.lt
 obtain ⟨n,rfl⟩ : ∃ m,n = m + 1:=⟨n - 1,by omega⟩
 have h1:=h n (by omega)
 have h2:=hc n r.length (by omega) (Nat.le_refl _)
 rcases hl with rfl | rfl | rfl | rfl
 ·rw [P_2]; unfold lftW; rw [h1]; exact h2
 ·rw [P_3]; unfold lftW; rw [h1]; exact h2
 ·rw [P_5]; unfold lftW; rw [h1]; exact h2
 ·rw [P_6]; unfold lftW; rw [h1]; exact h2
theorem r4_ {ts r : List Tok} {e : Ex} (h : Rdz 3 ts e r) (h1 : sgC r = 0) (h2 : isT 1 tHas r = false) (h3 : isT 1 tLike r = false) : Rdz 4 ts e r:=by
 intro n hn
 obtain ⟨n,rfl⟩ : ∃ m,n = m + 1:=⟨n - 1,by omega⟩
 rw [P_4]
 unfold relW
 rw [h n (by omega)]
 dsimp only
 unfold rel1
 rw [if_neg (by rw [h1]; decide),if_neg (by rw [h2]; decide),if_neg (by rw [h3]; decide)]
theorem r7_ {ts r : List Tok} {e : Ex} (h : Rdz 6 ts e r) (h1 : isT 1 tIf ts = false) : Rdz 7 ts e r:=by
 intro n hn
 obtain ⟨n,rfl⟩ : ∃ m,n = m + 1:=⟨n - 1,by omega⟩
 rw [P_7]
 unfold exW
 rw [if_neg (fun q=>by rw [h1] at q; exact absurd q.1 (by decide))]
 exact h n (by omega)
/-- What stands alone is read on all levels. -/
theorem climb {ts r : List Tok} {e : Ex} {l : Nat} (h : Rdz l ts e r) (hl : l = 0 ∨ l = 2) (h1 : isT 4 [33] ts = false) (h2 : isT 4 [45] ts = false) (h3 : isT 1 tIf ts = false) (hr : NoSg r) : Rdz 7 ts e r:=by
 have h2 : Rdz 2 ts e r:=by
  rcases hl with rfl | rfl
  ·exact r_l (.inl rfl) (r1_ h h1 h2) (chn_end hr.l2)
  ·exact h
 exact r7_ (r_l (.inr (.inr (.inr rfl))) (r_l (.inr (.inr (.inl rfl))) (r4_ (r_l (.inr (.inl rfl)) h2 (chn_end hr.l3)) hr.c hr.h hr.k) (chn_end hr.l5)) (chn_end hr.l6)) h3
/-- Well made,without texts and sets. -/
structure Wl (e : Ex) : Prop where
 p : plE e = true
 w : wide e = false
 d : 1≤dep e
theorem wl_num (d : Nat) : Wl (numE d)∧dep (numE d) = 1:=by
 refine ⟨⟨?_,rfl,Nat.le_refl _⟩,rfl⟩
 unfold numE plE plK
 simp
 decide
theorem wl_two {o : Nat} (ho : o < 5) {a b : Ex} (ha : Wl a) (hb : Wl b) : Wl (two (opO o) a b)∧dep (two (opO o) a b) = max (dep a) (dep b) + 1:=by
 have hd : dep (two (opO o) a b) = max (dep a) (dep b) + 1:=by
  simp only [two,dep,deps,Nat.max_zero]
 have ho' : o = 0 ∨ o = 1 ∨ o = 2 ∨ o = 3 ∨ o = 4:=by omega
 refine ⟨⟨?_,?_,by omega⟩,hd⟩
 ·unfold two plE
  simp only [plK,ha.p,hb.p,Bool.and_true,Bool.true_and,decide_eq_true_eq]
  rcases ho' with rfl | rfl | rfl | rfl | rfl <;> simp [opO,kidsI]
 ·unfold two wide
  simp only [wides,ha.w,hb.w,Bool.or_false]
  rcases ho' with rfl | rfl | rfl | rfl | rfl <;> rfl
def Lv (l : Nat) : Prop:=∀ (its : List (Nat × Nat)) (d : Nat),∃ e its',its'.length≤its.length∧hd its' l∧Wl e∧dep e≤1 + (its.length - its'.length)∧∀ (t : Tok) (ts E : List Tok),NoSg E→t.k = 2→t.n = d→Its its ts E→∃ r,Its its' r E∧Rdz l (t :: ts) e r
theorem lvO_ge (o : Nat) : 2≤lvO o∧lvO o ≠ 4:=by
 unfold lvO
 repeat' split
 all_goals decide
theorem lv_1 : Lv 1:=by
 intro its d
 refine ⟨numE d,its,Nat.le_refl _,fun o _ _ _=>(lvO_ge o).1,(wl_num d).1,by rw [(wl_num d).2]; omega,fun t ts E hE hk hn h=>⟨ts,h,?_⟩⟩
 obtain ⟨_,_,_,_,_,hm⟩:=sg_its hE h
 exact r1_ (r0_num hk hn hm) (by rw [isT_s hk rfl]; exact decide_eq_false fun q=>absurd q.1 (by decide)) (by rw [isT_s hk rfl]; exact decide_eq_false fun q=>absurd q.1 (by decide))
theorem chain {l : Nat} (hl : l = 2 ∨ l = 3 ∨ l = 5 ∨ l = 6) (L : Lv (l - 1)) : ∀ (m : Nat) (its : List (Nat × Nat)) (e0 : Ex),its.length≤m→hd its (l - 1)→Wl e0→∃ e its',its'.length≤its.length∧hd its' l∧Wl e∧dep e≤dep e0 + (its.length - its'.length)∧∀ (ts E : List Tok),NoSg E→Its its ts E→∃ r,Its its' r E∧Chn l e0 ts e r:=by
 intro m
 induction m with
 | zero =>
  intro its e0 hm hh hw
  obtain rfl : its = []:=List.eq_nil_of_length_eq_zero (by omega)
  refine ⟨e0,[],Nat.le_refl _,fun _ _ _ q=>by (cases q),hw,by omega,fun ts E hE h=>⟨ts,h,?_⟩⟩
  have h : ts = E:=h
  subst h
  rcases hl with rfl | rfl | rfl | rfl
  ·exact chn_end hE.l2
  ·exact chn_end hE.l3
  ·exact chn_end hE.l5
  ·exact chn_end hE.l6
 | succ m ih =>
  intro its e0 hm hh hw
  match its,hm,hh with
  | [],_,_ =>
   refine ⟨e0,[],Nat.le_refl _,fun _ _ _ q=>by (cases q),hw,by omega,fun ts E hE h=>⟨ts,h,?_⟩⟩
   have h : ts = E:=h
   subst h
   rcases hl with rfl | rfl | rfl | rfl
   ·exact chn_end hE.l2
   ·exact chn_end hE.l3
   ·exact chn_end hE.l5
   ·exact chn_end hE.l6
  | (o,d) :: rest,hm,hh =>
   have hol:=hh o d rest rfl
   have hml : rest.length≤m:=by rw [List.length_cons] at hm; omega
   by_cases hq : lvO o = l
   ·obtain ⟨b,its1,h1,h2,h3,h4,h5⟩:=L rest d
    by_cases ho : o < 5
    ·obtain ⟨w2,d2⟩:=wl_two ho hw h3
     obtain ⟨e,its',k1,k2,k3,k4,k5⟩:=ih its1 (two (opO o) e0 b) (by omega) h2 w2
     have:=hw.d
     refine ⟨e,its',by rw [List.length_cons]; omega,k2,k3,by rw [List.length_cons]; omega,fun ts E hE h=>?_⟩
     obtain ⟨_,s,mm,ts',rfl,hk,hs,hk2,hn2,hi⟩:=h
     obtain ⟨r1,i1,z1⟩:=h5 mm ts' E hE hk2 hn2 hi
     obtain ⟨r,i2,c2⟩:=k5 r1 E hE i1
     refine ⟨r,i2,chn_step (o:=opO o) (by omega) ?_ ?_ z1 c2⟩
     ·have:=(sg_its (its:=(o,d) :: rest) hE ⟨ho,s,mm,ts',rfl,hk,hs,hk2,hn2,hi⟩).1 o d rest rfl l hl
      rw [this,if_pos hq]
     ·unfold opO
      repeat' split
      all_goals decide
    ·exact ⟨e0,[],Nat.zero_le _,fun _ _ _ q=>by (cases q),hw,Nat.le_add_right _ _,fun ts E hE h=>absurd h.1 ho⟩
   ·refine ⟨e0,(o,d) :: rest,Nat.le_refl _,fun o' d' r' q=>by cases q; omega,hw,by omega,fun ts E hE h=>⟨ts,h,chn_end ?_⟩⟩
    rw [(sg_its hE h).1 o d rest rfl l hl,if_neg hq]
theorem lv_up {l : Nat} (hl : l = 2 ∨ l = 3 ∨ l = 5 ∨ l = 6) (L : Lv (l - 1)) : Lv l:=by
 intro its d
 obtain ⟨e0,its0,h1,h2,h3,h4,h5⟩:=L its d
 obtain ⟨e,its',k1,k2,k3,k4,k5⟩:=chain hl L its0.length its0 e0 (Nat.le_refl _) h2 h3
 refine ⟨e,its',by omega,k2,k3,by omega,fun t ts E hE hk hn h=>?_⟩
 obtain ⟨r0,i0,z0⟩:=h5 t ts E hE hk hn h
 obtain ⟨r,i,c⟩:=k5 r0 E hE i0
 exact ⟨r,i,r_l hl z0 c⟩
theorem lv_4 (L : Lv 3) : Lv 4:=by
 intro its d
 obtain ⟨e0,its0,h1,h2,h3,h4,h5⟩:=L its d
 refine ⟨e0,its0,h1,fun o d r q=>by have:=h2 o d r q; have:=(lvO_ge o).2; omega,h3,h4,fun t ts E hE hk hn h=>?_⟩
 obtain ⟨r0,i0,z0⟩:=h5 t ts E hE hk hn h
 obtain ⟨_,_,a,b,c,_⟩:=sg_its hE i0
 exact ⟨r0,i0,r4_ z0 a b c⟩
/-- The whole row is read. -/
theorem row_read (its : List (Nat × Nat)) (d : Nat) : ∃ e,Wl e∧dep e≤1 + its.length∧∀ (t : Tok) (ts E : List Tok),NoSg E→t.k = 2→t.n = d→Its its ts E→Rdz 7 (t :: ts) e E:=by
 obtain ⟨e,its',h1,h2,h3,h4,h5⟩:=lv_up (.inr (.inr (.inr rfl))) (lv_up (.inr (.inr (.inl rfl))) (lv_4 (lv_up (.inr (.inl rfl)) (lv_up (.inl rfl) lv_1)))) its d
 refine ⟨e,h3,by omega,fun t ts E hE hk hn h=>?_⟩
 obtain ⟨r,i,z⟩:=h5 t ts E hE hk hn h
 have hnil : its' = []:=by
  match its',h2 with
  | [],_=>rfl
  | (o,d') :: r',h2 =>
   have:=h2 o d' r' rfl
   unfold lvO at this
   repeat' split at this
   all_goals omega
 subst hnil
 have i : r = E:=i
 subst i
 exact r7_ z (by rw [isT_s hk rfl]; exact decide_eq_false fun q=>absurd q.1 (by decide))
/-- In brackets. -/
theorem par_read {u E : List Tok} {e : Ex} {t c : Tok} (h : Rdz 7 u e (c :: E)) (hE : NoSg E) (hk : t.k = 4) (hs : t.s = [40]) (hck : c.k = 4) (hcs : c.s = [41]) : Rdz 0 (t :: u) e E∧Rdz 7 (t :: u) e E:=by
 have h0:=r0_par hk hs h hck hcs hE.m
 exact ⟨h0,climb h0 (.inl rfl) (by rw [isT_s hk hs]; rfl) (by rw [isT_s hk hs]; rfl) (by rw [isT_s hk hs]; rfl) hE⟩
/-- Times what stands in brackets. -/
theorem mul_read {t s : Tok} {u E : List Tok} {e : Ex} {d : Nat} (hk : t.k = 2) (hn : t.n = d) (hsk : s.k = 4) (hss : s.s = [42]) (h : Rdz 0 u e E) (hu1 : isT 4 [33] u = false) (hu2 : isT 4 [45] u = false) (hE : NoSg E) : Rdz 7 (t :: s :: u) (two 13 (numE d) e) E:=by
 have hm : isT 4 [46] (s :: u) = false:=by rw [isT_s hsk hss]; rfl
 have h1 : Rdz 1 (t :: s :: u) (numE d) (s :: u):=r1_ (r0_num hk hn hm) (by rw [isT_s hk rfl]; exact decide_eq_false fun q=>absurd q.1 (by decide)) (by rw [isT_s hk rfl]; exact decide_eq_false fun q=>absurd q.1 (by decide))
 have hsg : sgL 2 (s :: u) = 13:=by
  unfold sgL
  rw [if_neg (by decide),if_neg (by decide),if_neg (by decide),isT_s hsk hss]; rfl
 have h2:=r_l (.inl rfl) h1 (chn_step (by decide) hsg (by decide) (r1_ h hu1 hu2) (chn_end hE.l2))
 exact climb h2 (.inr rfl) (by rw [isT_s hk rfl]; exact decide_eq_false fun q=>absurd q.1 (by decide)) (by rw [isT_s hk rfl]; exact decide_eq_false fun q=>absurd q.1 (by decide)) (by rw [isT_s hk rfl]; exact decide_eq_false fun q=>absurd q.1 (by decide)) hE
end Go.Proofs.YtgnfndhmfgghdaaGreatDoor

/- Texts of pieces: their words. -/
namespace Go.Proofs.YtgnfndhmfgghdaaGreatDoor
open Go Go.Vai
/-- A word,and how many blanks stand behind it. -/
structure Pc where
 w : List UInt8
 k : Nat
 s : List UInt8
 n : Nat
 sp : Nat
def rend : List Pc→List UInt8
 | []=>[]
 | p :: ps=>p.w ++ (List.replicate p.sp 32 ++ rend ps)
def lab : Nat→List Pc→List Tok
 | _,[]=>[]
 | a,p :: ps=>⟨p.k,p.s,p.n,a⟩ :: lab (a + (p.w.length + p.sp)) ps
theorem rend_app : ∀ (p q : List Pc),rend (p ++ q) = rend p ++ rend q
 | [],q=>rfl
 | p :: ps,q=>by
  show p.w ++ (List.replicate p.sp 32 ++ rend (ps ++ q)) = p.w ++ (List.replicate p.sp 32 ++ rend ps) ++ rend q
  rw [rend_app ps q]
  simp only [List.append_assoc]
theorem lab_len : ∀ (a : Nat) (ps : List Pc),(lab a ps).length = ps.length
 | _,[]=>rfl
 | a,p :: ps=>by
  show (lab _ ps).length + 1 = ps.length + 1
  rw [lab_len]
/-- Neither a blank nor a remark stands there. -/
def nb (r : List UInt8) : Prop:=∀ b,r.head? = some b→isB b = false∧b ≠ 47
theorem blk_sp : ∀ (n : Nat) {r : List UInt8},nb r→blkS (List.replicate n 32 ++ r) = n
 | 0,r,h=>by
  show blkS r = 0
  cases r with
  | nil=>rfl
  | cons b r =>
   obtain ⟨h1,h2⟩:=h b rfl
   rw [blkS_cons,if_neg (fun q=>h2 q.1),if_neg (by rw [h1]; decide)]
 | n + 1,r,h=>by
  show blkS (32 :: (List.replicate n 32 ++ r)) = _
  rw [blkS_cons,if_neg (fun q=>absurd q.1 (by decide)),if_pos (by decide),blk_sp n h]
  omega
/-- Pieces that are read as they stand. -/
def Gd : List Pc→Prop
 | []=>True
 | p :: ps=>(∀ a,word a (rend (p :: ps)) = .ok (⟨p.k,p.s,p.n,a⟩,p.w.length))∧p.w ≠ []∧nb (rend ps)∧Gd ps
theorem words_lab : ∀ (ps : List Pc) (n a c : Nat),Gd ps→ps.length < n→c + ps.length≤200→wordsF n a (rend ps) c = .ok (lab a ps)
 | [],n,a,c,_,hn,_=>by
  obtain ⟨n,rfl⟩ : ∃ m,n = m + 1:=⟨n - 1,by omega⟩
  rfl
 | p :: ps,n,a,c,⟨h1,h2,h3,h4⟩,hn,hc=>by
  obtain ⟨n,rfl⟩ : ∃ m,n = m + 1:=⟨n - 1,by omega⟩
  rw [List.length_cons] at hn hc
  have hne : rend (p :: ps) ≠ []:=by
   intro q
   have:=List.append_eq_nil_iff.mp q
   exact h2 this.1
  unfold wordsF
  rw [if_neg hne,h1 a]
  dsimp only
  rw [if_neg (by omega)]
  have hd : (rend (p :: ps)).drop p.w.length = List.replicate p.sp 32 ++ rend ps:=by
   show (p.w ++ (List.replicate p.sp 32 ++ rend ps)).drop p.w.length = _
   rw [List.drop_left]
  rw [hd]
  have hb : blk (List.replicate p.sp 32 ++ rend ps).length (List.replicate p.sp 32 ++ rend ps) = p.sp:=blk_sp p.sp h3
  rw [hb]
  have hd2 : (List.replicate p.sp 32 ++ rend ps).drop p.sp = rend ps:=by
   have : (List.replicate p.sp (32 : UInt8)).length = p.sp:=List.length_replicate
   exact List.drop_left' this
  rw [hd2,words_lab ps n _ (c + 1) h4 (by omega) (by omega)]
  rfl
/-! Numbers of one digit,signs. -/
def dgt (d : Nat) : UInt8:=UInt8.ofNat (48 + d)
def pNum (d sp : Nat) : Pc:=⟨[dgt d],2,[],d,sp⟩
def pSg (s : List UInt8) (sp : Nat) : Pc:=⟨s,4,s,0,sp⟩
theorem cnt0 {r : List UInt8} (h : ∀ b,r.head? = some b→isD b = false) : cntW isD r = 0:=by
 cases r with
 | nil=>rfl
 | cons b r=>rw [cntW_cons,if_neg (by rw [h b rfl]; decide)]
theorem word_num {d : Nat} (hd : d≤9) {r : List UInt8} (h : ∀ b,r.head? = some b→isD b = false) (a : Nat) : word a (dgt d :: r) = .ok (⟨2,[],d,a⟩,1):=by
 have hc:=cnt0 h
 have h1 : isL (dgt d) = false:=by
  have : d = 0 ∨ d = 1 ∨ d = 2 ∨ d = 3 ∨ d = 4 ∨ d = 5 ∨ d = 6 ∨ d = 7 ∨ d = 8 ∨ d = 9:=by omega
  rcases this with rfl | rfl | rfl | rfl | rfl | rfl | rfl | rfl | rfl | rfl <;> decide
 have h2 : isD (dgt d) = true:=by
  have : d = 0 ∨ d = 1 ∨ d = 2 ∨ d = 3 ∨ d = 4 ∨ d = 5 ∨ d = 6 ∨ d = 7 ∨ d = 8 ∨ d = 9:=by omega
  rcases this with rfl | rfl | rfl | rfl | rfl | rfl | rfl | rfl | rfl | rfl <;> decide
 have h3 : numP [dgt d] = .ok d:=by
  have : d = 0 ∨ d = 1 ∨ d = 2 ∨ d = 3 ∨ d = 4 ∨ d = 5 ∨ d = 6 ∨ d = 7 ∨ d = 8 ∨ d = 9:=by omega
  rcases this with rfl | rfl | rfl | rfl | rfl | rfl | rfl | rfl | rfl | rfl <;> rfl
 unfold word
 dsimp only
 rw [h1,if_neg (by decide),h2,if_pos rfl,cntW_cons,if_pos h2,hc]
 show (match numP [dgt d] with | .error e=>_ | .ok v=>_) = _
 rw [h3]
theorem word_one {b : UInt8} (hb : b ∈ [43,42,40,41,45]) {r : List UInt8} (h : b = 45→r.head? = some 32) (a : Nat) : word a (b :: r) = .ok (⟨4,[b],0,a⟩,1):=by
 simp only [List.mem_cons,List.not_mem_nil,or_false] at hb
 have h1 : isL b = false:=by rcases hb with rfl | rfl | rfl | rfl | rfl <;> decide
 have h2 : isD b = false:=by rcases hb with rfl | rfl | rfl | rfl | rfl <;> decide
 have h3 : b ≠ 34:=by rcases hb with rfl | rfl | rfl | rfl | rfl <;> decide
 have h4 : b ∈ sg1:=by rcases hb with rfl | rfl | rfl | rfl | rfl <;> decide
 have h5 : ¬ (b :: r).take 2 ∈ sg2:=by
  cases r with
  | nil=>rcases hb with rfl | rfl | rfl | rfl | rfl <;> decide
  | cons c r =>
   show ¬ [b,c] ∈ sg2
   rcases hb with rfl | rfl | rfl | rfl | rfl
   ·simp [sg2]
   ·simp [sg2]
   ·simp [sg2]
   ·simp [sg2]
   ·have:=h rfl
    cases this
    decide
 unfold word
 dsimp only
 rw [h1,if_neg (by decide),h2,if_neg (by decide),if_neg h3,if_neg h5,if_pos h4]
theorem word_dbl {b : UInt8} (hb : b = 124 ∨ b = 38) {r : List UInt8} (a : Nat) : word a (b :: b :: r) = .ok (⟨4,[b,b],0,a⟩,2):=by
 have h1 : isL b = false:=by rcases hb with rfl | rfl <;> decide
 have h2 : isD b = false:=by rcases hb with rfl | rfl <;> decide
 have h3 : b ≠ 34:=by rcases hb with rfl | rfl <;> decide
 have h5 : (b :: b :: r).take 2 ∈ sg2:=by
  show [b,b] ∈ sg2
  rcases hb with rfl | rfl <;> decide
 unfold word
 dsimp only
 rw [h1,if_neg (by decide),h2,if_neg (by decide),if_neg h3,if_pos h5]
 rfl
end Go.Proofs.YtgnfndhmfgghdaaGreatDoor

/- The texts of the law: numbers with signs between them,in brackets; what they say. -/
namespace Go.Proofs.YtgnfndhmfgghdaaGreatDoor
open Go Go.Vai
def ipc : Nat→List (Nat × Nat)→List Pc
 | d,[]=>[pNum d 0]
 | d,(o,d') :: its=>pNum d 1 :: pSg (sgO o) 1 :: ipc d' its
def okI (d : Nat) (its : List (Nat × Nat)) : Prop:=d≤9∧∀ x ∈ its,x.1 < 5∧x.2≤9
theorem okI.tl {d o d' : Nat} {its : List (Nat × Nat)} (h : okI d ((o,d') :: its)) : o < 5∧okI d' its :=
 ⟨(h.2 (o,d') (List.mem_cons_self ..)).1,(h.2 (o,d') (List.mem_cons_self ..)).2,fun x hx=>h.2 x (List.mem_cons_of_mem _ hx)⟩
theorem ipc_len : ∀ (its : List (Nat × Nat)) (d : Nat),(ipc d its).length = 2 * its.length + 1
 | [],_=>rfl
 | (o,d') :: its,d=>by
  show (ipc d' its).length + 1 + 1 = _
  rw [ipc_len its d',List.length_cons]; omega
/-- What may stand behind. -/
def cl (r : List UInt8) : Prop:=∀ b,r.head? = some b→b = 41
theorem cl_nb {r : List UInt8} (h : cl r) : nb r:=fun b hb=>by have:=h b hb; subst this; exact ⟨by decide,by decide⟩
theorem sgO_is {o : Nat} (h : o < 5) : (o = 0 ∨ o = 1 ∨ o = 2 ∨ o = 3 ∨ o = 4):=by omega
theorem gd_ipc : ∀ (its : List (Nat × Nat)) (d : Nat) (E : List Pc),okI d its→Gd E→cl (rend E)→Gd (ipc d its ++ E)
 | [],d,E,h,hE,hc=>by
  refine ⟨fun a=>?_,List.cons_ne_nil _ _,cl_nb hc,hE⟩
  show word a (dgt d :: ([] ++ rend E)) = _
  exact word_num h.1 (fun b hb=>by have:=hc b hb; subst this; decide) a
 | (o,d') :: its,d,E,h,hE,hc=>by
  obtain ⟨ho,ht⟩:=h.tl
  have ih:=gd_ipc its d' E ht hE hc
  have hhead : ∀ (x : Nat) (l : List (Nat × Nat)),x≤9→nb (rend (ipc x l ++ E)):=by
   intro x l hx b hb
   have hb' : b = dgt x:=by
    cases l with
    | nil =>
     have : some (dgt x) = some b:=hb
     cases this; rfl
    | cons y l =>
     have : some (dgt x) = some b:=hb
     cases this; rfl
   subst hb'
   have : x = 0 ∨ x = 1 ∨ x = 2 ∨ x = 3 ∨ x = 4 ∨ x = 5 ∨ x = 6 ∨ x = 7 ∨ x = 8 ∨ x = 9:=by omega
   rcases this with rfl | rfl | rfl | rfl | rfl | rfl | rfl | rfl | rfl | rfl <;> exact ⟨by decide,by decide⟩
  refine ⟨fun a=>?_,List.cons_ne_nil _ _,?_,fun a=>?_,?_,hhead d' its ht.1,ih⟩
  ·show word a (dgt d :: (32 :: _)) = _
   exact word_num h.1 (fun b hb=>by cases hb; decide) a
  ·intro b hb
   rcases sgO_is ho with rfl | rfl | rfl | rfl | rfl <;> (cases hb; exact ⟨by decide,by decide⟩)
  ·rcases sgO_is ho with rfl | rfl | rfl | rfl | rfl
   ·exact word_dbl (b:=124) (.inl rfl) a
   ·exact word_dbl (b:=38) (.inr rfl) a
   ·exact word_one (b:=43) (by decide) (fun q=>absurd q (by decide)) a
   ·exact word_one (b:=45) (by decide) (fun _=>rfl) a
   ·exact word_one (b:=42) (by decide) (fun q=>absurd q (by decide)) a
  ·rcases sgO_is ho with rfl | rfl | rfl | rfl | rfl <;> exact List.cons_ne_nil _ _
/-- As words. -/
theorem its_lab : ∀ (its : List (Nat × Nat)) (d a : Nat) (E : List Pc),okI d its→∃ t ts a',lab a (ipc d its ++ E) = t :: ts∧t.k = 2∧t.n = d∧Its its ts (lab a' E)
 | [],d,a,E,_=>⟨_,_,_,rfl,rfl,rfl,rfl⟩
 | (o,d') :: its,d,a,E,h=>by
  obtain ⟨ho,ht⟩:=h.tl
  obtain ⟨t,ts,a',h1,h2,h3,h4⟩:=its_lab its d' (a + (1 + 1) + ((sgO o).length + 1)) E ht
  refine ⟨⟨2,[],d,a⟩,⟨4,sgO o,0,a + (1 + 1)⟩ :: t :: ts,a',?_,rfl,rfl,ho,_,t,ts,rfl,rfl,rfl,h2,h3,h4⟩
  show _ :: _ :: lab (a + (1 + 1) + ((sgO o).length + 1)) (ipc d' its ++ E) = _
  rw [h1]; rfl
def opn : Pc:=pSg [40] 0
def sht : Pc:=pSg [41] 0
theorem gd_shts : ∀ (k : Nat),Gd (List.replicate k sht)∧cl (rend (List.replicate k sht))
 | 0=>⟨trivial,fun b hb=>by cases hb⟩
 | k + 1=>by
  obtain ⟨h1,h2⟩:=gd_shts k
  refine ⟨⟨fun a=>?_,List.cons_ne_nil _ _,cl_nb h2,h1⟩,fun b hb=>?_⟩
  ·exact word_one (b:=41) (by decide) (fun q=>absurd q (by decide)) a
  ·have : some (41 : UInt8) = some b:=hb
   cases this; rfl
theorem gd_opns : ∀ (k : Nat) (ps : List Pc),Gd ps→nb (rend ps)→Gd (List.replicate k opn ++ ps)∧nb (rend (List.replicate k opn ++ ps))
 | 0,ps,h,hn=>⟨h,hn⟩
 | k + 1,ps,h,hn=>by
  obtain ⟨h1,h2⟩:=gd_opns k ps h hn
  refine ⟨⟨fun a=>?_,List.cons_ne_nil _ _,h2,h1⟩,fun b hb=>?_⟩
  ·exact word_one (b:=40) (by decide) (fun q=>absurd q (by decide)) a
  ·have : some (40 : UInt8) = some b:=hb
   cases this; exact ⟨by decide,by decide⟩
/-- Read in brackets. -/
theorem wrp_read {its : List (Nat × Nat)} {d : Nat} (ho : okI d its) : ∃ e,Wl e∧dep e≤1 + its.length∧∀ (k a : Nat) (E : List Pc),(∀ a',NoSg (lab a' E))→∃ a',Rdz 7 (lab a (List.replicate k opn ++ (ipc d its ++ (List.replicate k sht ++ E)))) e (lab a' E) ∧
  (0 < k→Rdz 0 (lab a (List.replicate k opn ++ (ipc d its ++ (List.replicate k sht ++ E)))) e (lab a' E)):=by
 obtain ⟨e,hw,hd,hr⟩:=row_read its d
 refine ⟨e,hw,hd,fun k=>?_⟩
 induction k with
 | zero =>
  intro a E hE
  obtain ⟨t,ts,a',h1,h2,h3,h4⟩:=its_lab its d a E ho
  refine ⟨a',?_,fun q=>absurd q (Nat.lt_irrefl _)⟩
  show Rdz 7 (lab a (ipc d its ++ E)) e (lab a' E)
  rw [h1]
  exact hr t ts _ (hE a') h2 h3 h4
 | succ k ih =>
  intro a E hE
  have hsh : List.replicate (k + 1) sht ++ E = List.replicate k sht ++ (sht :: E):=by
   rw [List.replicate_succ',List.append_assoc]; rfl
  rw [hsh]
  obtain ⟨a',h1,_⟩:=ih (a + (1 + 0)) (sht :: E) (fun a'=>noSg_shut (t:=⟨4,[41],0,a'⟩) rfl rfl)
  obtain ⟨p0,p7⟩:=par_read (t:=⟨4,[40],0,a⟩) (c:=⟨4,[41],0,a'⟩) h1 (hE (a' + (1 + 0))) rfl rfl rfl rfl
  exact ⟨a' + (1 + 0),p7,fun _=>p0⟩
/-- What a text of pieces says. -/
theorem exprS_of {ps : List Pc} {e : Ex} (hg : Gd ps) (hn : nb (rend ps)) (hl : ps.length≤200) (hs : (rend ps).length≤600) (ha : Asc (rend ps)) (h : Rdz 7 (lab 0 ps) e []) (hw : wide e = false) (hd : dep e≤10) : words (rend ps) = .ok (lab 0 ps)∧exprS (rend ps) = (e,0):=by
 have hwd : words (rend ps) = .ok (lab 0 ps):=by
  unfold words
  have hb : blk (rend ps).length (rend ps) = 0:=blk_sp 0 hn
  rw [if_neg (by omega),if_neg (by rw [rns_asc ha]; exact fun q=>by cases q),hb,List.drop_zero]
  have hlen : ps.length≤(rend ps).length:=by
   clear hl hs ha h hn hb
   induction ps with
   | nil=>exact Nat.zero_le _
   | cons p ps ih =>
    have:=ih hg.2.2.2
    show ps.length + 1≤(p.w ++ (List.replicate p.sp 32 ++ rend ps)).length
    rw [List.length_append,List.length_append]
    have : 0 < p.w.length:=List.length_pos_iff.mpr hg.2.1
    omega
  exact words_lab ps _ 0 0 hg (by omega) (by omega)
 refine ⟨hwd,?_⟩
 unfold exprS
 rw [hwd]
 dsimp only
 rw [h _ (by omega)]
 dsimp only
 rw [if_neg (fun q=>q rfl)]
 have hc : chk e = 0:=by unfold chk; rw [if_neg (by rw [hw]; decide),if_neg (by omega)]
 rw [hc,if_pos rfl]
end Go.Proofs.YtgnfndhmfgghdaaGreatDoor

/- Texts of pieces,read by the program. -/
namespace Go.Proofs.YtgnfndhmfgghdaaGreatDoor
open Go Go.Vai
set_option maxRecDepth 100000
set_option maxHeartbeats 1600000
set_option linter.unusedSimpArgs false
structure Pok (p : Pc) : Prop where
 b : ∀ b ∈ p.w,b.toNat < 128∧b ≠ 34
 s : p.s ≠ [91]
 l : p.w.length≤2
 n : p.sp≤1
def Pall (ps : List Pc) : Prop:=∀ p ∈ ps,Pok p
theorem Pall.app {p q : List Pc} (hp : Pall p) (hq : Pall q) : Pall (p ++ q):=fun x hx=>(List.mem_append.mp hx).elim (hp x) (hq x)
theorem Pall.cons {p : Pc} {q : List Pc} (hp : Pok p) (hq : Pall q) : Pall (p :: q):=fun x hx=>by
 rcases List.mem_cons.mp hx with rfl | hx
 ·exact hp
 ·exact hq x hx
theorem Pall.rep {p : Pc} (hp : Pok p) (k : Nat) : Pall (List.replicate k p):=fun x hx=>by rw [(List.mem_replicate.mp hx).2]; exact hp
theorem pok_num {d sp : Nat} (hd : d≤9) (hs : sp≤1) : Pok (pNum d sp):=by
 refine ⟨fun b hb=>?_,by simp [pNum],by simp [pNum],hs⟩
 have hb : b = dgt d:=List.mem_singleton.mp hb
 subst hb
 have : d = 0 ∨ d = 1 ∨ d = 2 ∨ d = 3 ∨ d = 4 ∨ d = 5 ∨ d = 6 ∨ d = 7 ∨ d = 8 ∨ d = 9:=by omega
 rcases this with rfl | rfl | rfl | rfl | rfl | rfl | rfl | rfl | rfl | rfl <;> exact ⟨by decide,by decide⟩
theorem pok_sg {o sp : Nat} (ho : o < 5) (hs : sp≤1) : Pok (pSg (sgO o) sp):=by
 have h1 : (∀ b ∈ sgO o,b.toNat < 128∧b ≠ 34)∧sgO o ≠ [91]∧(sgO o).length≤2:=by
  rcases sgO_is ho with rfl | rfl | rfl | rfl | rfl <;> decide
 exact ⟨h1.1,h1.2.1,h1.2.2,hs⟩
theorem pok_opn : Pok opn:=⟨by decide,by decide,by decide,by decide⟩
theorem pok_sht : Pok sht:=⟨by decide,by decide,by decide,by decide⟩
theorem pok_ipc : ∀ (its : List (Nat × Nat)) (d : Nat),okI d its→Pall (ipc d its)
 | [],d,h=>Pall.cons (pok_num h.1 (by decide)) fun _ hx=>by cases hx
 | (o,d') :: its,d,h=>Pall.cons (pok_num h.1 (by decide)) (Pall.cons (pok_sg h.tl.1 (by decide)) (pok_ipc its d' h.tl.2))
theorem rend_ok : ∀ {ps : List Pc},Pall ps→(∀ b ∈ rend ps,b.toNat < 128∧b ≠ 34)∧(rend ps).length≤3 * ps.length∧∀ a,∀ t ∈ lab a ps,t.s ≠ [91]
 | [],_=>⟨fun _ h=>(by cases h),Nat.zero_le _,fun _ _ h=>(by cases h)⟩
 | p :: ps,h=>by
  obtain ⟨h1,h2,h3⟩:=rend_ok (ps:=ps) fun x hx=>h x (List.mem_cons_of_mem _ hx)
  have hp:=h p (List.mem_cons_self ..)
  refine ⟨fun b hb=>?_,?_,fun a t ht=>?_⟩
  ·have hb : b ∈ p.w ++ (List.replicate p.sp 32 ++ rend ps):=hb
   rcases List.mem_append.mp hb with hb | hb
   ·exact hp.b b hb
   ·rcases List.mem_append.mp hb with hb | hb
    ·rw [(List.mem_replicate.mp hb).2]; exact ⟨by decide,by decide⟩
    ·exact h1 b hb
  ·show (p.w ++ (List.replicate p.sp 32 ++ rend ps)).length≤3 * (ps.length + 1)
   rw [List.length_append,List.length_append,List.length_replicate]
   have:=hp.l
   have:=hp.n
   omega
  ·rcases List.mem_cons.mp ht with rfl | ht
   ·exact hp.s
   ·exact h3 _ t ht
/-- No sets: nothing is asked of them. -/
theorem sq_none {p : Pa} {x : AV} {l : List Tok} (h : ∀ t ∈ l,t.s ≠ [91]) : SqAll p x l:=by
 intro n _ H0 bad ts a hh
 exfalso
 obtain ⟨i,a⟩:=a
 obtain ⟨t,r,rfl,_,hs⟩:=isT_ne hh
 have hts:=a.ts
 cases bad with
 | true=>exact absurd hts (List.cons_ne_nil _ _)
 | false =>
  have hts : t :: r = l.drop i:=hts
  refine h t ?_ hs
  exact List.mem_of_mem_drop (by rw [← hts]; exact List.mem_cons_self ..)
/-- What the program reads of a text of pieces. -/
theorem s19p {ps : List Pc} {e : Ex} (hp : Pall ps) (hg : Gd ps) (hn : nb (rend ps)) (hl : ps.length≤200) (h : Rdz 7 (lab 0 ps) e []) (hw : Wl e) (hd : dep e≤10) {H : Heap} (T : GlS H) :
  ∃ H' cs,Grow H H'∧TreeS (New H.next.toN) H' cs e∧∀ M,10000000≤M→∀ (R : Type) (k : HK R),callK tbl (runK tbl M) R (toPa 19) [str (rend ps)] H k = k (.tu [.ag cs,.i .i64 0]) H':=by
 obtain ⟨h1,h2,h3⟩:=rend_ok hp
 have ha : Asc (rend ps):=fun b hb=>(h1 b hb).1
 obtain ⟨hwd,hx⟩:=exprS_of hg hn hl (by omega) ha h hw.w hd
 obtain ⟨H',cs,g,sv,tr,e19⟩:=s19 (s:=rend ps) T (fun _ _=>s172a ha _) (fun H s' b ⟨a,hs⟩ _ hb _ h34=>by
  subst hs h34
  have : (34 : UInt8) ∈ rend ps:=by
   cases hdr : (rend ps).drop a with
   | nil=>rw [hdr] at hb; cases hb
   | cons c r =>
    rw [hdr] at hb
    cases hb
    exact List.mem_of_mem_drop (by rw [hdr]; exact List.mem_cons_self ..)
  exact absurd rfl (h1 34 this).2) (fun e' q=>by rw [hwd] at q; cases q) (fun l p x q=>by rw [hwd] at q; cases q; exact sq_none (h3 0)) (fun l e' r q hP=>by
   rw [hwd] at q
   cases q
   rw [h _ (by omega)] at hP
   cases hP
   exact ⟨hw.p,by omega⟩)
 rw [hx] at tr e19
 exact ⟨H',cs,g,tr rfl,e19⟩
end Go.Proofs.YtgnfndhmfgghdaaGreatDoor

/- The law of brackets: the numbers it is given,its signs,its text. -/
namespace Go.Proofs.YtgnfndhmfgghdaaGreatDoor
open Go Go.Vai
set_option maxRecDepth 100000
set_option maxHeartbeats 1600000
set_option linter.unusedSimpArgs false
/-- A row of numbers as it is given. -/
def Ints (H : Heap) (x : AV) (l : List Int) : Prop :=
 (x = .ns∧l = []) ∨ ∃ a off ro fz e size c,x = .sl a off l.length none 1∧a.toN < H.next.toN∧H.get a = .cells ro fz e size c∧off + l.length≤size∧∀ j,j < l.length→Tr.get .u c (toPa (off + j)) = .i .i64 ((l[j]?).getD 0)
theorem Ints.grow {H H' : Heap} {x : AV} {l : List Int} (h : Ints H x l) (g : Grow H H') : Ints H' x l:=by
 obtain h | ⟨a,off,ro,fz,e,size,c,hx,ha,h1,h2,h3⟩:=h
 ·exact Or.inl h
 ·exact Or.inr ⟨a,off,ro,fz,e,size,c,hx,Nat.lt_of_lt_of_le ha g.next,by rw [g.get a ha,h1],h2,h3⟩
theorem Ints.len {R : Type} {H H' : Heap} {x : AV} {l : List Int} {k : HK R} (h : Ints H x l) : lenC false x k H' = k (.i .i64 l.length) H':=by
 obtain ⟨rfl,rfl⟩ | ⟨a,off,ro,fz,e,size,c,rfl,_⟩:=h <;> rfl
theorem Ints.cell {H : Heap} {x : AV} {s : List Int} (h : Ints H x s) : oneC x = true∧avEq1 x x = true:=by
 obtain ⟨rfl,rfl⟩ | ⟨a,off,ro,fz,e,size,c,rfl,_⟩:=h
 ·exact ⟨rfl,av1_ns⟩
 ·exact ⟨one_sl,av1_sl⟩
theorem ints_at {H : Heap} {x : AV} {l : List Int} (h : Ints H x l) {j : Nat} (hj : j < l.length) : ∃ a o,(∀ (R : Type) (k : HK R) (G : Heap),ixaC 1 x (.i .i64 (j : Int)) k G = k (.p a o) G)∧∀ G,Grow H G→∀ (R : Type) (k : HK R),ldC false 1 (.p a o) k G = k (.i .i64 ((l[j]?).getD 0)) G:=by
 obtain ⟨rfl,rfl⟩ | ⟨a,off,ro,fz,e,size,c,rfl,ha,k1,k2,k3⟩:=h
 ·cases hj
 ·refine ⟨a,off + j * 1,fun R k G=>by rw [ixa_sl (by omega) (by omega),Int.toNat_natCast],fun G g R k=>?_⟩
  rw [ld_one (by rw [g.get a ha,k1]) (by omega),Nat.mul_one,k3 j hj]
/-- The signs,as they lie in memory. -/
def opsL : List AV:=[str [124,124],.i .i64 24,.i .i64 1,str [38,38],.i .i64 23,.i .i64 2,str [43],.i .i64 14,.i .i64 4,str [45],.i .i64 15,.i .i64 4,str [42],.i .i64 13,.i .i64 5]
theorem fill_ops {R : Type} {F : List AV→Option R} : fillV [(0,3,.ag [str [124,124],.i .i64 24,.i .i64 1]),(3,3,.ag [str [38,38],.i .i64 23,.i .i64 2]),(6,3,.ag [str [43],.i .i64 14,.i .i64 4]),(9,3,.ag [str [45],.i .i64 15,.i .i64 4]),(12,3,.ag [str [42],.i .i64 13,.i .i64 5])] [str [],.i .i64 0,.i .i64 0,str [],.i .i64 0,.i .i64 0,str [],.i .i64 0,.i .i64 0,str [],.i .i64 0,.i .i64 0,str [],.i .i64 0,.i .i64 0] F = F opsL:=rfl
theorem s24 (H : Heap) : ∃ H',H' = H.alloc (.cells false 0 52 15 (setCells opsL 0 .leaf))∧Grow H H'∧Row H' H.next 52 opsL∧∀ M,100≤M→∀ (R : Type) (k : HK R),callK tbl (runK tbl M) R (toPa 24) [] H k = k (.sl H.next 0 5 (some 5) 3) H':=by
 refine ⟨_,rfl,Grow.alloc H _,Row.new H 52 opsL,fun M hM R k=>?_⟩
 obtain ⟨m,rfl⟩:=fuel hM
 rw [call_eq L24]
 unfold B24
 simp only [EX,reduceIte,Nat.reduceEqDiff,Nat.reduceAdd,Int.reduceEq,Int.reduceLT,Int.reduceLE,reduceCtorEq,Nat.reduceLeDiff,Nat.reduceSub,Nat.reduceLT,x_callv,clv_fn,x_mkfn,List.nil_append,List.append_nil,res_3,res_ct,res_ctt,fill_ops]
 rfl
theorem sadd {R : Type} {ek : EK} {s t : List UInt8} {k : HK R} {H : Heap} (h : s.length + t.length≤100000) : binC .add ek (str s) (str t) k H = k (str (s ++ t)) H:=s_add (Nat.le_trans h (by decide))
/-! The text. -/
def itsOf (l : List Int) (n : Nat) : List (Nat × Nat):=(List.range n).map fun i=>(((l[i]?).getD 0 % 5).toNat,2 + i)
def txi (its : List (Nat × Nat)) : List UInt8:=its.flatMap fun x=>32 :: (sgO x.1 ++ [32,dgt x.2])
theorem rend_ipc : ∀ (its : List (Nat × Nat)) (d : Nat),rend (ipc d its) = dgt d :: txi its
 | [],d=>rfl
 | (o,d') :: its,d=>by
  show [dgt d] ++ (List.replicate 1 32 ++ (sgO o ++ (List.replicate 1 32 ++ rend (ipc d' its)))) = _
  rw [rend_ipc its d']
  show dgt d :: 32 :: (sgO o ++ (32 :: dgt d' :: txi its)) = dgt d :: ((32 :: (sgO o ++ [32,dgt d'])) ++ txi its)
  simp
theorem txi_app (a b : List (Nat × Nat)) : txi (a ++ b) = txi a ++ txi b:=List.flatMap_append
theorem itsOf_succ (l : List Int) (n : Nat) : itsOf l (n + 1) = itsOf l n ++ [(((l[n]?).getD 0 % 5).toNat,2 + n)]:=by
 unfold itsOf
 rw [List.range_succ,List.map_append]; rfl
theorem itsOf_len (l : List Int) (n : Nat) : (itsOf l n).length = n:=by
 unfold itsOf
 rw [List.length_map,List.length_range]
theorem mod5 (z : Int) : (z % 5).toNat < 5∧((z % 5).toNat : Int) = z % 5:=by
 have h1:=Int.emod_nonneg z (b:=5) (by decide)
 have h2:=Int.emod_lt_of_pos z (b:=5) (by decide)
 omega
theorem itsOf_ok (l : List Int) {n : Nat} (h : n≤8) : okI 1 (itsOf l n):=by
 refine ⟨by decide,fun x hx=>?_⟩
 unfold itsOf at hx
 obtain ⟨i,hi,rfl⟩:=List.mem_map.mp hx
 have hi:=List.mem_range.mp hi
 exact ⟨(mod5 _).1,by show 2 + i≤9; omega⟩
theorem txi_le : ∀ (its : List (Nat × Nat)),(∀ x ∈ its,x.1 < 5)→(txi its).length≤5 * its.length
 | [],_=>Nat.le_refl _
 | x :: its,h=>by
  have ih:=txi_le its fun y hy=>h y (List.mem_cons_of_mem _ hy)
  have hx:=h x (List.mem_cons_self ..)
  have hs : (sgO x.1).length≤2:=by
   rcases sgO_is hx with q | q | q | q | q <;> rw [q] <;> decide
  show (32 :: (sgO x.1 ++ [32,dgt x.2]) ++ txi its).length≤5 * (its.length + 1)
  rw [List.length_append,List.length_cons,List.length_append]
  show (sgO x.1).length + 2 + 1 + (txi its).length≤_
  omega
theorem ops_at {o : Nat} (h : o < 5) : opsL[o * 3]? = some (str (sgO o)):=by
 rcases sgO_is h with rfl | rfl | rfl | rfl | rfl <;> rfl
theorem dgt_n {i : Nat} (h : i < 8) : ((dgt (2 + i)).toNat : Int) = 50 + (i : Int):=by
 have : i = 0 ∨ i = 1 ∨ i = 2 ∨ i = 3 ∨ i = 4 ∨ i = 5 ∨ i = 6 ∨ i = 7:=by omega
 rcases this with rfl | rfl | rfl | rfl | rfl | rfl | rfl | rfl <;> rfl
end Go.Proofs.YtgnfndhmfgghdaaGreatDoor

/- The law of brackets: its loops. -/
namespace Go.Proofs.YtgnfndhmfgghdaaGreatDoor
open Go Go.Vai
set_option maxRecDepth 100000
set_option maxHeartbeats 3200000
set_option linter.unusedSimpArgs false
noncomputable def Lp6b : AC:=(.loop (.seq (.seq (.ops [O 54 (.mv (T 11)),O 55 (.mv (T 1)),O 56 (.call (toPa 22) [(T 55),(K (.i .i64 5))]),O 57 (.bin .lss .no (T 54) (T 56))]) (.cond (T 57) .skip (.exit 2))) (.seq (.block 3 (.ops [O 60 (.mv (T 10)),O 61 (.bin .add .no (K (str [40])) (T 60)),O 62 (.bin .add .no (T 61) (K (str [41]))),O 10 (.mv (T 62))])) (.ops [O 58 (.mv (T 11)),O 59 (.bin .add .no (T 58) (K (.i .i64 1))),O 11 (.mv (T 59))]))))
noncomputable def Lp6a : AC:=(.loop (.seq (.seq (.ops [O 19 (.mv (T 7)),O 20 (.mv (T 0)),O 21 (.len false (T 20)),O 22 (.bin .lss .no (T 19) (T 21)),O 23 (.mv (T 22)),G 24 23 true (.mv (T 7)),G 25 23 true (.bin .lss .no (T 24) (K (.i .i64 8))),O 26 (.pick (T 23) (T 25) (K (.b false)))]) (.cond (T 26) .skip (.exit 0))) (.seq (.block 1 (.draw 1 [(O 32 (.mv (T 0)),⟨0,0⟩),(O 33 (.mv (T 7)),⟨0,0⟩),(O 34 (.ixa 1 (T 32) (T 33)),⟨0,0⟩),(O 35 (.ld false 1 (T 34)),⟨1,0⟩),(O 36 (.call (toPa 22) [(T 35),(K (.i .i64 5))]),⟨3,0⟩),(O 29 (.mv (T 6)),⟨0,0⟩),(O 30 (.bin .add .no (T 29) (K (str [32]))),⟨0,0⟩),(O 31 (.mv (T 5)),⟨0,0⟩),(O 37 (.ixa 3 (T 31) (T 36)),⟨0,1⟩),(O 38 (.fa 0 (T 37)),⟨0,1⟩),(O 39 (.ld false 1 (T 38)),⟨1,1⟩),(O 40 (.bin .add .no (T 30) (T 39)),⟨0,1⟩),(O 41 (.bin .add .no (T 40) (K (str [32]))),⟨0,1⟩),(O 42 (.mv (T 7)),⟨0,0⟩),(O 43 (.bin .add .no (K (.i .i64 50)) (T 42)),⟨0,0⟩),(O 44 (.cvi .u8 (T 43)),⟨0,0⟩),(O 45 (.bsl 5 1 1 [(.i .u8 0)] [(0,1,(T 44))]),⟨2,0⟩),(O 46 (.b2s (T 45)),⟨1,1000000⟩),(O 47 (.bin .add .no (T 41) (T 46)),⟨0,1⟩),(O 6 (.mv (T 47)),⟨0,1⟩)])) (.ops [O 27 (.mv (T 7)),O 28 (.bin .add .no (T 27) (K (.i .i64 1))),O 7 (.mv (T 28))]))))
theorem B6_eq : B6 = (.seq (.ops [O 4 (.mv (K (.b false)))]) (.seq (.seq (.ops [O 16 (.call (toPa 11) []),O 17 (.not (T 16))]) (.cond (T 17) (.seq (.ops [O 4 (.mv (K (.b false)))]) .ret) .skip)) (.seq (.ops [O 18 (.call (toPa 24) []),O 5 (.mv (T 18))]) (.seq (.ops [O 6 (.mv (K (str [49])))]) (.seq (.seq (.ops [O 7 (.mv (K (.i .i64 0)))]) (.block 0 Lp6a)) (.seq (.ops [O 49 (.mv (T 6)),O 50 (.call (toPa 19) [(T 49)]),O 48 (.mv (T 50)),O 51 (.ext 0 (T 48)),O 52 (.ext 1 (T 48)),O 8 (.new 35 [(.i .i64 0),(.b false),(.i .i64 0),(str []),(str []),(str []),.ns]),O_ (.st 7 (T 8) (T 51)),O 9 (.mv (T 52))]) (.seq (.ops [O 53 (.mv (T 6)),O 10 (.mv (T 53))]) (.seq (.seq (.ops [O 11 (.mv (K (.i .i64 0)))]) (.block 2 Lp6b)) (.seq (.ops [O 64 (.mv (T 10)),O 65 (.call (toPa 19) [(T 64)]),O 63 (.mv (T 65)),O 66 (.ext 0 (T 63)),O 67 (.ext 1 (T 63)),O 12 (.new 35 [(.i .i64 0),(.b false),(.i .i64 0),(str []),(str []),(str []),.ns]),O_ (.st 7 (T 12) (T 66)),O 13 (.mv (T 67))]) (.seq (.ops [O 69 (.mv (T 6)),O 70 (.bin .add .no (K (str [48,32,42,32,40])) (T 69)),O 71 (.bin .add .no (T 70) (K (str [41]))),O 72 (.call (toPa 19) [(T 71)]),O 68 (.mv (T 72)),O 73 (.ext 0 (T 68)),O 74 (.ext 1 (T 68)),O 14 (.new 35 [(.i .i64 0),(.b false),(.i .i64 0),(str []),(str []),(str []),.ns]),O_ (.st 7 (T 14) (T 73)),O 15 (.mv (T 74))]) (.seq (.seq (.ops [O 75 (.mv (T 9)),O 76 (.bin .neq .no (T 75) (K (.i .i64 0))),O 77 (.mv (T 76)),G 78 77 false (.mv (T 13)),G 79 77 false (.bin .neq .no (T 78) (K (.i .i64 0))),O 80 (.pick (T 77) (K (.b true)) (T 79)),O 81 (.mv (T 80)),G 82 81 false (.ld true 7 (T 8)),G 83 81 false (.ld true 7 (T 12)),G 84 81 false (.call (toPa 21) [(T 82),(T 83)]),G 85 81 false (.not (T 84)),O 86 (.pick (T 81) (K (.b true)) (T 85))]) (.cond (T 86) (.seq (.ops [O 4 (.mv (K (.b false)))]) .ret) .skip)) (.seq (.seq (.ops [O 87 (.ld true 7 (T 8)),O 88 (.call (toPa 23) [(T 87)]),O 89 (.bin .eql .no (T 88) (K (.i .i64 10)))]) (.cond (T 89) (.seq (.ops [O 90 (.mv (T 15)),O 91 (.bin .eql .no (T 90) (K (.i .i64 14))),O 4 (.mv (T 91))]) .ret) .skip)) (.seq (.draw 0 [(O 92 (.mv (T 15)),⟨0,0⟩),(O 93 (.bin .eql .no (T 92) (K (.i .i64 0))),⟨0,0⟩),(O 94 (.mv (T 93)),⟨0,0⟩),(G 95 94 true (.fa 0 (T 14)),⟨0,0⟩),(G 96 94 true (.ld false 1 (T 95)),⟨1,0⟩),(G 97 94 true (.bin .eql .no (T 96) (K (.i .i64 13))),⟨0,0⟩),(O 98 (.pick (T 94) (T 97) (K (.b false))),⟨0,0⟩),(O 99 (.mv (T 98)),⟨0,0⟩),(G 100 99 true (.fa 6 (T 14)),⟨0,0⟩),(G 101 99 true (.ld false 1 (T 100)),⟨1,0⟩),(G 102 99 true (.ixa 7 (T 101) (K (.i .i64 1))),⟨0,0⟩),(G 103 99 true (.ld true 7 (T 102)),⟨1,0⟩),(G 104 99 true (.ld true 7 (T 8)),⟨1,0⟩),(G 105 99 true (.call (toPa 21) [(T 103),(T 104)]),⟨3,0⟩),(O 106 (.pick (T 99) (T 105) (K (.b false))),⟨0,1⟩),(O 4 (.mv (T 106)),⟨0,1⟩)]) .ret))))))))))))):=rfl
structure F6 (xs : AV) (n : Int) (a : Pa) (s : List UInt8) (i : Nat) (fr : Tr AV) : Prop where
 f0 : V fr 0 = xs
 f1 : V fr 1 = .i .i64 n
 f5 : V fr 5 = .sl a 0 5 (some 5) 3
 f6 : V fr 6 = str s
 f7 : V fr 7 = .i .i64 (i : Int)
def tx6 (l : List Int) (i : Nat) : List UInt8:=49 :: txi (itsOf l i)
theorem tx6_succ (l : List Int) (i : Nat) : tx6 l (i + 1) = ((((tx6 l i ++ [32]) ++ sgO (((l[i]?).getD 0 % 5).toNat)) ++ [32]) ++ [dgt (2 + i)]):=by
 unfold tx6
 rw [itsOf_succ,txi_app]
 show 49 :: (txi (itsOf l i) ++ ((32 :: (sgO _ ++ [32,dgt (2 + i)])) ++ [])) = _
 simp
theorem tx6_le (l : List Int) {i : Nat} (h : i≤8) : (tx6 l i).length≤41:=by
 have:=txi_le (itsOf l i) fun x hx=>((itsOf_ok l h).2 x hx).1
 rw [itsOf_len] at this
 show (txi (itsOf l i)).length + 1≤41
 omega
theorem loop6a {H0 : Heap} (hf : Fresh H0) {xs : AV} {l : List Int} (hx : Ints H0 xs l) {a : Pa} (ha : a.toN < H0.next.toN) (hr : Row H0 a 52 opsL) {n : Int} :
  ∃ H',Grow H0 H'∧∀ fr,F6 xs n a (tx6 l 0) 0 fr→∀ M,200 + min l.length 8≤M→∀ (R : Type) (k : XK R) (res : Option R),(∀ fr',F6 xs n a (tx6 l (min l.length 8)) (min l.length 8) fr'→k (.exit 0) fr' H' = res)→runK tbl M R Lp6a fr H0 k = res:=by
 obtain ⟨H',_,g,e⟩:=loop_cps (Lp:=Lp6a) (ex:=0) (n:=min l.length 8) (c:=200) (St:=Unit) (fun i H _=>Grow H0 H) (fun i _ fr=>F6 xs n a (tx6 l i) i fr)
  (fun H _ g fr ⟨f0,f1,f5,f6,f7⟩ M hM R k res hr'=>by
   obtain ⟨m,rfl⟩:=fuel hM
   have hl:=(hx.grow g)
   unfold Lp6a
   rw [run_loop]
   by_cases h : l.length≤8
   ·have hn : ¬ ((min l.length 8 : Nat) : Int) < (l.length : Int):=by omega
    simp only [EX,reduceIte,Nat.reduceEqDiff,Nat.reduceAdd,Int.reduceEq,Int.reduceLT,Int.reduceLE,reduceCtorEq,Nat.reduceLeDiff,Nat.reduceSub,Nat.reduceLT,x_callv,clv_fn,x_mkfn,List.nil_append,List.append_nil,res_3,res_ct,res_ctt,f0,f7,hl.len,hn]
    refine hr' _ ⟨?_,?_,?_,?_,?_⟩
    all_goals simp only [V_S,Nat.reduceEqDiff,reduceIte]
    all_goals assumption
   ·have hn : ((min l.length 8 : Nat) : Int) < (l.length : Int):=by omega
    have hn2 : ¬ ((min l.length 8 : Nat) : Int) < 8:=by omega
    simp only [EX,reduceIte,Nat.reduceEqDiff,Nat.reduceAdd,Int.reduceEq,Int.reduceLT,Int.reduceLE,reduceCtorEq,Nat.reduceLeDiff,Nat.reduceSub,Nat.reduceLT,x_callv,clv_fn,x_mkfn,List.nil_append,List.append_nil,res_3,res_ct,res_ctt,f0,f7,hl.len,hn,hn2]
    refine hr' _ ⟨?_,?_,?_,?_,?_⟩
    all_goals simp only [V_S,Nat.reduceEqDiff,reduceIte]
    all_goals assumption)
  (fun i H _ hi g=>by
   have gb : Grow H (H.bump 1):=Grow.bump 1 H
   have nb : (H.bump 1).next.toN = H.next.toN + 1:=next_bump
   have hlen:=g.next
   obtain ⟨q,o,eix,eld⟩:=ints_at hx (show i < l.length by omega)
   obtain ⟨z,hz⟩ : ∃ z,z = (l[i]?).getD 0:=⟨_,rfl⟩
   have hm:=mod5 z
   obtain ⟨c,hc⟩ : ∃ c,c = (z % 5).toNat:=⟨_,rfl⟩
   rw [← hc] at hm
   have hst : tx6 l (i + 1) = ((((tx6 l i ++ [32]) ++ sgO c) ++ [32]) ++ [dgt (2 + i)]):=by rw [tx6_succ,hc,hz]
   have e22:=s22 (a:=z) (n:=5) (by decide) (by decide)
   obtain ⟨H2,e2⟩ : ∃ H2,H2 = (H.bump 1).put H.next (.cells false 0 5 1 (setCells [.i .u8 ((dgt (2 + i)).toNat : Int)] 0 .leaf)):=⟨_,rfl⟩
   have g2 : Grow H H2:=by rw [e2]; exact gb.put (Nat.le_refl _) (by omega) _
   have r2 : Row H2 H.next 5 [.i .u8 ((dgt (2 + i)).toNat : Int)]:=by rw [e2]; exact ⟨_,get_put ..,fun j _=>cell_at [.i .u8 ((dgt (2 + i)).toNat : Int)] j⟩
   have hd : (H.bump 1).get H.next = .dead:=by
    rw [get_bump]
    exact (g.dead hf) _ (Nat.le_refl _)
   have hrd : ∀ (fr : Tr AV) (w : AV) (nn : Nat) (Gs : List Heap),ev fr (T 45) = .sl H.next 0 1 (some 1) 1→readOk (.b2s (T 45)) fr w 1000000 ((H.bump 1) :: Gs) nn = true:=fun fr w nn Gs hev=>read_hm (by decide) (home_b2s hev hd)
   have hb2 : ∀ (R : Type) (k : HK R),b2sC (.sl H.next 0 1 (some 1) 1) k H2 = k (str [dgt (2 + i)]) H2:=fun R k=>b2s_part r2 (s:=[dgt (2 + i)]) rfl (Nat.le_refl _) rfl
   have ldb:=eld (H.bump 1) (g.trans gb)
   have ld0:=eld H g
   rw [← hz] at ldb ld0
   have lop:=fun (G : Heap) (gg : Grow H0 G)=>(hr.grow gg ha).l (c * 3) (ops_at hm.1)
   have lopb:=lop (H.bump 1) (g.trans gb)
   have lop2:=lop H2 (g.trans g2)
   have eop : ∀ (R : Type) (k : HK R) (G : Heap),ixaC 3 (.sl a 0 5 (some 5) 3) (.i .i64 (z % 5)) k G = k (.p a (c * 3)) G:=fun R k G=>by
    rw [← hm.2,ixa_sl (by omega) (by omega),Int.toNat_natCast,Nat.zero_add]
   have hl:=(hx.grow g)
   have hx8:=tx6_le l (i:=i) (by omega)
   have hs2 : (sgO c).length≤2:=by rcases sgO_is hm.1 with q | q | q | q | q <;> rw [q] <;> decide
   have a1 : ∀ (R : Type) (ek : EK) (k : HK R) (G : Heap),binC .add ek (str (tx6 l i)) (str [32]) k G = k (str (tx6 l i ++ [32])) G:=fun R ek k G=>sadd (by show _ + 1≤_; omega)
   have a2 : ∀ (R : Type) (ek : EK) (k : HK R) (G : Heap),binC .add ek (str (tx6 l i ++ [32])) (str (sgO c)) k G = k (str ((tx6 l i ++ [32]) ++ sgO c)) G:=fun R ek k G=>sadd (by rw [List.length_append]; show _ + 1 + _≤_; omega)
   have a3 : ∀ (R : Type) (ek : EK) (k : HK R) (G : Heap),binC .add ek (str ((tx6 l i ++ [32]) ++ sgO c)) (str [32]) k G = k (str (((tx6 l i ++ [32]) ++ sgO c) ++ [32])) G:=fun R ek k G=>sadd (by rw [List.length_append,List.length_append]; show _ + 1 + _ + 1≤_; omega)
   have a4 : ∀ (R : Type) (ek : EK) (k : HK R) (G : Heap),binC .add ek (str (((tx6 l i ++ [32]) ++ sgO c) ++ [32])) (str [dgt (2 + i)]) k G = k (str ((((tx6 l i ++ [32]) ++ sgO c) ++ [32]) ++ [dgt (2 + i)])) G:=fun R ek k G=>sadd (by rw [List.length_append,List.length_append,List.length_append]; show _ + 1 + _ + 1 + 1≤_; omega)
   have hdg:=dgt_n (i:=i) (by omega)
   have hw : IntKind.u8.wrap (IntKind.i64.wrap (50 + (i : Int))) = ((dgt (2 + i)).toNat : Int):=by
    rw [hdg,wrap_i64 (by omega) (by omega)]
    show (50 + (i : Int)) % 256 = _
    omega
   have hlt : (i : Int) < (l.length : Int):=by omega
   have hlt8 : (i : Int) < 8:=by omega
   refine ⟨H2,(),g.trans g2,fun fr ⟨f0,f1,f5,f6,f7⟩ M hM R k res hr'=>?_⟩
   obtain ⟨m,rfl⟩:=fuel hM
   unfold Lp6a
   rw [run_loop]
   simp (disch:=first | omega | (simp only [List.length_cons,List.length_nil]; omega)) only [EX,reduceIte,Nat.reduceEqDiff,Nat.reduceAdd,Int.reduceEq,Int.reduceLT,Int.reduceLE,reduceCtorEq,Nat.reduceLeDiff,Nat.reduceSub,Nat.reduceLT,x_callv,clv_fn,x_mkfn,List.nil_append,List.append_nil,res_3,res_ct,res_ctt,f0,f1,f5,f6,f7,hl.len,hlt,hlt8,eix,ldb,ld0,e22,a1,eop,lopb,lop2,a2,a3,i_add,hw,Nat.add_zero]
   rw [← e2]
   simp only [EX,reduceIte,Nat.reduceEqDiff,Nat.reduceAdd,Int.reduceEq,Int.reduceLT,Int.reduceLE,reduceCtorEq,Nat.reduceLeDiff,Nat.reduceSub,Nat.reduceLT,x_callv,clv_fn,x_mkfn,List.nil_append,List.append_nil,res_3,res_ct,res_ctt,hb2]
   rw [hrd _ _ _ _ (by simp only [ev_T,V_S,Nat.reduceEqDiff,reduceIte])]
   simp only [EX,reduceIte,Nat.reduceEqDiff,Nat.reduceAdd,Int.reduceEq,Int.reduceLT,Int.reduceLE,reduceCtorEq,Nat.reduceLeDiff,Nat.reduceSub,Nat.reduceLT,x_callv,clv_fn,x_mkfn,List.nil_append,List.append_nil,res_3,res_ct,res_ctt,a4,f7,i_add,inc64 (show i < 1000000000000 by omega)]
   refine hr' _ ⟨?_,?_,?_,?_,?_⟩
   all_goals simp only [V_S,Nat.reduceEqDiff,reduceIte]
   all_goals first | assumption | (rw [hst]) | rfl)
  (min l.length 8) 0 H0 () (Nat.zero_add _) (Grow.refl _)
 exact ⟨H',g,e⟩
/-- Brackets about a text. -/
def brk (s : List UInt8) (k : Nat) : List UInt8:=List.replicate k 40 ++ s ++ List.replicate k 41
theorem brk_succ (s : List UInt8) (k : Nat) : brk s (k + 1) = ([40] ++ brk s k) ++ [41]:=by
 unfold brk
 rw [List.replicate_succ,List.replicate_succ']
 simp
theorem brk_len (s : List UInt8) (k : Nat) : (brk s k).length = s.length + 2 * k:=by
 unfold brk
 rw [List.length_append,List.length_append,List.length_replicate,List.length_replicate]
 omega
structure F6b (n : Int) (s : List UInt8) (i : Nat) (P : Tr AV→Prop) (fr : Tr AV) : Prop where
 f1 : V fr 1 = .i .i64 n
 f10 : V fr 10 = str s
 f11 : V fr 11 = .i .i64 (i : Int)
 r : P fr
theorem loop6b {H0 : Heap} {n : Int} {s : List UInt8} (hs : s.length≤100) {q8 v9 v6 : AV} :
  ∀ fr,F6b n (brk s 0) 0 (fun fr=>V fr 8 = q8∧V fr 9 = v9∧V fr 6 = v6) fr→∀ M,200 + (n % 5).toNat≤M→∀ (R : Type) (k : XK R) (res : Option R),(∀ fr',F6b n (brk s (n % 5).toNat) (n % 5).toNat (fun fr=>V fr 8 = q8∧V fr 9 = v9∧V fr 6 = v6) fr'→k (.exit 2) fr' H0 = res)→runK tbl M R Lp6b fr H0 k = res:=by
 have hm:=mod5 n
 have e22:=s22 (a:=n) (n:=5) (by decide) (by decide)
 exact loop_still (Lp:=Lp6b) (ex:=2) (n:=(n % 5).toNat) (c:=200) (H:=H0) (fun i fr=>F6b n (brk s i) i (fun fr=>V fr 8 = q8∧V fr 9 = v9∧V fr 6 = v6) fr)
  (fun fr ⟨f1,f10,f11,f8,f9,f6⟩ M hM R k res hr'=>by
   obtain ⟨m,rfl⟩:=fuel hM
   have hn : ¬ (((n % 5).toNat : Int) < n % 5):=by omega
   unfold Lp6b
   rw [run_loop]
   simp (disch:=first | omega | (simp only [List.length_cons,List.length_nil]; omega)) only [EX,reduceIte,Nat.reduceEqDiff,Nat.reduceAdd,Int.reduceEq,Int.reduceLT,Int.reduceLE,reduceCtorEq,Nat.reduceLeDiff,Nat.reduceSub,Nat.reduceLT,x_callv,clv_fn,x_mkfn,List.nil_append,List.append_nil,res_3,res_ct,res_ctt,f1,f11,e22,hn]
   refine hr' _ ⟨?_,?_,?_,?_,?_,?_⟩
   all_goals simp only [V_S,Nat.reduceEqDiff,reduceIte]
   all_goals assumption)
  (fun i hi fr ⟨f1,f10,f11,f8,f9,f6⟩ M hM R k res hr'=>by
   obtain ⟨m,rfl⟩:=fuel hM
   have hn : (i : Int) < n % 5:=by omega
   have hl:=brk_len s i
   have a1 : ∀ (R : Type) (ek : EK) (k : HK R) (G : Heap),binC .add ek (str [40]) (str (brk s i)) k G = k (str ([40] ++ brk s i)) G:=fun R ek k G=>sadd (by show 1 + _≤_; omega)
   have a2 : ∀ (R : Type) (ek : EK) (k : HK R) (G : Heap),binC .add ek (str ([40] ++ brk s i)) (str [41]) k G = k (str (([40] ++ brk s i) ++ [41])) G:=fun R ek k G=>sadd (by rw [List.length_append]; show 1 + _ + 1≤_; omega)
   unfold Lp6b
   rw [run_loop]
   simp (disch:=first | omega | (simp only [List.length_cons,List.length_nil]; omega)) only [EX,reduceIte,Nat.reduceEqDiff,Nat.reduceAdd,Int.reduceEq,Int.reduceLT,Int.reduceLE,reduceCtorEq,Nat.reduceLeDiff,Nat.reduceSub,Nat.reduceLT,x_callv,clv_fn,x_mkfn,List.nil_append,List.append_nil,res_3,res_ct,res_ctt,f1,f10,f11,e22,hn,a1,a2,i_add,inc64 (show i < 1000000000000 by omega)]
   refine hr' _ ⟨?_,?_,?_,?_,?_,?_⟩
   all_goals simp only [V_S,Nat.reduceEqDiff,reduceIte]
   all_goals first | assumption | (rw [brk_succ]) | rfl)
end Go.Proofs.YtgnfndhmfgghdaaGreatDoor

/- The law of brackets,whole. -/
namespace Go.Proofs.YtgnfndhmfgghdaaGreatDoor
open Go Go.Vai
set_option maxRecDepth 100000
set_option maxHeartbeats 6400000
set_option linter.unusedSimpArgs false
theorem TreeS.grow {S : Pa→Prop} {H H' : Heap} {cs : List AV} {e : Ex} (h : TreeS S H cs e) (g : Grow H H') : TreeS S H' cs e:=h.move (fun _ h _=>h) g.next fun a _ ha=>g.get a ha
/-- A tree into a new room. -/
theorem room_new {H : Heap} {cs : List AV} (sv : Sev cs) : ∃ G G',G = H.alloc (.cells false 0 35 7 (setCells [.i .i64 0,.b false,.i .i64 0,str [],str [],str [],.ns] 0 .leaf))∧Grow H G'∧Row G' H.next 35 cs∧H.next.toN < G'.next.toN∧∀ (R : Type) (k : HK R),stC 7 (.p H.next 0) (.ag cs) k G = k un G':=by
 obtain ⟨G,eG,g,r,n⟩:=ex_new H
 obtain ⟨G',r',b',n',e'⟩:=r.st_all (n:=7) n sv.1 rfl sv.2.1
 exact ⟨G,G',eG,b'.of g (Nat.le_refl _),r',by rw [n']; exact n,e'⟩
/-- The texts of the law,as pieces. -/
theorem txt_1 (l : List Int) (m : Nat) : tx6 l m = rend (ipc 1 (itsOf l m)):=(rend_ipc (itsOf l m) 1).symm
theorem rend_rep_o : ∀ (k : Nat) (ps : List Pc),rend (List.replicate k opn ++ ps) = List.replicate k 40 ++ rend ps
 | 0,ps=>rfl
 | k + 1,ps=>by
  show [40] ++ ([] ++ rend (List.replicate k opn ++ ps)) = 40 :: (List.replicate k 40 ++ rend ps)
  rw [rend_rep_o k ps]; rfl
theorem rend_rep_s : ∀ (k : Nat),rend (List.replicate k sht) = List.replicate k 41
 | 0=>rfl
 | k + 1=>by
  show [41] ++ ([] ++ rend (List.replicate k sht)) = 41 :: List.replicate k 41
  rw [rend_rep_s k]; rfl
def wrp (k : Nat) (its : List (Nat × Nat)) : List Pc:=List.replicate k opn ++ (ipc 1 its ++ List.replicate k sht)
theorem txt_2 (l : List Int) (m k : Nat) : brk (tx6 l m) k = rend (wrp k (itsOf l m)):=by
 unfold wrp brk
 rw [rend_rep_o,rend_app,rend_rep_s,txt_1,List.append_assoc]
def mulp (its : List (Nat × Nat)) : List Pc:=pNum 0 1 :: pSg [42] 1 :: wrp 1 its
theorem txt_3 (l : List Int) (m : Nat) : ([48,32,42,32,40] ++ tx6 l m) ++ [41] = rend (mulp (itsOf l m)):=by
 show _ = [dgt 0] ++ (List.replicate 1 32 ++ ([42] ++ (List.replicate 1 32 ++ rend (wrp 1 (itsOf l m)))))
 rw [← txt_2]
 unfold brk
 simp
 rfl
structure Rdy (ps : List Pc) (e : Ex) : Prop where
 p : Pall ps
 g : Gd ps
 n : nb (rend ps)
 l : ps.length≤200
 r : Rdz 7 (lab 0 ps) e []
 w : Wl e
 d : dep e≤10
theorem ready {its : List (Nat × Nat)} (ho : okI 1 its) (hl : its.length≤8) : ∃ e,Wl e∧dep e≤9∧(∀ k,k≤5→Rdy (wrp k its) e)∧Rdy (mulp its) (two 13 (numE 0) e)∧dep (two 13 (numE 0) e) = dep e + 1:=by
 obtain ⟨e,hw,hd,hr⟩:=wrp_read ho
 have hw2:=wl_two (o:=4) (by decide) (wl_num 0).1 hw
 have hd2 : dep (two 13 (numE 0) e) = dep e + 1:=by
  have h:=hw2.2
  have hn:=(wl_num 0).2
  have h1:=hw.d
  rw [hn] at h
  show dep (two (opO 4) (numE 0) e) = _
  rw [h]; omega
 have hgd : ∀ k,Gd (wrp k its)∧nb (rend (wrp k its)):=fun k=>by
  obtain ⟨g1,c1⟩:=gd_shts k
  have g2:=gd_ipc its 1 _ ho g1 c1
  refine gd_opns k _ g2 ?_
  intro b hb
  rw [rend_app,rend_ipc] at hb
  have hb : some (dgt 1) = some b:=hb
  cases hb
  exact ⟨by decide,by decide⟩
 have hpa : ∀ k,Pall (wrp k its):=fun k=>Pall.app (Pall.rep pok_opn k) (Pall.app (pok_ipc its 1 ho) (Pall.rep pok_sht k))
 have hln : ∀ k,k≤5→(wrp k its).length≤30:=fun k hk=>by
  unfold wrp
  rw [List.length_append,List.length_append,List.length_replicate,List.length_replicate,ipc_len]
  omega
 have hnil : wrp = fun k its=>List.replicate k opn ++ (ipc 1 its ++ (List.replicate k sht ++ [])):=by
  funext k its
  unfold wrp
  rw [List.append_nil]
 refine ⟨e,hw,by omega,fun k hk=>⟨hpa k,(hgd k).1,(hgd k).2,by have:=hln k hk; omega,?_,hw,by omega⟩,⟨?_,?_,?_,?_,?_,hw2.1,?_⟩,hd2⟩
 ·obtain ⟨a',z,_⟩:=hr k 0 [] (fun _=>noSg_nil)
  rw [hnil]
  exact z
 ·exact Pall.cons (pok_num (by decide) (by decide)) (Pall.cons (pok_sg (o:=4) (by decide) (by decide)) (hpa 1))
 ·refine ⟨fun a=>word_num (by decide) (fun b hb=>by cases hb; decide) a,List.cons_ne_nil _ _,fun b hb=>?_,fun a=>word_one (b:=42) (by decide) (fun q=>absurd q (by decide)) a,List.cons_ne_nil _ _,(hgd 1).2,(hgd 1).1⟩
  cases hb
  exact ⟨by decide,by decide⟩
 ·intro b hb
  cases hb
  exact ⟨by decide,by decide⟩
 ·have:=hln 1 (by decide)
  show (wrp 1 its).length + 1 + 1≤200
  omega
 ·obtain ⟨a',_,z⟩:=hr 1 (0 + (1 + 1) + (1 + 1)) [] (fun _=>noSg_nil)
  have z:=z (by decide)
  have hz : lab (0 + (1 + 1) + (1 + 1)) (wrp 1 its) = lab (0 + (1 + 1) + (1 + 1)) (List.replicate 1 opn ++ (ipc 1 its ++ (List.replicate 1 sht ++ []))):=by rw [hnil]
  rw [← hz] at z
  exact mul_read (t:=⟨2,[],0,0⟩) (s:=⟨4,[42],0,0 + (1 + 1)⟩) rfl rfl rfl rfl z rfl rfl noSg_nil
 ·rw [hd2]; omega
/-- What is read,put into a room. -/
theorem s19r {ps : List Pc} {e : Ex} (h : Rdy ps e) {H : Heap} (T : GlS H) : ∃ H' cs,Grow H H'∧TreeS (New H.next.toN) H' cs e∧∀ M,10000000≤M→∀ (R : Type) (k : HK R),callK tbl (runK tbl M) R (toPa 19) [str (rend ps)] H k = k (.tu [.ag cs,.i .i64 0]) H':=s19p h.p h.g h.n h.l h.r h.w h.d T
end Go.Proofs.YtgnfndhmfgghdaaGreatDoor

/- The walk of the law of brackets. -/
namespace Go.Proofs.YtgnfndhmfgghdaaGreatDoor
open Go Go.Vai
set_option maxRecDepth 100000
set_option maxHeartbeats 6400000
set_option linter.unusedSimpArgs false
theorem put_S {d : Nat} {v : AV} {t : Tr AV} : put (some (toPa d)) v t = S t d v:=id rfl
theorem vB_b {R : Type} {t : Bool} {f : Bool→Option R} : vB (.b t) f = f t:=id rfl
theorem law6 {H : Heap} (hf : Fresh H) (hG : GlS H) {xs : AV} {l : List Int} (hx : Ints H xs l) (n : Int) {M : Nat} (hM : 20000000≤M) : lawK tbl M (toPa 11) (.mk B6 [(.tmp (toPa 4))]) [xs,.i .i64 n] H = some ():=by
 obtain ⟨m,hm⟩ : ∃ m,m = min l.length 8:=⟨_,rfl⟩
 have hm8 : m≤8:=by omega
 obtain ⟨T,hw,hd,hk,h3,hd3⟩:=ready (itsOf_ok l hm8) (by rw [itsOf_len]; exact hm8)
 obtain ⟨k,hkk⟩ : ∃ k,k = (n % 5).toNat:=⟨_,rfl⟩
 have hk5 : k≤5:=by have:=mod5 n; omega
 have ht41:=tx6_le l hm8
 -- the signs
 obtain ⟨H1,eH1,g1,r1,e24⟩:=s24 H
 have n1:=next_alloc H (.cells false 0 52 15 (setCells opsL 0 .leaf))
 rw [← eH1] at n1
 -- the first text
 obtain ⟨H2,g2,eLa⟩:=loop6a (g1.dead hf) (hx.grow g1) (a:=H.next) (by omega) r1 (n:=n)
 rw [← hm] at eLa
 have T2:=hG.grow (g1.trans g2)
 have h1:=hk 0 (by decide)
 have et1 : rend (wrp 0 (itsOf l m)) = tx6 l m:=by rw [← txt_2]; unfold brk; simp
 obtain ⟨H3,c1,g3,tr1,e1⟩:=s19r h1 T2
 rw [et1] at e1
 have sv1:=tr1.sev
 obtain ⟨H4a,H4,eH4,g4,q4,n4,st4⟩:=room_new (H:=H3) sv1
 -- in brackets
 have T4:=T2.grow (g3.trans g4)
 obtain ⟨H5,c2,g5,tr2,e2⟩:=s19r (hk k hk5) T4
 rw [← txt_2] at e2
 have sv2:=tr2.sev
 obtain ⟨H6a,H6,eH6,g6,q6,n6,st6⟩:=room_new (H:=H5) sv2
 -- as a part
 have T6:=T4.grow (g5.trans g6)
 obtain ⟨H7,c3,g7,tr3,e3⟩:=s19r h3 T6
 rw [← txt_3] at e3
 have sv3:=tr3.sev
 obtain ⟨H8a,H8,eH8,g8,q8,n8,st8⟩:=room_new (H:=H7) sv3
 have g48:=g5.trans (g6.trans (g7.trans g8))
 have g68:=g7.trans g8
 have qa:=q4.grow g48 n4
 have qb:=q6.grow g68 n6
 have t1:=tr1.grow (g4.trans g48)
 have t2:=tr2.grow (g6.trans g68)
 have t3:=tr3.grow g8
 have la:=qa.la 7 sv1.1.symm
 have lb:=qb.la 7 sv2.1.symm
 obtain ⟨H9,g9,e21⟩:=s21 _ _ _ H8 c1 c2 T t1 t2 hw.p
 have la9:=(qa.grow g9 (by have:=g48.next; omega)).la 7 sv1.1.symm
 obtain ⟨H10,g10,e23⟩:=s23 _ _ H9 c1 T (t1.grow g9) hw.p (by omega)
 have g810:=g9.trans g10
 have hn8 : H3.next.toN < H8.next.toN:=by have:=g48.next; omega
 have hn8b : H7.next.toN < H8.next.toN:=n8
 have qa10:=qa.grow g810 hn8
 have q810:=q8.grow g810 hn8b
 have la10:=qa10.la 7 sv1.1.symm
 -- the part
 have t310:=t3.grow g810
 obtain ⟨xk,hc3,hkids⟩ : ∃ xk,c3 = ec 13 false 0 [] [] [] xk∧KidsE (New H6.next.toN) (ExIn (New H6.next.toN) H10 (deps [numE 0,T])) H10 xk [numE 0,T]:=by
  have h:=t310
  unfold TreeS two dep at h
  exact h
 obtain ⟨p7,c7,ix7,in7,ld7⟩:=kid_at hkids (j:=1) (e:=T) rfl
 have hdT : dep T≤deps [numE 0,T]:=dep_le (ks:=[numE 0,T]) (j:=1) rfl
 have s7:=in7.sev
 obtain ⟨H11,g11,e21b⟩:=s21 _ _ _ H10 c7 c1 T in7 (ExIn.up (t1.grow g810) hdT) hw.p
 have la11:=(qa10.grow g11 (by have:=g810.next; omega)).la 7 sv1.1.symm
 have q811:=q810.grow g11 (by have:=g810.next; omega)
 subst hc3
 have l0:=q810.l 0 (v:=.i .i64 13) rfl
 have l6:=q810.l 6 (v:=xk) rfl
 have l0b:=q811.l 0 (v:=.i .i64 13) rfl
 have l6b:=q811.l 6 (v:=xk) rfl
 have l7:=ld7 (Grow.refl H10)
 have l7b:=ld7 g11
 have ix7 : ∀ (R : Type) (K : HK R) (G : Heap),ixaC 7 xk (.i .i64 1) K G = K (.p p7 7) G:=ix7
 have l7 : ∀ (R : Type) (K : HK R),ldC true 7 (.p p7 7) K H10 = K (.ag c7) H10:=l7
 have l7b : ∀ (R : Type) (K : HK R),ldC true 7 (.p p7 7) K H11 = K (.ag c7) H11:=l7b
 have hde : dep (two 13 (numE 0) T) = deps [numE 0,T] + 1:=by unfold two dep; rfl
 have vx:=KidsE.av hkids
 have w7:=s7.2.2
 have w1:=sv1.2.2
 have hdp : ¬ ((dep T : Nat) : Int) = 10:=by omega
 have a1 : ∀ (R : Type) (ek : EK) (k : HK R) (G : Heap),binC .add ek (str [48,32,42,32,40]) (str (tx6 l m)) k G = k (str ([48,32,42,32,40] ++ tx6 l m)) G:=fun R ek k G=>sadd (by show 5 + _≤_; omega)
 have a2 : ∀ (R : Type) (ek : EK) (k : HK R) (G : Heap),binC .add ek (str ([48,32,42,32,40] ++ tx6 l m)) (str [41]) k G = k (str (([48,32,42,32,40] ++ tx6 l m) ++ [41])) G:=fun R ek k G=>sadd (by rw [List.length_append]; show 5 + _ + 1≤_; omega)
 rw [B6_eq]
 show guardK (Pa.same (toPa 11) (toPa 11)) (restK _ _ _ _ _ _ _ _ _ _) = _
 rw [same_id]
 show restK _ _ _ _ _ _ _ _ _ _ = _
 unfold restK
 rw [argsK_frame]
 obtain ⟨M,rfl⟩ : ∃ M',M = M' + 20000000:=⟨M - 20000000,by omega⟩
 simp (disch:=first | omega | (simp only [List.length_cons,List.length_nil]; omega)) only [EX,reduceIte,Nat.reduceEqDiff,Nat.reduceAdd,Int.reduceEq,Int.reduceLT,Int.reduceLE,reduceCtorEq,Nat.reduceLeDiff,Nat.reduceSub,Nat.reduceLT,x_callv,clv_fn,x_mkfn,List.nil_append,List.append_nil,res_3,res_ct,res_ctt,putK_eq,put_S,evK_eq,vB_b,e24]
 refine eLa _ ⟨?_,?_,?_,?_,?_⟩ _ (by omega) _ _ _ fun fr ⟨f0,f1,f5,f6,f7⟩=>?_
 ·simp only [V_S,Nat.reduceEqDiff,reduceIte]
 ·simp only [V_S,Nat.reduceEqDiff,reduceIte]
 ·simp only [V_S,Nat.reduceEqDiff,reduceIte]
 ·simp only [V_S,Nat.reduceEqDiff,reduceIte]; rfl
 ·simp only [V_S,Nat.reduceEqDiff,reduceIte]; rfl
 subst eH4 eH6 eH8
 simp (disch:=first | omega | (simp only [List.length_cons,List.length_nil]; omega)) only [EX,reduceIte,Nat.reduceEqDiff,Nat.reduceAdd,Int.reduceEq,Int.reduceLT,Int.reduceLE,reduceCtorEq,Nat.reduceLeDiff,Nat.reduceSub,Nat.reduceLT,x_callv,clv_fn,x_mkfn,List.nil_append,List.append_nil,res_3,res_ct,res_ctt,f6,e1,ext_2,st4]
 refine loop6b (n:=n) (s:=tx6 l m) (by omega) (q8:=.p H3.next 0) (v9:=.i .i64 0) (v6:=str (tx6 l m)) _ ⟨?_,?_,?_,?_,?_,?_⟩ _ (by have:=mod5 n; omega) _ _ _ fun fr2 ⟨b1,b10,b11,b8,b9,b6⟩=>?_
 ·simp only [V_S,Nat.reduceEqDiff,reduceIte]; exact f1
 ·simp only [V_S,Nat.reduceEqDiff,reduceIte]; unfold brk; simp
 ·simp only [V_S,Nat.reduceEqDiff,reduceIte]; rfl
 ·simp only [V_S,Nat.reduceEqDiff,reduceIte]
 ·simp only [V_S,Nat.reduceEqDiff,reduceIte]
 ·simp only [V_S,Nat.reduceEqDiff,reduceIte]; exact f6
 rw [← hkk] at b10 b11
 simp (maxSteps:=2000000) (disch:=first | omega | (simp only [List.length_cons,List.length_nil]; omega)) only [EX,reduceIte,Nat.reduceEqDiff,Nat.reduceAdd,Int.reduceEq,Int.reduceLT,Int.reduceLE,reduceCtorEq,Nat.reduceLeDiff,Nat.reduceSub,Nat.reduceLT,x_callv,clv_fn,x_mkfn,List.nil_append,List.append_nil,res_3,res_ct,res_ctt,b10,b8,b9,b6,e2,ext_2,st6,a1,a2,e3,st8,la,lb,e21,la9,e23,hdp,la10,l0,l6,ix7,l7,e21b,la11,l0b,l6b,l7b,vx,w7,w1]
 rfl
end Go.Proofs.YtgnfndhmfgghdaaGreatDoor

/- What is laid of the program's variables; the chapter's example; the law of brackets,of any that are read. No condition but what is laid. -/
namespace Go.Proofs.YtgnfndhmfgghdaaGreatDoor
open Go Go.Vai
set_option maxRecDepth 100000
set_option maxHeartbeats 1600000
def Rows_3 : List Int:=[0,0,0,0,0,0,0,0,0,1,1,1,1,1,0,0,0,0,0,0,0,0,0,0,0,0,0,0,0,0,0,0,1] ++ List.replicate 223 0
def lk : List (Nat × List AV):=[(3,Rows_3.map fun z=>.i .u8 z)]
theorem gsz : Tryz.prog.globals.size = 9:=by kernel_rfl
noncomputable def H0 : Heap:=begin_ 9 lk
theorem H0_eq : begin_ Tryz.prog.globals.size lk = H0:=by rw [gsz]; rfl
theorem cells3 : Tryz.prog.cellsOf 3 = 1:=by kernel_rfl
theorem cells22 : Tryz.prog.cellsOf 22 = 1:=by kernel_rfl
section
variable {HT : Type} {enc : TypeId × Value→HT} {W : World} {sp : Nat→Bool}
/-- What is had when some of the input is laid. -/
structure Laid (W : World) (ng : Nat) (ι ι' : Emb) (H H' : Heap) : Prop where
 ext : Ext ι ι'
 g : Grow H H'
 nw : NoWr H'
 r : Rel (keepAll W) ng ι' H' W.heap
theorem Laid.refl {ng : Nat} {ι : Emb} {H : Heap} (R : Rel (keepAll W) ng ι H W.heap) (hw : NoWr H) : Laid W ng ι ι H H:=⟨Ext.refl _,Grow.refl _,hw,R⟩
theorem Laid.trans {ng : Nat} {ι ι' ι'' : Emb} {H H' H'' : Heap} (h : Laid W ng ι ι' H H') (h' : Laid W ng ι' ι'' H' H'') : Laid W ng ι ι'' H H'':=⟨h.ext.trans h'.ext,h.g.trans h'.g,h'.nw,h'.r⟩
def SomeCells (W : World) : Prop:=∃ (b e : Nat) (cs : Array Value) (f : Nat × Nat),W.heap[b]? = some (.cells cs e f)
/-- All places of a slice that is read,its spare ones too. -/
theorem all_read {e : TypeId} {a : Addr} {len cap n : Nat} {elems rest : List (DataW HT × List MemPlace)} (hl : elems.length = len)
  (h1 : ∀ i,i < len→(W.cells? 0 (a.add (i * Tryz.prog.cellsOf e)) (Tryz.prog.cellsOf e)).bind (DataW.trod enc Tryz.prog W 0 (fun _=>true) true n e) = elems[i]?)
  (h2 : rest.length = cap - len∧∀ j,j < cap - len→(W.cells? 0 (a.add ((len + j) * Tryz.prog.cellsOf e)) (Tryz.prog.cellsOf e)).bind (DataW.trod enc Tryz.prog W 0 (fun _=>true) true n e) = rest[j]?) :
  (∀ i,i < cap→∃ l,W.cells? 0 (a.add (i * Tryz.prog.cellsOf e)) (Tryz.prog.cellsOf e) = some l)∧∀ i,i < len→∃ l x,W.cells? 0 (a.add (i * Tryz.prog.cellsOf e)) (Tryz.prog.cellsOf e) = some l∧DataW.trod enc Tryz.prog W 0 (fun _=>true) true n e l = some x:=by
 have q1 : ∀ i,i < len→∃ l x,W.cells? 0 (a.add (i * Tryz.prog.cellsOf e)) (Tryz.prog.cellsOf e) = some l∧DataW.trod enc Tryz.prog W 0 (fun _=>true) true n e l = some x:=by
  intro i hi
  have:=h1 i hi
  rw [List.getElem?_eq_getElem (by omega),Option.bind_eq_some_iff] at this
  obtain ⟨l,e1,e2⟩:=this
  exact ⟨l,_,e1,e2⟩
 refine ⟨fun i hi=>?_,q1⟩
 by_cases hlt : i < len
 ·obtain ⟨l,x,e1,_⟩:=q1 i hlt; exact ⟨l,e1⟩
 ·have:=h2.2 (i - len) (by omega)
  rw [show len + (i - len) = i by omega,List.getElem?_eq_getElem (by omega),Option.bind_eq_some_iff] at this
  obtain ⟨l,e1,_⟩:=this
  exact ⟨l,e1⟩
/-- Numbers. -/
theorem ints_of {n : Nat} : ∀ (ls : List (List Value)),(∀ l ∈ ls,∃ x,DataW.trod enc Tryz.prog W 0 (fun _=>true) true n 3 l = some x)→∃ zs : List Int,zs.length = ls.length∧∀ (i : Nat) (l : List Value),ls[i]? = some l→∃ z,zs[i]? = some z∧l = [Value.int .i64 z]
 | [],_=>⟨[],rfl,fun i l h=>by cases h⟩
 | l :: ls,h=>by
  obtain ⟨zs,h1,h2⟩:=ints_of ls fun x hx=>h x (List.mem_cons_of_mem _ hx)
  obtain ⟨x,hx⟩:=h l (List.mem_cons_self ..)
  obtain ⟨z,hz,_⟩:=DataW.trod_int Tryz.underlying3 hx
  refine ⟨z :: zs,by rw [List.length_cons,List.length_cons,h1],fun i l' hi=>?_⟩
  cases i with
  | zero=>cases hi; exact ⟨z,rfl,hz⟩
  | succ i=>exact h2 i l' hi
/-- The places' cells,in a list. -/
theorem list_of {n : Nat} {f : Nat→Option (List Value)} (h : ∀ i,i < n→∃ l,f i = some l) : ∃ ls : List (List Value),ls.length = n∧∀ (i : Nat) (l : List Value),i < n→f i = some l→ls[i]? = some l:=by
 refine ⟨(List.range n).map fun i=>(f i).getD [],by rw [List.length_map,List.length_range],fun i l hi hf=>?_⟩
 rw [List.getElem?_map,List.getElem?_range hi]
 show some ((f i).getD []) = some l
 rw [hf]; rfl
theorem ints_in (hk : SomeCells W) {ng fuel : Nat} {cs : List Value} {x : DataW HT × List MemPlace} (h : DataW.trod enc Tryz.prog W 0 (fun _=>true) true fuel 22 cs = some x) {ι : Emb} {H : Heap} (R : Rel (keepAll W) ng ι H W.heap) (hw : NoWr H) :
  ∃ (H' : Heap) (ι' : Emb) (xs : AV) (v : Value) (s : List Int),Laid W ng ι ι' H H'∧cs = [v]∧VR ι' xs v∧Ints H' xs s:=by
 rcases DataW.trod_slice Tryz.underlying22 h with ⟨hc,_⟩ | ⟨a,len,cap,elems,rest,n,_,hc,_,_,hlc,_,hl,h1,h2,_⟩
 ·exact ⟨H,ι,.ns,_,[],Laid.refl R hw,hc,rfl,Or.inl ⟨rfl,rfl⟩⟩
 ·obtain ⟨r1,r2⟩:=all_read hl h1 (h2 rfl)
  rw [cells3] at r1 r2
  obtain ⟨ls,k1,k2⟩:=list_of (n:=len) fun i hi=>by obtain ⟨l,x,e1,_⟩:=r2 i hi; exact ⟨l,e1⟩
  obtain ⟨zs,z1,z2⟩:=ints_of (n:=n) (enc:=enc) (W:=W) ls fun l hl2=>by
   obtain ⟨i,hi⟩:=List.mem_iff_getElem?.mp hl2
   have hil : i < len:=by rw [← k1]; exact (List.getElem?_eq_some_iff.mp hi).1
   obtain ⟨l',x,e1,e2⟩:=r2 i hil
   have:=k2 i l' hil e1
   rw [this] at hi; cases hi
   exact ⟨x,e2⟩
  have zz:=fun (l : List AV) (hl3 : l ∈ zs.map fun z=>([.i .i64 z] : List AV))=>(show l.length = 1 by obtain ⟨z,_,rfl⟩:=List.mem_map.mp hl3; rfl)
  have hzl : (zs.map fun z=>([.i .i64 z] : List AV)).length = len:=by rw [List.length_map,z1,k1]
  obtain ⟨ι',x1,x2,x3,x4⟩:=R.slice hw hk (z:=1) (by decide) hlc r1 (ass:=zs.map fun z=>[.i .i64 z]) hzl (fun i l bs hi hl3 hb=>by
   obtain ⟨z,e1,e2⟩:=z2 i l (k2 i l hi hl3)
   rw [List.getElem?_map,e1] at hb
   cases hb
   subst e2
   exact ⟨_,[],rfl,rfl,rfl⟩) zz
  obtain ⟨f1,f2⟩:=flat_at zz
  have hnx:=next_alloc H (.cells true 0 0 (zs.map fun z=>([.i .i64 z] : List AV)).flatten.length (setCells (zs.map fun z=>([.i .i64 z] : List AV)).flatten 0 .leaf))
  refine ⟨_,ι',_,_,zs,⟨x1,Grow.alloc H _,x2,x3⟩,hc,x4,Or.inr ⟨H.next,0,true,0,0,_,_,by rw [z1,k1],by omega,get_alloc H _,by rw [f1,hzl,z1,k1]; omega,fun j hj=>?_⟩⟩
  rw [Nat.zero_add,cell_at]
  have:=f2 j 0 (by decide)
  rw [Nat.mul_one,Nat.add_zero,List.getElem?_map] at this
  rw [this,List.getElem?_eq_getElem hj]; rfl
end
set_option maxRecDepth 1000000 in
theorem known_run : goK tbl 100000 (toPa 11) [] H0 yesK = some ():=by kernel_rfl
theorem lk_lt : ∀ x ∈ lk,x.1 < Tryz.prog.globals.size:=by
 rw [gsz]; unfold lk
 intro x hx
 simp only [List.mem_cons,List.not_mem_nil,or_false] at hx
 subst hx
 decide
/-- The chapter's example. -/
theorem known_ok (w : World) (hn : Tryz.prog.globals.size≤w.heap.size) (hl : ∀ x ∈ lk,Knows w x) : Calls Tryz.prog 11 #[] w fun e w'=>e = .returned (.bool true)∧Go.RowKit.Below w.heap.size w w' :=
 walk_of tbl_ok (args:=[]) hn (fun x hx=>⟨lk_lt x hx,hl x hx⟩) (fun _=>rfl) (by rw [H0_eq]; exact known_run)
theorem c6_eq : c6 = .mk B6 [(.tmp (toPa 4))]:=by kernel_rfl
theorem h0_get (p : Pa) : H0.get p = .dead ∨ ∃ x ∈ lk,p = toPa x.1∧H0.get p = .cells true 0 0 x.2.length (setCells x.2 0 .leaf):=by
 rcases begin_get lk .leaf p with h | h
 ·rw [Tr.get_leaf] at h; exact .inl h
 ·exact .inr h
theorem nw0 : NoWr H0:=by
 intro p
 rcases h0_get p with h | ⟨x,_,_,h⟩
 ·rw [h]; rfl
 ·rw [h]; rfl
theorem h0_next : H0.next.toN = 9:=toN_toPa 9
theorem h0_3 : H0.get (toPa 3) = .cells true 0 0 256 (setCells (Rows_3.map fun z=>.i .u8 z) 0 .leaf):=by kernel_rfl
theorem sp_at : ∀ j,j < 256→Rows_3[j]? = some ((spN j : Nat) : Int):=by decide +kernel
theorem gl0 : GlS H0:=by
 refine ⟨by rw [h0_next,toN_toPa]; decide,true,0,0,_,h0_3,fun j hj=>?_⟩
 rw [cell_at,List.getElem?_map,sp_at j hj]; rfl
theorem some_cells {W : World} (hl : ∀ x ∈ lk,Knows W x) : SomeCells W:=by
 obtain ⟨cs,e,f,h,_⟩:=hl _ (List.mem_cons_self ..)
 exact ⟨_,e,cs,f,h⟩
/-- THE WALK of ParseBrackets. -/
theorem walk6 {HT : Type} {enc : TypeId × Value→HT} {W : World} (hn : Tryz.prog.globals.size≤W.heap.size) (hl : ∀ x ∈ lk,Knows W x) {fu0 : Nat} {v0 : Value} {n : Int} {d0 : DataW HT × List MemPlace}
  (h0 : DataW.trod enc Tryz.prog W 0 (fun _=>true) true fu0 22 [v0] = some d0) :
  Calls Tryz.prog 6 #[v0,.int .i64 n] W fun e w'=>e = .returned (.bool true)∧Go.RowKit.Below W.heap.size W w':=by
 have R0:=begin_rel (l:=lk) hn fun x hx=>⟨lk_lt x hx,hl x hx⟩
 rw [H0_eq] at R0
 have hk:=some_cells hl
 obtain ⟨H1,ι1,x0,w0,l0,L1,e0,r0,q0⟩:=ints_in hk h0 R0 nw0
 cases e0
 have hG:=gl0.grow L1.g
 have hv : VRs ι1 [x0,.i .i64 n] (#[v0,.int .i64 n] : Array Value).toList:=⟨_,_,rfl,r0,_,_,rfl,rfl,rfl⟩
 refine law_on tbl_ok (fuel:=20000000) (kn:=11) (args:=[x0,.i .i64 n]) Tryz.func6 L1.r hn (fun x hx=>⟨lk_lt x hx,hl x hx⟩) hv known_ok ?_
 have e : (compF Tryz.prog Tryz.f6).getD dfl = .mk B6 [(.tmp (toPa 4))]:=c6_eq
 rw [e]
 exact law6 L1.r.freshH hG q0 n (Nat.le_refl _)
end Go.Proofs.YtgnfndhmfgghdaaGreatDoor
