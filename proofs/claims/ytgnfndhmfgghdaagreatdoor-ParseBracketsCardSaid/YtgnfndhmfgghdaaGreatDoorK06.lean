/- A verified interpreter of the model's code, and what the functions that read expressions tell by it: part 6 (Vaio, Vaip, Vaiq, Vair, Vais, Vait, Vaiu, Vaiv). No condition but those that each statement bears. -/
import Derived.Test.YtgnfndhmfgghdaaGreatDoorK05
import Derived.ChangeArms
set_option linter.unusedVariables false
set_option linter.unusedSimpArgs false
set_option linter.unusedSectionVars false
set_option linter.constructorNameAsVariable false
set_option linter.unnecessarySimpa false
/- VAI,part o: a region that draws,step by step at values that are not closed. -/
namespace Go.Vai
section
variable {R : Type}
noncomputable def twoK : HK (AV × Heap):=fun v H=>some (v,H)
noncomputable def dirC (x : Option (AV × Heap)) (k : HK R) : Option R:=Option.casesOn x none fun p=>Prod.casesOn p k
theorem dir_pair {v : AV} {H : Heap} {k : HK R} : dirC (twoK v H) k = k v H:=id rfl
theorem guard_t {x : Option R} : guardK true x = x:=id rfl
/-! Ids that are kept. -/
noncomputable def ids : Nat→Pa→List Pa
 | 0,_=>[]
 | n + 1,p=>p :: ids n p.succ
noncomputable def skip : Nat→Pa→Pa
 | 0,p=>p
 | n + 1,p=>skip n p.succ
noncomputable def Heap.bump (n : Nat) (H : Heap) : Heap:=Heap.casesOn H fun nx t=>⟨skip n nx,t⟩
theorem skip_toN : ∀ (n : Nat) (p : Pa),(skip n p).toN = p.toN + n
 | 0,_=>rfl
 | n + 1,p=>by show (skip n p.succ).toN = _; rw [skip_toN,Pa.toN_succ]; omega
theorem get_bump {n : Nat} {H : Heap} {a : Pa} : (H.bump n).get a = H.get a:=by cases H; rfl
theorem next_bump {n : Nat} {H : Heap} : (H.bump n).next.toN = H.next.toN + n:=by cases H; exact skip_toN _ _
theorem Grow.bump (n : Nat) (H : Heap) : Grow H (H.bump n):=⟨by rw [next_bump]; omega,fun _ _=>get_bump,fun f a ha=>by rw [get_bump]; rw [next_bump] at ha; exact f a (by omega)⟩
theorem next_put {H : Heap} {a : Pa} {b : Blk} : (H.put a b).next = H.next:=by cases H; rfl
/-- A block put at a place that was kept. -/
theorem Grow.put {H0 H : Heap} (g : Grow H0 H) {a : Pa} (ha : H0.next.toN≤a.toN) (hb : a.toN < H.next.toN) (b : Blk) : Grow H0 (H.put a b) :=
 ⟨by rw [next_put (H:=H) (a:=a) (b:=b)]; exact g.next,fun c hc=>by rw [Heap.get_put,if_neg (by intro e; rw [e] at ha; omega),g.get c hc],
  fun f c hc=>by rw [next_put] at hc; rw [Heap.get_put,if_neg (by intro e; rw [e] at hb; omega)]; exact g.dead f c hc⟩
theorem get_put {H : Heap} {a : Pa} {b : Blk} : (H.put a b).get a = b:=by rw [Heap.get_put,if_pos rfl]
theorem keep_eq {R : Type} : ∀ (n : Nat) (p : Pa) (k : List Pa→Pa→Option R),keepK n p k = k (ids n p) (skip n p)
 | 0,_,_=>rfl
 | n + 1,p,k=>by
  show succK p (fun q=>keepK n q fun l r=>k (p :: l) r) = _
  rw [succK_eq,keep_eq n]; rfl
theorem ids_0 {p : Pa} : ids 0 p = []:=id rfl
theorem ids_1 {p : Pa} : ids 1 p = [p]:=id rfl
theorem ids_2 {p : Pa} : ids 2 p = [p,p.succ]:=id rfl
theorem ids_3 {p : Pa} : ids 3 p = [p,p.succ,p.succ.succ]:=id rfl
section
variable {call : Call1} {fr : Tr AV} {H : Heap} {l : List (AI × DI)} {Gs : List Heap} {n lo : Nat} {is : List Pa} {kk : FK R} {o : AOp} {d : Nat}
theorem draw_eq {nA : Nat} : draw0K call nA l fr H kk = drawK call l fr (H.bump nA) [H.bump nA] 0 (ids nA H.next) kk:=by
 cases H with
 | mk nx t =>
 show keepK nA nx (fun ids nx=>drawK call l fr ⟨nx,t⟩ [⟨nx,t⟩] 0 ids kk) = _
 rw [keep_eq]; rfl
noncomputable def dp0 (d : Nat) (call : Call1) (l : List (AI × DI)) (fr : Tr AV) (H : Heap) (Gs : List Heap) (n : Nat) (is : List Pa) (kk : FK R) : HK R:=fun v _=>drawK call l (S fr d v) H Gs n is kk
noncomputable def dpR (o : AOp) (lo d : Nat) (call : Call1) (l : List (AI × DI)) (fr : Tr AV) (H : Heap) (Gs : List Heap) (n : Nat) (is : List Pa) (kk : FK R) : HK R :=
 fun v _=>guardK (readOk o fr v lo Gs n) (drawK call l (S fr d v) H Gs n is kk)
noncomputable def dp3 (d : Nat) (call : Call1) (l : List (AI × DI)) (fr : Tr AV) (Gs : List Heap) (n : Nat) (is : List Pa) (kk : FK R) : HK R:=fun v H=>drawK call l (S fr d v) H (H :: Gs) (n + 1) is kk
noncomputable def dp3_ (call : Call1) (l : List (AI × DI)) (fr : Tr AV) (Gs : List Heap) (n : Nat) (is : List Pa) (kk : FK R) : HK R:=fun _ H=>drawK call l fr H (H :: Gs) (n + 1) is kk
noncomputable def dmk (d e sz len : Nat) (i : Pa) (call : Call1) (l : List (AI × DI)) (fr : Tr AV) (H : Heap) (Gs : List Heap) (n : Nat) (is : List Pa) (kk : FK R) : List AV→Option R :=
 fun cs=>drawK call l (S fr d (.sl i 0 len (some len) sz)) (H.put i (.cells false 0 e cs.length (setCells cs 0 .leaf))) Gs n is kk
theorem dr_nil : drawK call [] fr H Gs n is kk = kk fr H:=id rfl
theorem dr_0 : drawK call ((O d o,⟨0,lo⟩) :: l) fr H Gs n is kk = dirC (xopK o (call _) fr H twoK) (dp0 d call l fr H Gs n is kk):=by
 show dirC (xopK o (call _) fr H twoK) (fun v _=>putK (some (toPa d)) v fr fun fr=>drawK call l fr H Gs n is kk) = _
 simp only [putK_eq]; rfl
theorem dr_1 : drawK call ((O d o,⟨1,lo⟩) :: l) fr H Gs n is kk = dirC (xopK o (call _) fr H twoK) (dpR o lo d call l fr H Gs n is kk):=by
 show dirC (xopK o (call _) fr H twoK) (fun v _=>guardK (readOk o fr v lo Gs n) (putK (some (toPa d)) v fr fun fr=>drawK call l fr H Gs n is kk)) = _
 simp only [putK_eq]; rfl
theorem dr_3 : drawK call ((O d o,⟨3,lo⟩) :: l) fr H Gs n is kk = dirC (xopK o (call _) fr H twoK) (dp3 d call l fr Gs n is kk):=by
 show dirC (xopK o (call _) fr H twoK) (fun v H=>putK (some (toPa d)) v fr fun fr=>forceN (Nat.succ n) fun n=>drawK call l fr H (H :: Gs) n is kk) = _
 simp only [putK_eq,forceN_eq]; rfl
theorem dr_3_ : drawK call ((O_ o,⟨3,lo⟩) :: l) fr H Gs n is kk = dirC (xopK o (call _) fr H twoK) (dp3_ call l fr Gs n is kk):=by
 show dirC (xopK o (call _) fr H twoK) (fun v H=>putK none v fr fun fr=>forceN (Nat.succ n) fun n=>drawK call l fr H (H :: Gs) n is kk) = _
 simp only [putK_eq,forceN_eq]; rfl
theorem dr_new {e : Nat} {zs : List AV} {i : Pa} : drawK call ((O d (.new e zs),⟨2,lo⟩) :: l) fr H Gs n (i :: is) kk = drawK call l (S fr d (.p i 0)) (H.put i (.cells false 0 e zs.length (setCells zs 0 .leaf))) Gs n is kk:=by
 show setCellsK zs 0 .leaf (fun c=>forceN (lenK zs) fun m=>H.putK i (.cells false 0 e m c) fun H=>putK (some (toPa d)) (.p i 0) fr fun fr=>drawK call l fr H Gs n is kk) = _
 rw [setCellsK_eq,forceN_eq,Heap.putK_eq,putK_eq,lenK_eq]; rfl
theorem dr_bsl {e sz len : Nat} {zs : List AV} {ps : List (Nat × Nat × Opd)} {i : Pa} :
  drawK call ((O d (.bsl e sz len zs ps),⟨2,lo⟩) :: l) fr H Gs n (i :: is) kk = fillV (ps.map fun p=>(p.1,p.2.1,ev fr p.2.2)) zs (dmk d e sz len i call l fr H Gs n is kk):=by
 show fillK fr ps zs (fun cs=>setCellsK cs 0 .leaf fun c=>forceN (lenK cs) fun m=>H.putK i (.cells false 0 e m c) fun H=>putK (some (toPa d)) (.sl i 0 len (some len) sz) fr fun fr=>drawK call l fr H Gs n is kk) = _
 rw [fillK_V]
 congr 1
 funext cs
 rw [setCellsK_eq,forceN_eq,Heap.putK_eq,putK_eq,lenK_eq]; rfl
theorem dp0_ap {v : AV} {H' : Heap} : dp0 d call l fr H Gs n is kk v H' = drawK call l (S fr d v) H Gs n is kk:=id rfl
theorem dpR_ap {v : AV} {H' : Heap} : dpR o lo d call l fr H Gs n is kk v H' = guardK (readOk o fr v lo Gs n) (drawK call l (S fr d v) H Gs n is kk):=id rfl
theorem dp3_ap {v : AV} : dp3 d call l fr Gs n is kk v H = drawK call l (S fr d v) H (H :: Gs) (n + 1) is kk:=id rfl
theorem dp3__ap {v : AV} : dp3_ call l fr Gs n is kk v H = drawK call l fr H (H :: Gs) (n + 1) is kk:=id rfl
theorem dmk_ap {e sz len : Nat} {i : Pa} {cs : List AV} : dmk d e sz len i call l fr H Gs n is kk cs = drawK call l (S fr d (.sl i 0 len (some len) sz)) (H.put i (.cells false 0 e cs.length (setCells cs 0 .leaf))) Gs n is kk:=id rfl
/-- One that is asked for under a slot. -/
noncomputable def dgo (v : AV) (w : Bool) (d cls lo : Nat) (o : AOp) (call : Call1) (l : List (AI × DI)) (fr : Tr AV) (H : Heap) (Gs : List Heap) (n : Nat) (is : List Pa) (kk : FK R) : Option R :=
 wantV v w fun t=>Bool.casesOn t (dNo cls (some (toPa d)) fr H Gs n is fun fr H Gs n is=>drawK call l fr H Gs n is kk) (dYes cls lo o (some (toPa d)) call fr H Gs n is fun fr H Gs n is=>drawK call l fr H Gs n is kk)
section
variable {cls p : Nat} {w : Bool}
theorem dr_G : drawK call ((G d p w o,⟨cls,lo⟩) :: l) fr H Gs n is kk = dgo (V fr p) w d cls lo o call l fr H Gs n is kk:=by
 show getK un (toPa p) fr (fun v=>wantV v w _) = _
 rw [getK_eq]; rfl
theorem dgo_tt : dgo (.b true) true d cls lo o call l fr H Gs n is kk = drawK call ((O d o,⟨cls,lo⟩) :: l) fr H Gs n is kk:=id rfl
theorem dgo_ff : dgo (.b false) false d cls lo o call l fr H Gs n is kk = drawK call ((O d o,⟨cls,lo⟩) :: l) fr H Gs n is kk:=id rfl
/-- Passed over. -/
noncomputable def dno (cls d : Nat) (call : Call1) (l : List (AI × DI)) (fr : Tr AV) (H : Heap) (Gs : List Heap) (n : Nat) (is : List Pa) (kk : FK R) : Option R :=
 dNo cls (some (toPa d)) fr H Gs n is fun fr H Gs n is=>drawK call l fr H Gs n is kk
theorem dgo_tf : dgo (.b true) false d cls lo o call l fr H Gs n is kk = dno cls d call l fr H Gs n is kk:=id rfl
theorem dgo_ft : dgo (.b false) true d cls lo o call l fr H Gs n is kk = dno cls d call l fr H Gs n is kk:=id rfl
theorem dgo_un {vs : List AV} : dgo (.tu vs) w d cls lo o call l fr H Gs n is kk = dno cls d call l fr H Gs n is kk:=id rfl
theorem dno_0 : dno 0 d call l fr H Gs n is kk = drawK call l (S fr d un) H Gs n is kk:=by
 show putK (some (toPa d)) un fr (fun fr=>drawK call l fr H Gs n is kk) = _
 rw [putK_eq]; rfl
theorem dno_1 : dno 1 d call l fr H Gs n is kk = drawK call l (S fr d un) H Gs n is kk:=by
 show putK (some (toPa d)) un fr (fun fr=>drawK call l fr H Gs n is kk) = _
 rw [putK_eq]; rfl
theorem dno_2 {i : Pa} : dno 2 d call l fr H Gs n (i :: is) kk = drawK call l (S fr d un) H Gs n is kk:=by
 show putK (some (toPa d)) un fr (fun fr=>drawK call l fr H Gs n is kk) = _
 rw [putK_eq]; rfl
theorem dno_3 : dno 3 d call l fr H Gs n is kk = drawK call l (S fr d un) H (H :: Gs) (n + 1) is kk:=by
 show putK (some (toPa d)) un fr (fun fr=>forceN (Nat.succ n) fun n=>drawK call l fr H (H :: Gs) n is kk) = _
 rw [putK_eq,forceN_eq]; rfl
end
end
/-! Read again in the other memories. -/
section
variable {o : AOp} {fr : Tr AV} {v : AV} {lo n : Nat} {Gs : List Heap}
theorem read_lo (h : lo < 1000000) : readOk o fr v lo Gs n = sameAll o fr v lo Gs n:=by
 unfold readOk
 cases e : Nat.ble HM lo with
 | false=>rfl
 | true=>have : 1000000≤lo:=Nat.le_of_ble_eq_true e; omega
theorem read_hm (h : 1000000≤lo) (h2 : homeOk o fr Gs = true) : readOk o fr v lo Gs n = true:=by
 unfold readOk
 rw [Nat.ble_eq_true_of_le (show HM≤lo from h),h2]
/-- A load of a block that was not there in the last memory that was kept. -/
theorem home_ld {g : Bool} {m : Nat} {x : Opd} {G : Heap} {a : Pa} {off : Nat} (h : ev fr x = .p a off) (hd : G.get a = .dead) : homeOk (.ld g m x) fr (G :: Gs) = true:=by
 show oB (evK fr x fun v=>some (home1 (G :: Gs) v)) = true
 rw [evK_eq,h]
 show oB (G.getK a fun b=>some (isDead b)) = true
 rw [Heap.getK_eq,hd]; rfl
theorem home_b2s {x : Opd} {G : Heap} {a : Pa} {off len sz : Nat} {c : Option Nat} (h : ev fr x = .sl a off len c sz) (hd : G.get a = .dead) : homeOk (.b2s x) fr (G :: Gs) = true:=by
 show oB (evK fr x fun v=>some (home2 (G :: Gs) v)) = true
 rw [evK_eq,h]
 show oB (G.getK a fun b=>some (isDead b)) = true
 rw [Heap.getK_eq,hd]; rfl
end
noncomputable def sameC (v : AV) (x : Option (AV × Heap)) : Bool:=optB x (avEq v)
theorem same_pair {v v' : AV} {H : Heap} : sameC v (twoK v' H) = avEq v v':=id rfl
section
variable {o : AOp} {fr : Tr AV} {v : AV} {lo n : Nat} {Hh : Heap} {Gs : List Heap}
theorem same_nil : sameAll o fr v lo [] n = true:=id rfl
theorem same_cons : sameAll o fr v lo (Hh :: Gs) n = if lo≤n then (sameC v (xopK o noCall fr Hh twoK) && sameAll o fr v lo Gs (n - 1)) else true:=by
 show (Bool.casesOn (Nat.ble lo n) true (Bool.casesOn (sameC v (xopK o noCall fr Hh twoK)) false (sameAll o fr v lo Gs (n - 1))) : Bool) = _
 by_cases h : lo≤n
 ·rw [if_pos h,Nat.ble_eq_true_of_le h]
  cases sameC v (xopK o noCall fr Hh twoK) <;> rfl
 ·rw [if_neg h]
  cases e : Nat.ble lo n with
  | true=>exact (h (Nat.le_of_ble_eq_true e)).elim
  | false=>rfl
end
theorem same_id : ∀ p : Pa,p.same p = true:=by
 intro p
 induction p with
 | h=>rfl
 | l p ih=>exact ih
 | r p ih=>exact ih
theorem avEq_b {x : Bool} : avEq (.b x) (.b x) = true:=by cases x <;> rfl
theorem avEq_i {kd : IntKind} {x : Int} : avEq (.i kd x) (.i kd x) = true:=by
 show (Bool.casesOn (Nat.beq (kix kd) (kix kd)) false (iEq x x) : Bool) = true
 rw [Nat.beq_refl,iEq_eq]; simp
theorem avEq_str {s : List UInt8} : avEq (str s) (str s) = true:=by
 show sEq s.length (pk s) s.length (pk s) = true
 rw [sEq_str]; simp
theorem avEq_p {a : Pa} {o : Nat} : avEq (.p a o) (.p a o) = true:=by
 show (Bool.casesOn (a.same a) false (Nat.beq o o) : Bool) = true
 rw [same_id,Nat.beq_refl]
/-! Cells filled in. -/
section
variable {k : HK R} {H : Heap}
noncomputable def bslk (e sz len : Nat) (k : HK R) (H : Heap) : List AV→Option R:=fun l=>k (.sl H.next 0 len (some len) sz) (H.alloc (.cells false 0 e l.length (setCells l 0 .leaf)))
noncomputable def bldk (k : HK R) (H : Heap) : List AV→Option R:=fun l=>k (.ag l) H
theorem bsl_ap {e sz len : Nat} {ps : List (Nat × Nat × AV)} {zs : List AV} : bslC e sz len ps zs k H = fillV ps zs (bslk e sz len k H):=id rfl
theorem build_ap {ps : List (Nat × Nat × AV)} {zs : List AV} : buildC ps zs k H = fillV ps zs (bldk k H):=id rfl
theorem bslk_ap {e sz len : Nat} {l : List AV} : bslk e sz len k H l = k (.sl H.next 0 len (some len) sz) (H.alloc (.cells false 0 e l.length (setCells l 0 .leaf))):=id rfl
theorem bldk_ap {l : List AV} : bldk k H l = k (.ag l) H:=id rfl
theorem lay_set : ∀ (cs : List AV) (a : Nat) (v : AV),a < cs.length→lay cs a [v] = cs.set a v
 | [],_,_,h=>absurd h (Nat.not_lt_zero _)
 | c :: cs,0,v,_=>rfl
 | c :: cs,a + 1,v,h=>by
  show c :: lay cs a [v] = c :: cs.set a v
  rw [lay_set cs a v (Nat.lt_of_succ_lt_succ h)]
theorem fill_1 {a : Nat} {v : AV} {ps : List (Nat × Nat × AV)} {cs : List AV} {f : List AV→Option R} (h : oneC v = true) (hl : a < cs.length) : fillV ((a,1,v) :: ps) cs f = fillV ps (cs.set a v) f:=by
 rw [fill_one h hl,lay_set cs a v hl]
theorem fill_str {a : Nat} {s : List UInt8} {ps : List (Nat × Nat × AV)} {cs : List AV} {f : List AV→Option R} (hl : a < cs.length) : fillV ((a,1,str s) :: ps) cs f = fillV ps (cs.set a (str s)) f:=fill_1 one_str hl
theorem box_str {s : List UInt8} {e : Nat} : boxC e (str s) k H = k (.p H.next 0) (H.alloc (.cells false 0 e 1 (setCells [str s] 0 .leaf))):=box_one one_str
theorem mkif_str {s : List UInt8} {e : Nat} : mkifC e (str s) k H = k (.ifc e (str s)) H:=mkif_one one_str
theorem fill_i {a : Nat} {kd : IntKind} {x : Int} {ps : List (Nat × Nat × AV)} {cs : List AV} {f : List AV→Option R} (hl : a < cs.length) : fillV ((a,1,.i kd x) :: ps) cs f = fillV ps (cs.set a (.i kd x)) f:=fill_1 one_i hl
theorem box_i {kd : IntKind} {x : Int} {e : Nat} : boxC e (.i kd x) k H = k (.p H.next 0) (H.alloc (.cells false 0 e 1 (setCells [.i kd x] 0 .leaf))):=box_one one_i
theorem mkif_i {kd : IntKind} {x : Int} {e : Nat} : mkifC e (.i kd x) k H = k (.ifc e (.i kd x)) H:=mkif_one one_i
theorem fill_b {a : Nat} {x : Bool} {ps : List (Nat × Nat × AV)} {cs : List AV} {f : List AV→Option R} (hl : a < cs.length) : fillV ((a,1,.b x) :: ps) cs f = fillV ps (cs.set a (.b x)) f:=fill_1 one_b hl
theorem box_b {x : Bool} {e : Nat} : boxC e (.b x) k H = k (.p H.next 0) (H.alloc (.cells false 0 e 1 (setCells [.b x] 0 .leaf))):=box_one one_b
theorem mkif_b {x : Bool} {e : Nat} : mkifC e (.b x) k H = k (.ifc e (.b x)) H:=mkif_one one_b
theorem fill_sl {a : Nat} {b : Pa} {o l z : Nat} {c : Option Nat} {ps : List (Nat × Nat × AV)} {cs : List AV} {f : List AV→Option R} (hl : a < cs.length) : fillV ((a,1,.sl b o l c z) :: ps) cs f = fillV ps (cs.set a (.sl b o l c z)) f:=fill_1 one_sl hl
theorem box_sl {b : Pa} {o l z : Nat} {c : Option Nat} {e : Nat} : boxC e (.sl b o l c z) k H = k (.p H.next 0) (H.alloc (.cells false 0 e 1 (setCells [.sl b o l c z] 0 .leaf))):=box_one one_sl
theorem mkif_sl {b : Pa} {o l z : Nat} {c : Option Nat} {e : Nat} : mkifC e (.sl b o l c z) k H = k (.ifc e (.sl b o l c z)) H:=mkif_one one_sl
theorem fill_ns {a : Nat}  {ps : List (Nat × Nat × AV)} {cs : List AV} {f : List AV→Option R} (hl : a < cs.length) : fillV ((a,1,.ns) :: ps) cs f = fillV ps (cs.set a (.ns)) f:=fill_1 one_ns hl
theorem box_ns  {e : Nat} : boxC e (.ns) k H = k (.p H.next 0) (H.alloc (.cells false 0 e 1 (setCells [.ns] 0 .leaf))):=box_one one_ns
theorem mkif_ns  {e : Nat} : mkifC e (.ns) k H = k (.ifc e (.ns)) H:=mkif_one one_ns
theorem fill_p {a : Nat} {b : Pa} {o : Nat} {ps : List (Nat × Nat × AV)} {cs : List AV} {f : List AV→Option R} (hl : a < cs.length) : fillV ((a,1,.p b o) :: ps) cs f = fillV ps (cs.set a (.p b o)) f:=fill_1 one_p hl
theorem box_p {b : Pa} {o : Nat} {e : Nat} : boxC e (.p b o) k H = k (.p H.next 0) (H.alloc (.cells false 0 e 1 (setCells [.p b o] 0 .leaf))):=box_one one_p
theorem mkif_p {b : Pa} {o : Nat} {e : Nat} : mkifC e (.p b o) k H = k (.ifc e (.p b o)) H:=mkif_one one_p
theorem fill_np {a : Nat}  {ps : List (Nat × Nat × AV)} {cs : List AV} {f : List AV→Option R} (hl : a < cs.length) : fillV ((a,1,.np) :: ps) cs f = fillV ps (cs.set a (.np)) f:=fill_1 one_np hl
theorem box_np  {e : Nat} : boxC e (.np) k H = k (.p H.next 0) (H.alloc (.cells false 0 e 1 (setCells [.np] 0 .leaf))):=box_one one_np
theorem mkif_np  {e : Nat} : mkifC e (.np) k H = k (.ifc e (.np)) H:=mkif_one one_np
theorem fill_ifc {a : Nat} {t : Nat} {x : AV} {ps : List (Nat × Nat × AV)} {cs : List AV} {f : List AV→Option R} (hl : a < cs.length) : fillV ((a,1,.ifc t x) :: ps) cs f = fillV ps (cs.set a (.ifc t x)) f:=fill_1 one_ifc hl
theorem box_ifc {t : Nat} {x : AV} {e : Nat} : boxC e (.ifc t x) k H = k (.p H.next 0) (H.alloc (.cells false 0 e 1 (setCells [.ifc t x] 0 .leaf))):=box_one one_ifc
theorem mkif_ifc {t : Nat} {x : AV} {e : Nat} : mkifC e (.ifc t x) k H = k (.ifc e (.ifc t x)) H:=mkif_one one_ifc
end
theorem avEq_ns : avEq .ns .ns = true:=id rfl
theorem avEq_sl {a : Pa} {o l z : Nat} {c : Option Nat} : avEq (.sl a o l c z) (.sl a o l c z) = true:=by
 show (Bool.casesOn (a.same a) false (Bool.casesOn (Nat.beq o o) false (Bool.casesOn (Nat.beq l l) false (Bool.casesOn (Nat.beq z z) false (capEq c c)))) : Bool) = true
 rw [same_id,Nat.beq_refl,Nat.beq_refl,Nat.beq_refl]
 cases c with
 | none=>rfl
 | some c=>exact Nat.beq_refl c
end
end Go.Vai

/- VAI,part p: a row that a function holds and appends to. -/
namespace Go.Vai
/-- A row of len things of sz cells each: none yet,or in a block that was made behind H0. -/
def Held (H0 H : Heap) (e sz : Nat) (x : AV) (len : Nat) (l : List AV) : Prop :=
 (x = .ns∧len = 0∧l = []) ∨ ∃ a,x = .sl a 0 len none sz∧l.length = len * sz∧Row H a e l∧H0.next.toN≤a.toN∧a.toN < H.next.toN
theorem Held.init (H0 H : Heap) (e sz : Nat) : Held H0 H e sz .ns 0 []:=Or.inl ⟨rfl,rfl,rfl⟩
theorem Held.app {H0 H : Heap} {e sz len n bytes : Nat} {x : AV} {l ys : List AV} (h : Held H0 H e sz x len l) (g : Grow H0 H) (hsz : 0 < sz) (hyl : ys.length = (n + 1) * sz)
  (hy : ∀ v ∈ ys,oneC v = true) (hr : (len + (n + 1)) * bytes≤roomN) :
  ∃ H',Grow H0 H'∧H.next.toN < H'.next.toN∧Held H0 H' e sz (.sl H.next 0 (len + (n + 1)) none sz) (len + (n + 1)) (l ++ ys) ∧
   ∀ (R : Type) (k : HK R) (y : AV),(∀ f : Nat→List AV→Option R,srcK sz y H f = f (n + 1) ys)→appendK e sz bytes x y H k = k (.sl H.next 0 (len + (n + 1)) none sz) H':=by
 obtain ⟨rfl,rfl,rfl⟩ | ⟨a,rfl,hl,hrow,h0,h1⟩:=h
 ·refine ⟨H.alloc (.cells false 0 e ys.length (setCells ys 0 .leaf)),g.trans (Grow.alloc H _),by rw [next_alloc]; omega,Or.inr ⟨H.next,rfl,?_,?_,g.next,by rw [next_alloc]; omega⟩,?_⟩
  ·rw [List.nil_append,hyl,Nat.zero_add]
  ·exact Row.new H e ys
  ·intro R k y hs
   rw [app_ns hs hy (by rw [Nat.zero_add] at hr; exact hr),Nat.zero_add]
 ·obtain ⟨H',r,nx,gb,eq⟩:=app_sl (bytes:=bytes) hsz hrow hl hyl hy hr h1
  refine ⟨H',gb.of g h0,by rw [nx,Pa.toN_succ]; omega,Or.inr ⟨H.next,rfl,?_,r,g.next,by rw [nx,Pa.toN_succ]; omega⟩,fun R k y hs=>eq R k y hs⟩
  rw [List.length_append,hl,hyl,← Nat.add_mul]
/-- The same row where memory has grown on: nothing that was there was turned. -/
theorem Held.grow {H0 H H' : Heap} {e sz len : Nat} {x : AV} {l : List AV} (h : Held H0 H e sz x len l) (g : Grow H H') : Held H0 H' e sz x len l:=by
 obtain h | ⟨a,hx,hl,hrow,h0,h1⟩:=h
 ·exact Or.inl h
 ·exact Or.inr ⟨a,hx,hl,hrow.grow g h1,h0,Nat.lt_of_lt_of_le h1 g.next⟩
/-- The same row,for an earlier beginning. -/
theorem Held.back {H0 H1 H : Heap} {e sz len : Nat} {x : AV} {l : List AV} (h : Held H1 H e sz x len l) (g : Grow H0 H1) : Held H0 H e sz x len l:=by
 obtain h | ⟨a,hx,hl,hrow,h0,h1⟩:=h
 ·exact Or.inl h
 ·exact Or.inr ⟨a,hx,hl,hrow,Nat.le_trans g.next h0,h1⟩
/-- Bytes as cells. -/
def bcs (s : List UInt8) : List AV:=s.map fun b=>.i .u8 (b.toNat : Int)
theorem bcs_len {s : List UInt8} : (bcs s).length = s.length:=List.length_map _
theorem bcs_app {s t : List UInt8} : bcs (s ++ t) = bcs s ++ bcs t:=List.map_append
theorem bcs_one {s : List UInt8} : ∀ v ∈ bcs s,oneC v = true:=by
 intro v hv
 obtain ⟨b,_,rfl⟩:=List.mem_map.mp hv
 rfl
theorem Held.b2s {R : Type} {H0 H : Heap} {e : Nat} {x : AV} {s : List UInt8} {k : HK R} (h : Held H0 H e 1 x s.length (bcs s)) : b2sC x k H = k (str s) H:=by
 obtain ⟨rfl,h1,_⟩ | ⟨a,rfl,_,hrow,_,_⟩:=h
 ·rw [List.length_eq_zero_iff.mp h1]; exact b2s_ns
 ·exact b2s_row hrow
/-- Bytes appended that lie in a block of their own. -/
theorem Held.bytes {H0 H : Heap} {e e' : Nat} {x : AV} {s t : List UInt8} {c : Pa} (h : Held H0 H e 1 x s.length (bcs s)) (g : Grow H0 H) (ht : t ≠ []) (hc : Row H c e' (bcs t)) (hr : (s ++ t).length≤roomN) :
  ∃ H',Grow H0 H'∧H.next.toN < H'.next.toN∧Held H0 H' e 1 (.sl H.next 0 (s ++ t).length none 1) (s ++ t).length (bcs (s ++ t)) ∧
   ∀ (R : Type) (k : HK R) (cp : Option Nat),appendK e 1 1 x (.sl c 0 t.length cp 1) H k = k (.sl H.next 0 (s ++ t).length none 1) H':=by
 obtain ⟨b,t',rfl⟩:=List.exists_cons_of_ne_nil ht
 obtain ⟨H',g',n',h',eq⟩:=h.app (bytes:=1) (n:=t'.length) (ys:=bcs (b :: t')) g (by decide) (by rw [bcs_len]; simp) bcs_one (by rw [List.length_append] at hr; simp at hr ⊢; omega)
 have e1 : s.length + (t'.length + 1) = (s ++ b :: t').length:=by simp
 rw [e1,← bcs_app] at h'
 refine ⟨H',g',n',h',fun R k cp=>?_⟩
 rw [eq R k _ fun f=>?_,e1]
 rw [src_sl hc (by rw [bcs_len]; simp)]
 rw [List.drop_zero,List.take_of_length_le (by rw [bcs_len]; simp)]; rfl
/-- A text's bytes appended. -/
theorem Held.text {H0 H : Heap} {e : Nat} {x : AV} {s t : List UInt8} (h : Held H0 H e 1 x s.length (bcs s)) (g : Grow H0 H) (hr : (s ++ t).length≤roomN) :
  ∃ H' x',Grow H0 H'∧H.next.toN≤H'.next.toN∧Held H0 H' e 1 x' (s ++ t).length (bcs (s ++ t))∧∀ (R : Type) (k : HK R),appendK e 1 1 x (str t) H k = k x' H':=by
 match t with
 | [] =>
  refine ⟨H,x,g,Nat.le_refl _,by rw [List.append_nil]; exact h,fun R k=>?_⟩
  obtain ⟨rfl,_,_⟩ | ⟨a,rfl,_⟩:=h
  ·exact app_none (ys:=[]) (fun f=>src_str f) (off:=0) (a:=H.next) (len:=0) (c:=Option.none) (Or.inr rfl)
  ·exact app_none (ys:=[]) (fun f=>src_str f) (Or.inl rfl)
 | b :: t' =>
  obtain ⟨H',g',n',h',eq⟩:=h.app (bytes:=1) (n:=t'.length) (ys:=bcs (b :: t')) g (by decide) (by rw [bcs_len]; simp) bcs_one (by rw [List.length_append] at hr; simp at hr ⊢; omega)
  have e1 : s.length + (t'.length + 1) = (s ++ b :: t').length:=by simp
  rw [e1,← bcs_app] at h'
  refine ⟨H',_,g',Nat.le_of_lt n',h',fun R k=>?_⟩
  rw [eq R k _ fun f=>src_str f,e1]
end Go.Vai

/- VAI,part q: stores into rows; the smaller of two; runes of a text,one by one; builders. -/
namespace Go.Vai
section
variable {R : Type} {call : CallK R} {fr : Tr AV} {H : Heap} {k : HK R}
theorem GrowBut.refl (a : Pa) (H : Heap) : GrowBut a H H:=⟨Nat.le_refl _,fun _ _ _=>rfl,id⟩
theorem GrowBut.trans {a : Pa} {H H' H'' : Heap} (h : GrowBut a H H') (h' : GrowBut a H' H'') : GrowBut a H H'' :=
 ⟨Nat.le_trans h.next h'.next,fun b hb hne=>by rw [h'.get b (Nat.lt_of_lt_of_le hb h.next) hne,h.get b hb hne],fun f=>h'.dead (h.dead f)⟩
theorem Grow.but {H H' : Heap} (g : Grow H H') (a : Pa) : GrowBut a H H':=⟨g.next,fun b hb _=>g.get b hb,g.dead⟩
/-- Cells laid over a part of a row. -/
def over (l : List AV) (off : Nat) (ys : List AV) : List AV:=l.take off ++ ys ++ l.drop (off + ys.length)
theorem over_len {l ys : List AV} {off : Nat} (h : off + ys.length≤l.length) : (over l off ys).length = l.length:=by
 unfold over; rw [List.length_append,List.length_append,List.length_take,List.length_drop]; omega
theorem Row.store {e : Nat} {a : Pa} {l : List AV} (h : Row H a e l) (ha : a.toN < H.next.toN) {ys : List AV} {off : Nat} (hn : off + ys.length≤l.length) (hy : ∀ v ∈ ys,oneC v = true) :
  ∃ H',Row H' a e (over l off ys)∧GrowBut a H H'∧H'.next = H.next∧∀ (R : Type) (f : Heap→Option R),storeK ys ys.length a off H f = f H':=by
 obtain ⟨c,h1,h2⟩:=h
 refine ⟨H.put a (.cells false 0 e l.length (setCells ys off c)),⟨setCells ys off c,by rw [get_put,over_len hn],?_⟩,⟨by rw [next_put]; exact Nat.le_refl _,fun b _ hne=>by rw [Heap.get_put,if_neg fun q=>hne q.symm],fun f b hb=>?_⟩,next_put,fun R f=>?_⟩
 ·intro j hj
  rw [over_len hn] at hj
  rw [setCells_get]
  unfold over
  by_cases q : j < off
  ·rw [if_neg (by omega),h2 j hj,List.append_assoc,List.getElem?_append_left (by rw [List.length_take]; omega),List.getElem?_take_of_lt q]
  ·by_cases q2 : j < off + ys.length
   ·rw [if_pos ⟨by omega,by omega⟩,List.getElem?_append_left (by rw [List.length_append,List.length_take]; omega),List.getElem?_append_right (by rw [List.length_take]; omega),List.length_take,Nat.min_eq_left (by omega)]
   ·rw [if_neg (by omega),h2 j hj,List.getElem?_append_right (by rw [List.length_append,List.length_take]; omega),List.length_append,List.length_take,Nat.min_eq_left (by omega),List.getElem?_drop]
    congr 2; omega
 ·rw [next_put] at hb
  rw [Heap.get_put,if_neg (by intro q; subst q; omega)]
  exact f b hb
 ·show H.getK a (fun b=>bC b fun ro fz e size c=>Bool.casesOn ro (store1K ys ys.length off fz size c fun c=>H.putK a (.cells false fz e size c) f) none) = _
  rw [Heap.getK_eq,h1]
  show guardK (Nat.ble (Nat.add off ys.length) l.length) (guardK (Nat.ble 0 off) (guardK (oneCs ys) (setCellsK ys off c fun c=>H.putK a (.cells false 0 e l.length c) f))) = _
  have q : Nat.ble (Nat.add off ys.length) l.length = true:=Nat.ble_eq_true_of_le hn
  have q2 : Nat.ble 0 off = true:=Nat.ble_eq_true_of_le (Nat.zero_le _)
  rw [q,q2,oneCs_all hy,setCellsK_eq]
  show H.putK a _ f = _
  rw [Heap.putK_eq]
/-- A row's part stored. -/
theorem Row.st_ag {e : Nat} {a : Pa} {l : List AV} (h : Row H a e l) (ha : a.toN < H.next.toN) {ys : List AV} {off n : Nat} (hyl : ys.length = n) (hn : off + n≤l.length) (hy : ∀ v ∈ ys,oneC v = true) :
  ∃ H',Row H' a e (over l off ys)∧GrowBut a H H'∧H'.next = H.next∧∀ (R : Type) (k : HK R),stC n (.p a off) (.ag ys) k H = k un H':=by
 subst hyl
 obtain ⟨H',h1,h2,h3,h4⟩:=h.store ha hn hy
 refine ⟨H',h1,h2,h3,fun R k=>?_⟩
 show (if ys.length = ys.length then storeK ys ys.length a off H fun H=>k un H else none) = _
 rw [if_pos rfl,h4]
theorem over_set {l : List AV} {off : Nat} {v : AV} (h : off < l.length) : over l off [v] = l.set off v:=by
 unfold over
 rw [List.set_eq_take_append_cons_drop,if_pos h]
 simp
/-- One cell stored. -/
theorem Row.st_one {e : Nat} {a : Pa} {l : List AV} (h : Row H a e l) (ha : a.toN < H.next.toN) {v : AV} {off : Nat} (hn : off < l.length) (hy : oneC v = true) :
  ∃ H',Row H' a e (l.set off v)∧GrowBut a H H'∧H'.next = H.next∧∀ (R : Type) (k : HK R),stC 1 (.p a off) v k H = k un H':=by
 obtain ⟨H',h1,h2,h3,h4⟩:=h.store (ys:=[v]) (off:=off) ha (by show off + 1≤l.length; omega) (by intro x hx; rw [List.mem_singleton.mp hx]; exact hy)
 rw [over_set hn] at h1
 refine ⟨H',h1,h2,h3,fun R k=>?_⟩
 show cellsK v (fun l=>if l.length = 1 then storeK l 1 a off H fun H=>k un H else none) = _
 rw [cells_one hy]
 show (if [v].length = 1 then storeK [v] 1 a off H fun H=>k un H else none) = _
 rw [← h4 R fun H=>k un H]; rfl
theorem over_all {l ys : List AV} (h : ys.length = l.length) : over l 0 ys = ys:=by
 unfold over; rw [h,Nat.zero_add,List.drop_length,List.take_zero]; simp
/-- A row filled anew. -/
theorem Row.st_all {e : Nat} {a : Pa} {l : List AV} (h : Row H a e l) (ha : a.toN < H.next.toN) {ys : List AV} {n : Nat} (hyl : ys.length = n) (hn : n = l.length) (hy : ∀ v ∈ ys,oneC v = true) :
  ∃ H',Row H' a e ys∧GrowBut a H H'∧H'.next = H.next∧∀ (R : Type) (k : HK R),stC n (.p a 0) (.ag ys) k H = k un H':=by
 obtain ⟨H',h1,h2,h3,h4⟩:=h.st_ag ha (off:=0) hyl (by omega) hy
 rw [over_all (by omega)] at h1
 exact ⟨H',h1,h2,h3,h4⟩
/-- A row read whole. -/
theorem Row.lda {e n : Nat} {a : Pa} {l : List AV} (h : Row H a e l) (hn : n = l.length) : ldC true n (.p a 0) k H = k (.ag l) H:=by
 subst hn
 rw [h.lds (by omega),List.drop_zero,List.take_length]
/-- Several cells filled in. -/
theorem fill_agn {a n : Nat} {l : List AV} {ps : List (Nat × Nat × AV)} {cs : List AV} {f : List AV→Option R} (hl : l.length = n) (h : a + n≤cs.length) : fillV ((a,n,.ag l) :: ps) cs f = fillV ps (lay cs a l) f:=by
 show (if l.length = n∧a + n≤cs.length then fillV ps (lay cs a l) f else none) = _
 rw [if_pos ⟨hl,h⟩]
/-- Memory that has gone on: what stands below n is as it was. -/
structure Keep (n : Nat) (H H' : Heap) : Prop where
 next : H.next.toN≤H'.next.toN
 get : ∀ a,a.toN < n→a.toN < H.next.toN→H'.get a = H.get a
 dead : Fresh H→Fresh H'
theorem Keep.trans {n : Nat} {H H' H'' : Heap} (h : Keep n H H') (h' : Keep n H' H'') : Keep n H H'' :=
 ⟨Nat.le_trans h.next h'.next,fun a ha hb=>by rw [h'.get a ha (Nat.lt_of_lt_of_le hb h.next),h.get a ha hb],fun f=>h'.dead (h.dead f)⟩
theorem Grow.keep {H H' : Heap} (g : Grow H H') (n : Nat) : Keep n H H':=⟨g.next,fun a _ hb=>g.get a hb,g.dead⟩
theorem GrowBut.keep {a : Pa} {H H' : Heap} (g : GrowBut a H H') {n : Nat} (h : n≤a.toN) : Keep n H H':=⟨g.next,fun b hb hc=>g.get b hc (by intro e; subst e; omega),g.dead⟩
theorem Keep.of {n : Nat} {H0 H H' : Heap} (k : Keep n H H') (g : Grow H0 H) (h : H0.next.toN≤n) : Grow H0 H' :=
 ⟨Nat.le_trans g.next k.next,fun a ha=>by rw [k.get a (by omega) (by have:=g.next; omega),g.get a ha],fun f=>k.dead (g.dead f)⟩
theorem Row.keep {n : Nat} {H H' : Heap} {a : Pa} {e : Nat} {l : List AV} (h : Row H a e l) (k : Keep n H H') (ha : a.toN < n) (hb : a.toN < H.next.toN) : Row H' a e l:=by
 obtain ⟨c,h1,h2⟩:=h
 exact ⟨c,by rw [k.get a ha hb,h1],h2⟩
/-- A cell of a row,read,whatever comes next. -/
theorem Row.l {H : Heap} {a : Pa} {e : Nat} {l : List AV} (h : Row H a e l) (off : Nat) {v : AV} (hv : l[off]? = some v) : ∀ (R : Type) (k : HK R),ldC false 1 (.p a off) k H = k v H:=fun _ _=>h.ld hv
theorem Row.la {H : Heap} {a : Pa} {e : Nat} {l : List AV} (h : Row H a e l) (n : Nat) (hn : n = l.length) : ∀ (R : Type) (k : HK R),ldC true n (.p a 0) k H = k (.ag l) H:=fun _ _=>h.lda hn
/-- Is a block not that of a slice? -/
def Off (x : AV) (b : Pa) : Prop:=∀ o l c z,x ≠ .sl b o l c z
/-- Appended: all else is as it was. -/
theorem Held.app3 {H1 H : Heap} {e sz len n bytes : Nat} {x : AV} {l ys : List AV} (h : Held H1 H e sz x len l) (hn : H1.next.toN≤H.next.toN) (hsz : 0 < sz) (hyl : ys.length = (n + 1) * sz)
  (hy : ∀ v ∈ ys,oneC v = true) (hr : (len + (n + 1)) * bytes≤roomN) :
  ∃ H',(∀ b,b.toN < H.next.toN→Off x b→H'.get b = H.get b)∧Keep H1.next.toN H H'∧H.next.toN < H'.next.toN∧Held H1 H' e sz (.sl H.next 0 (len + (n + 1)) none sz) (len + (n + 1)) (l ++ ys) ∧
   ∀ (R : Type) (k : HK R) (y : AV),(∀ f : Nat→List AV→Option R,srcK sz y H f = f (n + 1) ys)→appendK e sz bytes x y H k = k (.sl H.next 0 (len + (n + 1)) none sz) H':=by
 obtain ⟨rfl,rfl,rfl⟩ | ⟨a,rfl,hl,hrow,h0,h1⟩:=h
 ·refine ⟨H.alloc (.cells false 0 e ys.length (setCells ys 0 .leaf)),fun b hb _=>(Grow.alloc H _).get b hb,(Grow.alloc H _).keep _,by rw [next_alloc]; omega,Or.inr ⟨H.next,rfl,?_,?_,hn,by rw [next_alloc]; omega⟩,?_⟩
  ·rw [List.nil_append,hyl,Nat.zero_add]
  ·exact Row.new H e ys
  ·intro R k y hs
   rw [app_ns hs hy (by rw [Nat.zero_add] at hr; exact hr),Nat.zero_add]
 ·obtain ⟨H',r,nx,gb,eq⟩:=app_sl (bytes:=bytes) hsz hrow hl hyl hy hr h1
  refine ⟨H',fun b hb ho=>gb.get b hb (by intro q; subst q; exact ho _ _ _ _ rfl),gb.keep h0,by rw [nx,Pa.toN_succ]; omega,Or.inr ⟨H.next,rfl,?_,r,hn,by rw [nx,Pa.toN_succ]; omega⟩,fun R k y hs=>eq R k y hs⟩
  rw [List.length_append,hl,hyl,← Nat.add_mul]
theorem Held.off {H1 H : Heap} {e sz len : Nat} {x : AV} {l : List AV} (h : Held H1 H e sz x len l) {b : Pa} (hb : b.toN < H1.next.toN ∨ H.next.toN≤b.toN) : Off x b:=by
 intro o l' c z q
 obtain ⟨rfl,_⟩ | ⟨a,rfl,_,_,h0,h1⟩:=h
 ·cases q
 ·cases q; omega
theorem Held.but {H1 H H' : Heap} {e sz len : Nat} {x : AV} {l : List AV} {b : Pa} (h : Held H1 H e sz x len l) (g : GrowBut b H H') (ho : Off x b) : Held H1 H' e sz x len l:=by
 obtain h | ⟨a,rfl,hl,hrow,h0,h1⟩:=h
 ·exact Or.inl h
 ·exact Or.inr ⟨a,rfl,hl,hrow.but g h1 (by intro q; subst q; exact ho _ _ _ _ rfl),h0,Nat.lt_of_lt_of_le h1 g.next⟩
theorem lay_all {l cs : List AV} (h : cs.length = l.length) : lay cs 0 l = l:=by
 have e : lay cs 0 l = l ++ cs.drop l.length:=by cases cs <;> rfl
 rw [e,← h,List.drop_length,List.append_nil]
theorem Held.ll {H1 H : Heap} {e sz len : Nat} {x : AV} {l : List AV} (h : Held H1 H e sz x len l) : l.length = len * sz:=by
 obtain ⟨_,rfl,rfl⟩ | ⟨a,_,hl,_⟩:=h
 ·rw [Nat.zero_mul]; rfl
 ·exact hl
theorem Held.self {H1 H : Heap} {e sz len : Nat} {x : AV} {l : List AV} (h : Held H1 H e sz x len l) : avEq x x = true:=by
 obtain ⟨rfl,_⟩ | ⟨a,rfl,_⟩:=h
 ·exact avEq_ns
 ·exact avEq_sl
/-- A row of one thing,as what is appended. -/
theorem src_all {sz : Nat} {b : Pa} {n : Nat} {c : Option Nat} {e : Nat} {l : List AV} (h : Row H b e l) (hn : l.length = n * sz) (f : Nat→List AV→Option R) : srcK sz (.sl b 0 n c sz) H f = f n l:=by
 rw [src_sl h (by omega),List.drop_zero,← hn,List.take_length]
theorem drop_l {L cs : List AV} {i j z : Nat} (hL : L.length = i * z) (hj : j < i) : ((L ++ cs).drop (j * z)).take z = (L.drop (j * z)).take z:=by
 have h : (j + 1) * z≤i * z:=Nat.mul_le_mul_right z hj
 rw [Nat.add_mul,Nat.one_mul] at h
 rw [List.drop_append_of_le_length (by omega),List.take_append_of_le_length (by rw [List.length_drop]; omega)]
theorem drop_r {L cs : List AV} {i z : Nat} (hL : L.length = i * z) (hc : cs.length = z) : ((L ++ cs).drop (i * z)).take z = cs:=by
 rw [← hL,List.drop_append_of_le_length (Nat.le_refl _),List.drop_length,List.nil_append,← hc,List.take_length]
theorem wrap_u64 {n : Nat} (h : n < 18446744073709551616) : IntKind.u64.wrap (n : Int) = n:=wrap_fits (kd:=.u64) (x:=.ofNat n) (Nat.blt_eq.mpr h)
theorem wrap_u32 {n : Nat} (h : n < 4294967296) : IntKind.u32.wrap (n : Int) = n:=wrap_fits (kd:=.u32) (x:=.ofNat n) (Nat.blt_eq.mpr h)
theorem wrap_u8 {n : Nat} (h : n < 256) : IntKind.u8.wrap (n : Int) = n:=wrap_fits (kd:=.u8) (x:=.ofNat n) (Nat.blt_eq.mpr h)
theorem wrap_n64 {n : Nat} (h : n < 9223372036854775808) : IntKind.i64.wrap (n : Int) = n:=wrap_fits (kd:=.i64) (x:=.ofNat n) (Nat.blt_eq.mpr h)
theorem wrap_n32 {n : Nat} (h : n < 2147483648) : IntKind.i32.wrap (n : Int) = n:=wrap_fits (kd:=.i32) (x:=.ofNat n) (Nat.blt_eq.mpr h)
theorem quo_n {a b : Nat} : (a : Int).tdiv (b : Int) = ((a / b : Nat) : Int):=(Int.ofNat_tdiv a b).symm
theorem rem_n {a b : Nat} : (a : Int).tmod (b : Int) = ((a % b : Nat) : Int):=(Int.ofNat_tmod a b).symm
/-! A value is itself. -/
theorem avEqs_refl : ∀ {l : List AV},(∀ v ∈ l,avEq1 v v = true)→avEqs l l = true
 | [],_=>rfl
 | v :: l,h=>by
  show (Bool.casesOn (avEq1 v v) false (avEqs l l) : Bool) = true
  rw [h v (List.mem_cons_self ..)]
  exact avEqs_refl fun x hx=>h x (List.mem_cons_of_mem _ hx)
theorem avEq_ag {l : List AV} (h : ∀ v ∈ l,avEq1 v v = true) : avEq (.ag l) (.ag l) = true:=by
 show oB (some (avEqs l l)) = true
 rw [avEqs_refl h]; rfl
theorem av1_i {kd : IntKind} {x : Int} : avEq1 (.i kd x) (.i kd x) = true:=avEq_i
theorem av1_b {x : Bool} : avEq1 (.b x) (.b x) = true:=avEq_b
theorem av1_str {s : List UInt8} : avEq1 (str s) (str s) = true:=avEq_str
theorem av1_ns : avEq1 .ns .ns = true:=rfl
theorem av1_sl {a : Pa} {o l z : Nat} {c : Option Nat} : avEq1 (.sl a o l c z) (.sl a o l c z) = true:=avEq_sl
theorem av1_av {v : AV} (h : oneC v = true) (h2 : avEq1 v v = true) : avEq v v = true:=by
 show (Bool.casesOn (oneC v) (oB (vA v fun xs=>vA v fun ys=>some (avEqs xs ys))) (avEq1 v v) : Bool) = true
 rw [h,h2]
/-! The smaller of two. -/
noncomputable def mmC (mx : Bool) (x y : AV) (k : HK R) (H : Heap) : Option R:=vI x fun kd a=>vI y fun kd' b=>guardK (Nat.beq (kix kd) (kix kd')) (Bool.casesOn (mmB mx a b) (k (.i kd a) H) (k (.i kd b) H))
theorem x_mm {mx : Bool} {x y : Opd} : xopK (.mm mx x y) call fr H k = mmC mx (ev fr x) (ev fr y) k H:=by
 show evK fr x (fun x=>evK fr y fun y=>_) = _
 rw [evK_eq,evK_eq]; rfl
theorem min_i {kd : IntKind} {a b : Int} : mmC false (.i kd a) (.i kd b) k H = k (.i kd (min a b)) H:=by
 show guardK (Nat.beq (kix kd) (kix kd)) (Bool.casesOn (iLt b a) (k (.i kd a) H) (k (.i kd b) H)) = _
 rw [Nat.beq_refl,iLt_eq]
 show (Bool.casesOn (decide (b < a)) (k (.i kd a) H) (k (.i kd b) H) : Option R) = _
 by_cases h : b < a
 ·rw [decide_eq_true h,Int.min_def,if_neg (by omega)]
 ·rw [decide_eq_false h,Int.min_def,if_pos (by omega)]
end
end Go.Vai

/- VAI,part r: more operations at values that are not closed: of arrays,of builders,of a text's runes. -/
namespace Go.Vai
section
variable {R : Type} {call : CallK R} {fr : Tr AV} {H : Heap} {k : HK R}
theorem nat_of {i : Int} (h : 0≤i) : ∃ n : Nat,i = (n : Int)∧i.toNat = n:=by
 obtain ⟨n,rfl⟩:=Int.eq_ofNat_of_zero_le h
 exact ⟨n,rfl,rfl⟩
theorem bump_0 {H : Heap} : H.bump 0 = H:=by cases H; rfl
/-! An array's cell,part. -/
noncomputable def ixpC (n sz : Nat) (x i : AV) (k : HK R) (H : Heap) : Option R:=vN i fun i=>vP x none fun a off=>guardK (Nat.blt i n) (forceN (Nat.add off (Nat.mul i sz)) fun o=>k (.p a o) H)
theorem x_ixp {n sz : Nat} {x i : Opd} : xopK (.ixp n sz x i) call fr H k = ixpC n sz (ev fr x) (ev fr i) k H:=by
 show evK fr x (fun x=>evK fr i fun i=>_) = _
 rw [evK_eq,evK_eq]; rfl
theorem ixp_p {n sz off : Nat} {a : Pa} {kd : IntKind} {i : Int} (h0 : 0≤i) (h : i < n) : ixpC n sz (.p a off) (.i kd i) k H = k (.p a (off + i.toNat * sz)) H:=by
 obtain ⟨j,rfl,e⟩:=nat_of h0
 rw [e]
 show guardK (Nat.blt j n) (forceN (Nat.add off (Nat.mul j sz)) fun o=>k (.p a o) H) = _
 rw [Nat.blt_eq.mpr (by omega),forceN_eq]; rfl
noncomputable def slaC (n sz : Nat) (x : AV) (lo hi mx : Option AV) (k : HK R) (H : Heap) : Option R:=sliceAK n sz x lo hi mx H fun v=>k v H
theorem x_sla {n sz : Nat} {x : Opd} {lo hi mx : Option Opd} : xopK (.sla n sz x lo hi mx) call fr H k = slaC n sz (ev fr x) (lo.map (ev fr)) (hi.map (ev fr)) (mx.map (ev fr)) k H:=by
 show evK fr x (fun x=>evoK fr lo fun lo=>evoK fr hi fun hi=>evoK fr mx fun mx=>_) = _
 rw [evK_eq,evoK_eq,evoK_eq,evoK_eq]; rfl
theorem sla_row {n : Nat} {a : Pa} {e : Nat} {l : List AV} (hr : Row H a e l) (hn : n≤l.length) {kd kd' : IntKind} {lo hi : Int} (h0 : 0≤lo) (h1 : lo≤hi) (h2 : hi≤n) :
  slaC n 1 (.p a 0) (some (.i kd lo)) (some (.i kd' hi)) none k H = k (.sl a lo.toNat (hi.toNat - lo.toNat) (some (n - lo.toNat)) 1) H:=by
 obtain ⟨x,rfl,e1⟩:=nat_of h0
 obtain ⟨y,rfl,e2⟩:=nat_of (show 0≤hi by omega)
 obtain ⟨c,h3,_⟩:=hr
 rw [e1,e2]
 show H.getK a (fun b=>bC b fun _ _ _ size _=>guardK (Nat.ble (Nat.add 0 (Nat.mul n 1)) size) (sliceA2 n 1 0 a (some (.i kd x)) (some (.i kd' y)) none fun v=>k v H)) = _
 rw [Heap.getK_eq,h3]
 show guardK (Nat.ble (Nat.add 0 (Nat.mul n 1)) l.length) (guardK (Nat.ble x y) (guardK (Nat.ble y n) (guardK (Nat.ble n n) (forceN (Nat.add 0 (Nat.mul x 1)) fun off=>forceN (Nat.sub n x) fun cp=>k (.sl a off (Nat.sub y x) (some cp) 1) H)))) = _
 have q : Nat.ble (Nat.add 0 (Nat.mul n 1)) l.length = true:=Nat.ble_eq_true_of_le (by show 0 + n * 1≤_; omega)
 rw [q,Nat.ble_eq_true_of_le (by omega),Nat.ble_eq_true_of_le (by omega),Nat.ble_eq_true_of_le (Nat.le_refl n),forceN_eq,forceN_eq]
 show k (.sl a (0 + x * 1) (y - x) (some (n - x)) 1) H = _
 rw [Nat.zero_add,Nat.mul_one]
theorem sla_from {n : Nat} {a : Pa} {e : Nat} {l : List AV} (hr : Row H a e l) (hn : n≤l.length) {kd : IntKind} {lo : Int} (h0 : 0≤lo) (h1 : lo≤n) :
  slaC n 1 (.p a 0) (some (.i kd lo)) none none k H = k (.sl a lo.toNat (n - lo.toNat) (some (n - lo.toNat)) 1) H:=by
 obtain ⟨x,rfl,e1⟩:=nat_of h0
 obtain ⟨c,h3,_⟩:=hr
 rw [e1]
 show H.getK a (fun b=>bC b fun _ _ _ size _=>guardK (Nat.ble (Nat.add 0 (Nat.mul n 1)) size) (sliceA2 n 1 0 a (some (.i kd x)) none none fun v=>k v H)) = _
 rw [Heap.getK_eq,h3]
 show guardK (Nat.ble (Nat.add 0 (Nat.mul n 1)) l.length) (guardK (Nat.ble x n) (guardK (Nat.ble n n) (guardK (Nat.ble n n) (forceN (Nat.add 0 (Nat.mul x 1)) fun off=>forceN (Nat.sub n x) fun cp=>k (.sl a off (Nat.sub n x) (some cp) 1) H)))) = _
 have q : Nat.ble (Nat.add 0 (Nat.mul n 1)) l.length = true:=Nat.ble_eq_true_of_le (by show 0 + n * 1≤_; omega)
 rw [q,Nat.ble_eq_true_of_le (by omega),Nat.ble_eq_true_of_le (Nat.le_refl n),forceN_eq,forceN_eq]
 show k (.sl a (0 + x * 1) (n - x) (some (n - x)) 1) H = _
 rw [Nat.zero_add,Nat.mul_one]
/-- Bytes of a part of a row,as a text. -/
theorem b2s_part {a : Pa} {e : Nat} {l : List AV} (h : Row H a e l) {s : List UInt8} {off len : Nat} {c : Option Nat} (hl : len = s.length) (hn : off + len≤l.length) (hs : (l.drop off).take len = bcs s) : b2sC (.sl a off len c 1) k H = k (str s) H:=by
 show guardK (Nat.beq 1 1) (rangeCK len a off H fun l=>packK l 0 0 fun m n=>k (.s m n) H) = _
 rw [Nat.beq_refl]
 show rangeCK len a off H (fun l=>packK l 0 0 fun m n=>k (.s m n) H) = _
 rw [h.cells hn,hs]
 have:=pack_str s [] fun m n=>k (.s m n) H
 rw [List.nil_append] at this
 exact this
/-! Room; a slice's first cell; a text of bytes that stand alone. -/
noncomputable def capC (x : AV) (k : HK R) (H : Heap) : Option R:=vL x (k (.i .i64 (.ofNat 0)) H) fun _ _ _ c _=>Option.casesOn c none fun c=>k (.i .i64 (.ofNat c)) H
theorem x_cap {x : Opd} : xopK (.cap x) call fr H k = capC (ev fr x) k H:=by
 show evK fr x (fun v=>_) = _
 rw [evK_eq]; rfl
theorem cap_ns : capC .ns k H = k (.i .i64 0) H:=id rfl
theorem cap_sl {a : Pa} {o l c z : Nat} : capC (.sl a o l (some c) z) k H = k (.i .i64 (c : Int)) H:=id rfl
noncomputable def usdC (x : AV) (k : HK R) (H : Heap) : Option R:=vL x (k .np H) fun a off len cap sz=>Option.casesOn (usd2 a off len cap sz) none fun v=>k v H
theorem x_usd {x : Opd} : xopK (.usd x) call fr H k = usdC (ev fr x) k H:=by
 show evK fr x (fun v=>_) = _
 rw [evK_eq]; rfl
theorem usd_ns : usdC .ns k H = k .np H:=id rfl
theorem usd_sl {a : Pa} {o l z : Nat} {c : Option Nat} (h : 0 < l) : usdC (.sl a o l c z) k H = k (.p a o) H:=by
 cases l with
 | zero=>omega
 | succ l=>rfl
noncomputable def ustrC (e : Nat) (x n : AV) (k : HK R) (H : Heap) : Option R:=vI n fun kd n=>guardK (Nat.beq (kix kd) 3) (iN n fun n=>Nat.casesOn n (vP x (k (.s 0 0) H) (fun _ _=>k (.s 0 0) H)) fun n' =>
 vP x none fun a off=>guardK (Nat.beq off 0) (guardK (Nat.ble n' roomN) (H.getK a fun b=>bC b (ustr2 e a (Nat.succ n') H k))))
theorem x_ustr {e : Nat} {x n : Opd} : xopK (.ustr e x n) call fr H k = ustrC e (ev fr x) (ev fr n) k H:=by
 show evK fr x (fun x=>evK fr n fun n=>_) = _
 rw [evK_eq,evK_eq]; rfl
theorem ustr_np {e : Nat} : ustrC e .np (.i .i64 0) k H = k (str []) H:=id rfl
theorem ustr_row {a : Pa} {e : Nat} {l : List AV} {s : List UInt8} (h : Row H a e l) (hn : s.length≤l.length) (hs : l.take s.length = bcs s) (h0 : s ≠ []) (hr : s.length≤roomN) (ha : a.toN < H.next.toN) :
  ∃ H',GrowBut a H H'∧∀ (R : Type) (k : HK R),ustrC e (.p a 0) (.i .i64 (s.length : Int)) k H = k (str s) H':=by
 obtain ⟨c,h1,h2⟩:=h
 have hsl : 0 < s.length:=List.length_pos_iff.mpr h0
 refine ⟨H.put a (.cells true 0 e l.length c),⟨by rw [next_put]; exact Nat.le_refl _,fun b _ hne=>by rw [Heap.get_put,if_neg fun q=>hne q.symm],fun f b hb=>?_⟩,fun R k=>?_⟩
 ·rw [next_put] at hb
  rw [Heap.get_put,if_neg (by intro q; subst q; omega)]
  exact f b hb
 ·obtain ⟨m,hm⟩ : ∃ m,s.length = m + 1:=⟨s.length - 1,by omega⟩
  rw [hm]
  show guardK (Nat.ble m roomN) (H.getK a fun b=>bC b (ustr2 e a (Nat.succ m) H k)) = _
  rw [Nat.ble_eq_true_of_le (by omega),Heap.getK_eq,h1]
  show guardK (Nat.beq e e) (guardK (Nat.ble (Nat.succ m) l.length) (getCellsK (Nat.succ m) 0 c fun l'=>packK l' 0 0 fun m s=>H.putK a (.cells true 0 e l.length c) fun H=>k (.s m s) H)) = _
  rw [Nat.beq_refl,Nat.ble_eq_true_of_le (by omega),getCellsK_eq]
  show packK (getCells (m + 1) 0 c) 0 0 (fun m s=>H.putK a (.cells true 0 e l.length c) fun H=>k (.s m s) H) = _
  rw [getCells_part h2 (by omega),List.drop_zero,← hm,hs]
  have:=pack_str s [] fun m s=>H.putK a (.cells true 0 e l.length c) fun H=>k (.s m s) H
  rw [List.nil_append] at this
  refine this.trans ?_
  rw [Heap.putK_eq]; rfl
/-! Addresses taken round about,as a builder does. -/
noncomputable def p2uC (x : AV) (k : HK R) (H : Heap) : Option R:=vP x (k .np H) fun a off=>H.getK a fun b=>bC b fun _ _ _ size _=>guardK (Nat.blt off size) (k (.p a off) H)
theorem x_p2u {x : Opd} : xopK (.p2u x) call fr H k = p2uC (ev fr x) k H:=by
 show evK fr x (fun v=>_) = _
 rw [evK_eq]; rfl
theorem p2u_row {a : Pa} {e : Nat} {l : List AV} (h : Row H a e l) (hl : 0 < l.length) : p2uC (.p a 0) k H = k (.p a 0) H:=by
 obtain ⟨c,h1,_⟩:=h
 show H.getK a (fun b=>bC b fun _ _ _ size _=>guardK (Nat.blt 0 size) (k (.p a 0) H)) = _
 rw [Heap.getK_eq,h1]
 show guardK (Nat.blt 0 l.length) (k (.p a 0) H) = _
 rw [Nat.blt_eq.mpr hl]; rfl
noncomputable def u2pC (e s : Nat) (x : AV) (k : HK R) (H : Heap) : Option R:=vP x (k .np H) fun a off=>H.getK a fun b=>bC b fun _ _ e' size _=>guardK (Nat.beq e e') (guardK (Nat.beq off 0) (guardK (Nat.ble s size) (k (.p a off) H)))
theorem x_u2p {e s : Nat} {x : Opd} : xopK (.u2p e s x) call fr H k = u2pC e s (ev fr x) k H:=by
 show evK fr x (fun v=>_) = _
 rw [evK_eq]; rfl
theorem u2p_row {a : Pa} {e s : Nat} {l : List AV} (h : Row H a e l) (hl : s≤l.length) : u2pC e s (.p a 0) k H = k (.p a 0) H:=by
 obtain ⟨c,h1,_⟩:=h
 show H.getK a (fun b=>bC b fun _ _ e' size _=>guardK (Nat.beq e e') (guardK (Nat.beq 0 0) (guardK (Nat.ble s size) (k (.p a 0) H)))) = _
 rw [Heap.getK_eq,h1]
 show guardK (Nat.beq e e) (guardK true (guardK (Nat.ble s l.length) (k (.p a 0) H))) = _
 rw [Nat.beq_refl,Nat.ble_eq_true_of_le hl]; rfl
theorem p_eq_np {a : Pa} {o : Nat} : binC .eql .ptr (.p a o) .np k H = k (.b false) H:=id rfl
theorem np_eq_np : binC .eql .ptr .np .np k H = k (.b true) H:=id rfl
theorem p_ne_p {a : Pa} {o : Nat} : binC .neq .ptr (.p a o) (.p a o) k H = k (.b false) H:=by
 show guardK (a.same a) (forceB (Nat.beq o o) fun r=>notK r fun v=>k v H) = _
 rw [same_id,Nat.beq_refl]; rfl
/-! New bytes; copied. -/
noncomputable def mnzC (e : Nat) (n : AV) (k : HK R) (H : Heap) : Option R:=vI n fun kd n=>guardK (Nat.beq (kix kd) 3) (iN n fun n=>guardK (Nat.ble n roomN) (newK e (repK [.u] n) H fun id H=>k (.sl id 0 n none 1) H))
theorem x_mnz {e : Nat} {n : Opd} : xopK (.mnz e n) call fr H k = mnzC e (ev fr n) k H:=by
 show evK fr n (fun n=>_) = _
 rw [evK_eq]; rfl
theorem rep_len : ∀ n : Nat,(repK [.u] n).length = n
 | 0=>rfl
 | n + 1=>by show (repK [.u] n).length + 1 = _; rw [rep_len]
theorem mnz_n {e n : Nat} (h : n≤roomN) : mnzC e (.i .i64 (n : Int)) k H = k (.sl H.next 0 n none 1) (H.alloc (.cells false 0 e n (setCells (repK [.u] n) 0 .leaf))):=by
 show guardK (Nat.ble n roomN) (newK e (repK [.u] n) H fun id H=>k (.sl id 0 n none 1) H) = _
 rw [Nat.ble_eq_true_of_le h]
 show newK e (repK [.u] n) H (fun id H=>k (.sl id 0 n none 1) H) = _
 unfold newK
 rw [setCellsK_eq,forceN_eq,Heap.allocK_eq,lenK_eq,rep_len]
noncomputable def cpyC (sz : Nat) (x y : AV) (k : HK R) (H : Heap) : Option R:=copyK sz x y H k
theorem x_cpy {sz : Nat} {x y : Opd} : xopK (.cpy sz x y) call fr H k = cpyC sz (ev fr x) (ev fr y) k H:=by
 show evK fr x (fun x=>evK fr y fun y=>_) = _
 rw [evK_eq,evK_eq]; rfl
theorem cpy_ns {sz : Nat} {a : Pa} {o l : Nat} {c : Option Nat} : cpyC sz (.sl a o l c sz) .ns k H = k (.i .i64 0) H:=by
 show guardK (Nat.beq sz sz) (forceN (minN 0 l) fun m=>copy2K sz a o m [] H k) = _
 rw [Nat.beq_refl,forceN_eq]
 show copy2K sz a o (minN 0 l) [] H k = _
 have : minN 0 l = 0:=by
  unfold minN
  rw [Nat.ble_eq_true_of_le (Nat.zero_le l)]
 rw [this]; rfl
/-! Called through an interface. -/
noncomputable def invC (tbl : List (Nat × Pa)) (x : AV) (args : List AV) (call : CallK R) (k : HK R) (H : Heap) : Option R:=vE x none fun t v=>lookK t tbl fun f=>call f (v :: args) H k
theorem x_inv {tbl : List (Nat × Pa)} {x : Opd} : xopK (.inv tbl x []) call fr H k = invC tbl (ev fr x) [] call k H:=by
 show evK fr x (fun x=>_) = _
 rw [evK_eq]; rfl
theorem inv_at {tbl : List (Nat × Pa)} {t : Nat} {v : AV} : invC tbl (.ifc t v) [] call k H = lookK t tbl fun f=>call f [v] H k:=id rfl
theorem look_yes {t : Nat} {f : Pa} {l : List (Nat × Pa)} {g : Pa→Option R} : lookK t ((t,f) :: l) g = g f:=by
 show (Bool.casesOn (Nat.beq t t) (lookK t l g) (g f) : Option R) = _
 rw [Nat.beq_refl]
/-! A text's runes. -/
noncomputable def rngC (x : AV) (k : HK R) (H : Heap) : Option R:=vS x fun len n=>k (.p H.next 0) (H.alloc (.iter len n 0))
theorem x_rng {x : Opd} : xopK (.rng x) call fr H k = rngC (ev fr x) k H:=by
 show evK fr x (fun v=>vS v fun len n=>H.allocK (.iter len n 0) fun id H=>k (.p id 0) H) = _
 rw [evK_eq]
 unfold rngC
 congr 1
 funext len n
 rw [Heap.allocK_eq]
theorem rng_str {s : List UInt8} : rngC (str s) k H = k (.p H.next 0) (H.alloc (.iter s.length (pk s) 0)):=id rfl
noncomputable def nxtC (x : AV) (k : HK R) (H : Heap) : Option R:=vP x none fun a off=>guardK (Nat.beq off 0) (H.getK a fun b=>bI b (nxt2 a H k))
theorem x_nxt {x : Opd} : xopK (.nxt x) call fr H k = nxtC (ev fr x) k H:=by
 show evK fr x (fun v=>_) = _
 rw [evK_eq]; rfl
/-- The end of a text's runes. -/
theorem nxt_end {a : Pa} {s : List UInt8} (h : H.get a = .iter s.length (pk s) s.length) : nxtC (.p a 0) k H = k (.tu [.b false]) H:=by
 show H.getK a (fun b=>bI b (nxt2 a H k)) = _
 rw [Heap.getK_eq,h]
 show (Bool.casesOn (Nat.blt s.length s.length) (k (.tu [.b false]) H) _ : Option R) = _
 have : Nat.blt s.length s.length = false:=by
  cases e : Nat.blt s.length s.length with
  | false=>rfl
  | true=>have:=Nat.blt_eq.mp e; omega
 rw [this]
/-- A rune that is read,of so many bytes. -/
def Reads (s : List UInt8) (i c w : Nat) : Prop:=i < s.length∧∀ (R : Type) (k : Nat→Nat→Option R),decK s.length (pk s) i k = k c w
theorem nxt_at {a : Pa} {s : List UInt8} {i c w : Nat} (h : H.get a = .iter s.length (pk s) i) (hr : Reads s i c w) : nxtC (.p a 0) k H = k (.tu [.b true,.i .i64 (i : Int),.i .i32 (c : Int)]) (H.put a (.iter s.length (pk s) (i + w))):=by
 obtain ⟨h1,h2⟩:=hr
 show H.getK a (fun b=>bI b (nxt2 a H k)) = _
 rw [Heap.getK_eq,h]
 show (Bool.casesOn (Nat.blt i s.length) (k (.tu [.b false]) H) (decK s.length (pk s) i fun c w=>forceN (Nat.add i w) fun pos'=>H.putK a (.iter s.length (pk s) pos') fun H=>k (.tu [.b true,.i .i64 (.ofNat i),.i .i32 (.ofNat c)]) H) : Option R) = _
 rw [Nat.blt_eq.mpr h1,h2]
 show forceN (Nat.add i w) (fun pos'=>H.putK a (.iter s.length (pk s) pos') fun H=>k (.tu [.b true,.i .i64 (.ofNat i),.i .i32 (.ofNat c)]) H) = _
 rw [forceN_eq,Heap.putK_eq]; rfl
/-! Bytes read as a rune. -/
theorem decK_1 {s : List UInt8} {i : Nat} {b : UInt8} (h : s[i]? = some b) (hb : b.toNat < 128) : Reads s i b.toNat 1:=by
 obtain ⟨hl,e⟩:=List.getElem?_eq_some_iff.mp h
 refine ⟨hl,fun R k=>?_⟩
 unfold decK
 rw [byteAt_eq s i hl,e,forceN_eq]
 rw [Nat.blt_eq.mpr hb]
theorem contAt_yes {s : List UInt8} {i : Nat} {b : UInt8} (h : s[i]? = some b) (hb : b.toNat / 64 = 2) : contAt s.length (pk s) i = true:=by
 obtain ⟨hl,e⟩:=List.getElem?_eq_some_iff.mp h
 unfold contAt
 rw [Nat.blt_eq.mpr hl,byteAt_eq s i hl,e]
 show Nat.beq (b.toNat / 64) 2 = true
 rw [hb]; rfl
theorem byte_of {s : List UInt8} {i : Nat} {b : UInt8} (h : s[i]? = some b) : byteAt s.length (pk s) i = b.toNat:=by
 obtain ⟨hl,e⟩:=List.getElem?_eq_some_iff.mp h
 rw [byteAt_eq s i hl,e]
end
end Go.Vai

/- VAI,part s: a builder's bytes; runes of two,three,four bytes. -/
namespace Go.Vai
section
variable {R : Type}
theorem ext_2 {a b c : AV} {l : List AV} {k : HK R} {H : Heap} : extC 2 (.tu (a :: b :: c :: l)) k H = k c H:=id rfl
/-- Bytes that are held,in a block of some room. -/
def Buf (n0 : Nat) (e : Nat) (H : Heap) (x : AV) (s : List UInt8) (r : Nat) : Prop :=
 (x = .ns∧s = []∧r = 0) ∨ ∃ a L,x = .sl a 0 s.length none 1∧Row H a e L∧L.length = r∧s.length≤r∧L.take s.length = bcs s∧n0≤a.toN∧a.toN < H.next.toN
theorem Buf.len {n0 e r : Nat} {H : Heap} {x : AV} {s : List UInt8} (h : Buf n0 e H x s r) (k : HK R) (G : Heap) : lenC false x k G = k (.i .i64 (s.length : Int)) G:=by
 obtain ⟨rfl,rfl,_⟩ | ⟨a,L,rfl,_⟩:=h <;> rfl
theorem Buf.self {n0 e r : Nat} {H : Heap} {x : AV} {s : List UInt8} (h : Buf n0 e H x s r) : avEq x x = true∧avEq1 x x = true∧oneC x = true:=by
 obtain ⟨rfl,rfl,_⟩ | ⟨a,L,rfl,_⟩:=h
 ·exact ⟨avEq_ns,av1_ns,rfl⟩
 ·exact ⟨avEq_sl,av1_sl,rfl⟩
theorem Buf.off {n0 e r : Nat} {H : Heap} {x : AV} {s : List UInt8} (h : Buf n0 e H x s r) {b : Pa} (hb : b.toN < n0 ∨ H.next.toN≤b.toN) : Off x b:=by
 intro o l c z q
 obtain ⟨rfl,_⟩ | ⟨a,L,rfl,_,_,_,_,h0,h1⟩:=h
 ·cases q
 ·cases q; omega
theorem Buf.move {n0 e r : Nat} {H H' : Heap} {x : AV} {s : List UInt8} (h : Buf n0 e H x s r) (hn : H.next.toN≤H'.next.toN) (hg : ∀ b,b.toN < H.next.toN→¬ Off x b→H'.get b = H.get b) : Buf n0 e H' x s r:=by
 obtain h | ⟨a,L,rfl,⟨c,k1,k2⟩,h1,h2,h3,h4,h5⟩:=h
 ·exact Or.inl h
 ·exact Or.inr ⟨a,L,rfl,⟨c,by rw [hg a h5 (fun q=>q _ _ _ _ rfl),k1],k2⟩,h1,h2,h3,h4,Nat.lt_of_lt_of_le h5 hn⟩
theorem Buf.grow {n0 e r : Nat} {H H' : Heap} {x : AV} {s : List UInt8} (h : Buf n0 e H x s r) (g : Grow H H') : Buf n0 e H' x s r:=h.move g.next fun b hb _=>g.get b hb
theorem take_over {L : List AV} {s t : List UInt8} (h : L.take s.length = bcs s) (hl : s.length + t.length≤L.length) : (over L s.length (bcs t)).take (s ++ t).length = bcs (s ++ t):=by
 unfold over
 rw [h,List.take_append_of_le_length (by rw [List.length_append,List.length_append,bcs_len,bcs_len]; exact Nat.le_refl _),bcs_app]
 have : (s ++ t).length = (bcs s ++ bcs t).length:=by rw [List.length_append,List.length_append,bcs_len,bcs_len]
 rw [this,List.take_length]
/-- Bytes appended. -/
theorem Buf.app {n0 e r : Nat} {H : Heap} {x : AV} {s t : List UInt8} (h : Buf n0 e H x s r) (hn0 : n0≤H.next.toN) (ht : t ≠ []) (hf : (s ++ t).length≤r ∨ r = s.length) (hr : (s ++ t).length≤roomN) :
  ∃ H' x',Buf n0 e H' x' (s ++ t) (max r (s ++ t).length)∧H.next.toN≤H'.next.toN∧(∀ b,b.toN < H.next.toN→Off x b→H'.get b = H.get b)∧(∀ b,b.toN < H.next.toN→Off x b→Off x' b)∧(Fresh H→Fresh H') ∧
   ∀ (R : Type) (k : HK R) (y : AV),(∀ f : Nat→List AV→Option R,srcK 1 y H f = f t.length (bcs t))→appendK e 1 1 x y H k = k x' H':=by
 obtain ⟨m,hm⟩ : ∃ m,t.length = m + 1:=⟨t.length - 1,by have:=List.length_pos_iff.mpr ht; omega⟩
 have hst : (s ++ t).length = s.length + t.length:=List.length_append
 obtain ⟨rfl,rfl,rfl⟩ | ⟨a,L,rfl,hrow,hL,hs,hT,h0,h1⟩:=h
 ·have hz : max 0 ([] ++ t).length = t.length:=by rw [List.nil_append]; omega
  rw [hz,List.nil_append]
  refine ⟨H.alloc (.cells false 0 e (bcs t).length (setCells (bcs t) 0 .leaf)),.sl H.next 0 t.length none 1,Or.inr ⟨H.next,bcs t,rfl,Row.new H e (bcs t),bcs_len,Nat.le_refl _,?_,hn0,by rw [next_alloc]; omega⟩,(Grow.alloc H _).next,fun b hb _=>(Grow.alloc H _).get b hb,?_,(Grow.alloc H _).dead,fun R k y hy=>?_⟩
  ·rw [← bcs_len,List.take_length]
  ·intro b hb _ o l c z q
   cases q; omega
  ·rw [hm] at hy
   rw [app_ns hy bcs_one (by simp only [Nat.mul_one]; rw [← hm]; rw [List.nil_append] at hr; exact hr),hm]
 ·by_cases hfit : (s ++ t).length≤r
  ·have hz : max r (s ++ t).length = r:=by omega
   rw [hz]
   have hrow':=hrow
   obtain ⟨c,k1,k2⟩:=hrow'
   obtain ⟨H',r',b',n',est⟩:=hrow.store (ys:=bcs t) (off:=s.length) h1 (by rw [bcs_len]; omega) bcs_one
   refine ⟨H',.sl a 0 (s ++ t).length none 1,Or.inr ⟨a,_,rfl,r',?_,hfit,take_over hT (by omega),h0,by rw [n']; exact h1⟩,by rw [n']; exact Nat.le_refl _,fun b hb ho=>b'.get b hb (by intro q; subst q; exact ho _ _ _ _ rfl),?_,b'.dead,fun R k y hy=>?_⟩
   ·rw [over_len (by rw [bcs_len]; omega)]; exact hL
   ·intro b hb ho o l c z q
    cases q; exact ho _ _ _ _ rfl
   ·show srcK 1 y H (append2K e 1 1 (.sl a 0 s.length none 1) H k) = _
    rw [hy,hm]
    show guardK (oneCs (bcs t)) (guardK true (forceN (Nat.add s.length (m + 1)) fun need=>H.getK a fun b=>bC b (appOpen e 1 1 s.length 0 need a (bcs t) H k))) = _
    rw [oneCs_all bcs_one,forceN_eq,Heap.getK_eq,k1]
    show appOpen e 1 1 s.length 0 (s.length + (m + 1)) a (bcs t) H k false 0 e L.length c = _
    unfold appOpen
    show forceN (Nat.add 0 (Nat.mul s.length 1)) (fun at_=>guardK (Nat.ble 0 at_) (Bool.casesOn (Nat.ble (Nat.add 0 (Nat.mul (s.length + (m + 1)) 1)) L.length)
     (forceN (Bool.casesOn (Nat.beq e e) 0 e) fun e=>growK e 1 1 s.length 0 (s.length + (m + 1)) 0 a (bcs t) H c k)
     (setCellsK (bcs t) at_ c fun c=>H.putK a (.cells false 0 e L.length c) fun H=>k (.sl a 0 (s.length + (m + 1)) none 1) H))) = _
    have q : Nat.ble (Nat.add 0 (Nat.mul (s.length + (m + 1)) 1)) L.length = true:=Nat.ble_eq_true_of_le (by show 0 + (s.length + (m + 1)) * 1≤_; omega)
    rw [forceN_eq,Nat.ble_eq_true_of_le (Nat.zero_le _),q,hst,hm]
    have e1:=est R fun H=>k (.sl a 0 (s.length + (m + 1)) none 1) H
    rw [← e1]
    show setCellsK (bcs t) (0 + s.length * 1) c (fun c=>H.putK a (.cells false 0 e L.length c) fun H=>k (.sl a 0 (s.length + (m + 1)) none 1) H) = H.getK a fun b=>bC b fun ro fz e size c=>Bool.casesOn ro (store1K (bcs t) (bcs t).length s.length fz size c fun c=>H.putK a (.cells false fz e size c) fun H=>k (.sl a 0 (s.length + (m + 1)) none 1) H) none
    rw [Heap.getK_eq,k1]
    show _ = guardK (Nat.ble (Nat.add s.length (bcs t).length) L.length) (guardK (Nat.ble 0 s.length) (guardK (oneCs (bcs t)) (setCellsK (bcs t) s.length c fun c=>H.putK a (.cells false 0 e L.length c) fun H=>k (.sl a 0 (s.length + (m + 1)) none 1) H)))
    have q2 : Nat.ble (Nat.add s.length (bcs t).length) L.length = true:=Nat.ble_eq_true_of_le (by rw [bcs_len]; show s.length + t.length≤_; omega)
    rw [q2,Nat.ble_eq_true_of_le (Nat.zero_le _),oneCs_all bcs_one,Nat.zero_add,Nat.mul_one]
    rfl
  ·have hrs : r = s.length:=by rcases hf with hf | hf; exact absurd hf hfit; exact hf
   have hz : max r (s ++ t).length = (s ++ t).length:=by omega
   rw [hz]
   have hLs : L = bcs s:=by rw [← hT,← hrs,← hL,List.take_length]
   subst hLs
   obtain ⟨H',r',nx,gb,eq⟩:=app_sl (sz:=1) (bytes:=1) (n:=m) (len:=s.length) (ys:=bcs t) (by decide) hrow (by rw [bcs_len,Nat.mul_one]) (by rw [bcs_len,Nat.mul_one,hm]) bcs_one (by rw [Nat.mul_one,← hm,← hst]; exact hr) h1
   refine ⟨H',.sl H.next 0 (s ++ t).length none 1,Or.inr ⟨H.next,bcs s ++ bcs t,rfl,r',?_,Nat.le_refl _,?_,hn0,by rw [nx,Pa.toN_succ]; omega⟩,gb.next,fun b hb ho=>gb.get b hb (by intro q; subst q; exact ho _ _ _ _ rfl),?_,gb.dead,fun R k y hy=>?_⟩
   ·rw [List.length_append,bcs_len,bcs_len,hst]
   ·have : (s ++ t).length = (bcs s ++ bcs t).length:=by rw [List.length_append,List.length_append,bcs_len,bcs_len]
    rw [this,List.take_length,bcs_app]
   ·intro b hb _ o l c z q
    cases q; omega
   ·rw [hm] at hy
    rw [eq R k y hy,hst,hm]
theorem Buf.app0 {n0 e r : Nat} {H : Heap} {x : AV} {s : List UInt8} (h : Buf n0 e H x s r) (k : HK R) : appendK e 1 1 x (str []) H k = k x H:=by
 obtain ⟨rfl,rfl,_⟩ | ⟨a,L,rfl,_⟩:=h
 ·exact app_none (fun f=>src_str f) (a:=.h) (off:=0) (len:=0) (c:=none) (Or.inr rfl)
 ·exact app_none (fun f=>src_str f) (a:=a) (off:=0) (len:=s.length) (c:=none) (Or.inl rfl)
/-! Runes of more bytes. -/
theorem Reads.b2 {s : List UInt8} {i : Nat} {b0 b1 : UInt8} {c : Nat} (h0 : s[i]? = some b0) (h1 : s[i + 1]? = some b1) (k0 : b0.toNat / 32 = 6) (k1 : b1.toNat / 64 = 2) (hc : c = b0.toNat % 32 * 64 + b1.toNat % 64) (hc2 : 128≤c) : Reads s i c 2:=by
 obtain ⟨hl,e⟩:=List.getElem?_eq_some_iff.mp h0
 refine ⟨hl,fun R k=>?_⟩
 unfold decK
 rw [byte_of h0,forceN_eq]
 have q : Nat.blt b0.toNat 128 = false:=by
  cases q : Nat.blt b0.toNat 128 with
  | false=>rfl
  | true=>have:=Nat.blt_eq.mp q; omega
 rw [q]
 show decN s.length (pk s) i b0.toNat k = _
 unfold decN
 rw [contAt_yes h1 k1]
 have q2 : (Nat.beq (Nat.div b0.toNat 32) 6 && true) = true:=by
  show (Nat.beq (b0.toNat / 32) 6 && true) = true
  rw [k0]; rfl
 rw [q2]
 show dec2 s.length (pk s) i b0.toNat k = _
 unfold dec2
 rw [byte_of h1,forceN_eq]
 show (Bool.casesOn (Nat.ble 128 (b0.toNat % 32 * 64 + b1.toNat % 64)) (k 65533 1) (k (b0.toNat % 32 * 64 + b1.toNat % 64) 2) : Option R) = _
 rw [← hc,Nat.ble_eq_true_of_le hc2]
theorem Reads.b3 {s : List UInt8} {i : Nat} {b0 b1 b2 : UInt8} {c : Nat} (h0 : s[i]? = some b0) (h1 : s[i + 1]? = some b1) (h2 : s[i + 2]? = some b2) (k0 : b0.toNat / 16 = 14) (k1 : b1.toNat / 64 = 2) (k2 : b2.toNat / 64 = 2)
  (hc : c = b0.toNat % 16 * 4096 + b1.toNat % 64 * 64 + b2.toNat % 64) (hc2 : (Nat.ble 2048 c && validN c) = true) : Reads s i c 3:=by
 obtain ⟨hl,e⟩:=List.getElem?_eq_some_iff.mp h0
 refine ⟨hl,fun R k=>?_⟩
 unfold decK
 rw [byte_of h0,forceN_eq]
 have q : Nat.blt b0.toNat 128 = false:=by
  cases q : Nat.blt b0.toNat 128 with
  | false=>rfl
  | true=>have:=Nat.blt_eq.mp q; omega
 rw [q]
 show decN s.length (pk s) i b0.toNat k = _
 unfold decN
 rw [contAt_yes h1 k1,contAt_yes h2 k2]
 have q2 : (Nat.beq (Nat.div b0.toNat 32) 6 && true) = false:=by
  show (Nat.beq (b0.toNat / 32) 6 && true) = false
  rw [show b0.toNat / 32 = 7 by omega]; rfl
 have q3 : (Nat.beq (Nat.div b0.toNat 16) 14 && true && true) = true:=by
  show (Nat.beq (b0.toNat / 16) 14 && true && true) = true
  rw [k0]; rfl
 rw [q2,q3]
 show dec3 s.length (pk s) i b0.toNat k = _
 unfold dec3
 rw [byte_of h1,byte_of h2,forceN_eq]
 show (Bool.casesOn (Nat.ble 2048 (b0.toNat % 16 * 4096 + b1.toNat % 64 * 64 + b2.toNat % 64) && validN (b0.toNat % 16 * 4096 + b1.toNat % 64 * 64 + b2.toNat % 64)) (k 65533 1) (k (b0.toNat % 16 * 4096 + b1.toNat % 64 * 64 + b2.toNat % 64) 3) : Option R) = _
 rw [← hc,hc2]
theorem Reads.b4 {s : List UInt8} {i : Nat} {b0 b1 b2 b3 : UInt8} {c : Nat} (h0 : s[i]? = some b0) (h1 : s[i + 1]? = some b1) (h2 : s[i + 2]? = some b2) (h3 : s[i + 3]? = some b3) (k0 : b0.toNat / 8 = 30) (k1 : b1.toNat / 64 = 2) (k2 : b2.toNat / 64 = 2) (k3 : b3.toNat / 64 = 2)
  (hc : c = b0.toNat % 8 * 262144 + b1.toNat % 64 * 4096 + b2.toNat % 64 * 64 + b3.toNat % 64) (hc2 : (Nat.ble 65536 c && validN c) = true) : Reads s i c 4:=by
 obtain ⟨hl,e⟩:=List.getElem?_eq_some_iff.mp h0
 refine ⟨hl,fun R k=>?_⟩
 unfold decK
 rw [byte_of h0,forceN_eq]
 have q : Nat.blt b0.toNat 128 = false:=by
  cases q : Nat.blt b0.toNat 128 with
  | false=>rfl
  | true=>have:=Nat.blt_eq.mp q; omega
 rw [q]
 show decN s.length (pk s) i b0.toNat k = _
 unfold decN
 rw [contAt_yes h1 k1,contAt_yes h2 k2,contAt_yes h3 k3]
 have q2 : (Nat.beq (Nat.div b0.toNat 32) 6 && true) = false:=by
  show (Nat.beq (b0.toNat / 32) 6 && true) = false
  rw [show b0.toNat / 32 = 7 by omega]; rfl
 have q3 : (Nat.beq (Nat.div b0.toNat 16) 14 && true && true) = false:=by
  show (Nat.beq (b0.toNat / 16) 14 && true && true) = false
  rw [show b0.toNat / 16 = 15 by omega]; rfl
 have q4 : (Nat.beq (Nat.div b0.toNat 8) 30 && true && true && true) = true:=by
  show (Nat.beq (b0.toNat / 8) 30 && true && true && true) = true
  rw [k0]; rfl
 rw [q2,q3,q4]
 show dec4 s.length (pk s) i b0.toNat k = _
 unfold dec4
 rw [byte_of h1,byte_of h2,byte_of h3,forceN_eq]
 show (Bool.casesOn (Nat.ble 65536 (b0.toNat % 8 * 262144 + b1.toNat % 64 * 4096 + b2.toNat % 64 * 64 + b3.toNat % 64) && validN (b0.toNat % 8 * 262144 + b1.toNat % 64 * 4096 + b2.toNat % 64 * 64 + b3.toNat % 64)) (k 65533 1) (k (b0.toNat % 8 * 262144 + b1.toNat % 64 * 4096 + b2.toNat % 64 * 64 + b3.toNat % 64) 4) : Option R) = _
 rw [← hc,hc2]
end
end Go.Vai

/- VAI,part t: a law of inputs that lie in memory: its example holds,and its rest says yes. -/
namespace Go.Vai
section
variable {P : Program} {pr : Pr} {ng : Nat} {ι : Emb} {H : Heap}
/-- A law whose example holds,and whose rest says yes. -/
theorem law_on {Φ : Tr AF} (hΦ : TblOK P Φ) {fuel f kn : Nat} {fn : Func} (hf : P.funcs[f]? = some fn) {args : List AV} {args' : Array Value} {W : World} {l : List (Nat × List AV)} {ι0 : Emb} {H0 : Heap} (R0 : Rel (keepAll W) P.globals.size ι0 H0 W.heap) (hn : P.globals.size≤W.heap.size)
  (hl : ∀ x ∈ l,x.1 < P.globals.size∧Knows W x) (hv : VRs ι0 args args'.toList)
  (hkn : ∀ w : World,P.globals.size≤w.heap.size→(∀ x ∈ l,Knows w x)→Calls P kn #[] w fun e w'=>e = .returned (.bool true)∧Go.RowKit.Below w.heap.size w w')
  (h : lawK Φ fuel (toPa kn) ((compF P fn).getD dfl) args H0 = some ()) : Calls P f args' W fun e w'=>e = .returned (.bool true)∧Go.RowKit.Below W.heap.size W w':=by
 cases hcf : compF P fn with
 | none=>rw [hcf] at h; cases h
 | some af =>
  rw [hcf] at h
  replace h : lawK Φ fuel (toPa kn) af args H0 = some ():=h
  unfold lawK at h
  split at h
  ·rename_i lA d g lB oc cT r res
   obtain ⟨hg,hrest⟩:=guardK_some h
   clear h
   have hg:=Pa.same_eq hg
   subst hg
   obtain ⟨_,c,ac,rs,hb,hcc,hrs,e⟩:=compF_some hcf
   cases e
   obtain ⟨cA,c1,e1,hA,h1⟩:=compC_seq hcc
   obtain ⟨c2,cR,e2,h2,hR⟩:=compC_seq h1
   obtain ⟨cB,cC,e3,hB,hC⟩:=compC_seq h2
   obtain ⟨idA,opsA,e4,hlA⟩:=compC_ops hA
   obtain ⟨idB,opsB,e5,hlB⟩:=compC_ops hB
   obtain ⟨xo,cT',cS,e6,hxo,_,hS⟩:=compC_cond hC
   subst e1 e2 e3 e4 e5 e6
   refine (callsIn_wide.1 (callsIn_of_wp_marks (F:=Fence.wide) (n:=0) (R:=fun e w'=>∃ v H' v' ι',yesK v H' = some ()∧e = .returned v'∧Ext ι' ι'∧Rel (keepAll W) P.globals.size ι' H' w'.heap∧Fr (keepAll W) W w'∧VR ι' v v') hf hb trivial (wpIn_wide.2 ?_))).mono ?_
   rotate_left
   ·rintro e w' ⟨v,H',v',ι',q1,q2,_,_,q3,q4⟩
    rw [yesK_some q1] at q4
    rw [VRb q4] at q2
    exact ⟨q2,⟨q3.os,q3.tape,q3.output,q3.size,fun b hb=>q3.keep b (.inl hb)⟩⟩
   unfold restK at hrest
   obtain ⟨t',g1,g2⟩:=argsK_eq args 0 .leaf (fun fr=>opsK (fun _ _ _ _=>none) lA fr H0 fun fr H=>putK d (.b true) fr fun fr=>opsK (fun _ _ _ _=>none) lB fr H fun fr H =>
    evK fr oc fun v=>vB v fun t=>Bool.casesOn t (runK Φ fuel Unit r fr H (leaveK res yesK)) none)
   rw [g1] at hrest
   have hat0 : At P (keepAll W) fn.ntmps ι0 H0 t' { tmps:=args' ++ Array.replicate (fn.ntmps - args'.size) undef,defers:=[] } W :=
    ⟨⟨R0,args_ok hv g2 _⟩,by show fn.ntmps≤(args' ++ Array.replicate (fn.ntmps - args'.size) undef).size; simp; omega,rfl⟩
   refine wp_seq (wp_region ?_)
   rw [List.range_eq_range']
   refine ops_ok hlA noCall_ok opsA.size 0 _ H0 t' _ W (by omega) hat0 hrest fun fr1 H1 ι1 a1 w1 k1 _ hat1 hfr1=>?_
   show (Code.seq (Code.seq (Code.region idB opsB false) (Code.cond xo cT' cS)) cR).wp P _ a1 w1
   refine wp_seq (wp_seq (wp_region ?_))
   rw [putK_eq] at k1
   obtain ⟨hlen,hget⟩:=mapM_get hlB
   have hlen : lB.length + 1 = opsB.size:=by simpa using hlen
   have h0 : 0 < opsB.size:=by omega
   have ho0 : opsB[0]? = some opsB[0]:=getElem?_pos _ _ _
   obtain ⟨ai,hai,hcomp⟩:=hget 0 opsB[0] (by rw [Array.getElem?_toList]; exact ho0)
   have hai : ai = ⟨d,none,.call (toPa kn) []⟩:=by simpa using hai.symm
   obtain ⟨d',g',hd,e7,hgd⟩:=compAI_some hcomp
   rw [hai] at e7
   have ed : d = d':=by injection e7
   have eg : g' = none:=by injection e7 with _ q _; exact q.symm
   have eo : compOp P opsB[0] = some (.call (toPa kn) []):=by
    have : (compOp P opsB[0]).getD .bad = .call (toPa kn) []:=by injection e7 with _ _ q; exact q.symm
    cases hq : compOp P opsB[0] with
    | none=>rw [hq] at this; cases this
    | some q=>rw [hq] at this; exact congrArg some this
   subst ed
   have hguard : (opsB[0]).guard = none:=by
    rcases hgd with ⟨q,_⟩ | ⟨_,_,_,_,_,_,q⟩
    ·exact q
    ·rw [eg] at q; cases q
   have hcall : ∃ c,(opsB[0]).op = .call c∧compCall P c = some (.call (toPa kn) []):=by
    cases ho : (opsB[0]).op
    case call c =>
     unfold compOp at eo
     rw [ho] at eo
     exact ⟨c,rfl,eo⟩
    all_goals exact (compOp_call (by rw [ho]; intro c e; cases e) eo).elim
   obtain ⟨c,ho,hcc2⟩:=hcall
   obtain ⟨hcv,hargs,fk,bk,hfk,hnk,hbk⟩:=compCall_fn hcc2
   have hempty : c.args = #[]:=by
    have hm:=(mapM_get (f:=compOpd P) (l:=c.args.toList) (ys:=[]) hargs).1
    exact Array.toList_eq_nil_iff.mp (List.eq_nil_of_length_eq_zero hm.symm)
   have hL : List.range opsB.size = 0 :: List.range' 1 lB.length:=by
    rw [← hlen,List.range_eq_range']
    rfl
   rw [hL]
   show wpOps P opsB _ (0 :: List.range' 1 lB.length) a1 w1
   unfold wpOps
   rw [ho0]
   show (if Region.wanted opsB[0] (yielded opsB a1.tmps) then _ else _)
   have hw : Region.wanted opsB[0] (yielded opsB a1.tmps) = true:=by unfold Region.wanted; rw [hguard]
   rw [hw,if_pos rfl]
   left
   have hrun : (execOp a1.eval opsB[0]).run P w1 = .ok (.enter kn #[]) w1:=by
    have hev : (Act.eval a1 (.func kn)) = .func (.func kn) #[] #[]:=rfl
    rw [execOp_call ho,resolve_value hcv,hev,hempty]
    simp only [Deferred.ofValue,Sem.run_bind,Sem.run_pure,Result.andThen_ok,invoke]
    rw [show (#[] ++ Array.map a1.eval #[] ++ #[] : Array Value) = #[] by simp]
    exact run_callFunc_body hfk hnk hbk _
   unfold Oper.wp
   rw [hrun]
   have hkeep1 : ∀ b,b < W.heap.size→w1.heap[b]? = W.heap[b]?:=fun b hb=>hfr1.keep b (.inl hb)
   refine (hkn w1 (Nat.le_trans hn hfr1.size) fun x hx=>knows_keep (hl x hx).2 hkeep1).mono ?_
   rintro e w2 ⟨rfl,hbel⟩
   have R2 : Rel (keepAll W) P.globals.size ι1 H1 w2.heap:=hat1.ctx.rel.below hbel.size hbel.block
   have hat2:=hat1.put hd (Ext.refl ι1) R2 (v:=.b true) (v':=.bool true) rfl
   have hfr2 : Fr (keepAll W) W w2:=⟨hbel.os.trans hfr1.os,hbel.tape.trans hfr1.tape,hbel.output.trans hfr1.output,Nat.le_trans hfr1.size hbel.size,fun b hb=>by
    have hb' : b < W.heap.size:=by
     rcases hb with q | q
     ·exact q
     ·exact q.elim
    rw [hbel.block b (Nat.lt_of_lt_of_le hb' hfr1.size)]; exact hfr1.keep b hb⟩
   refine ops_ok hlB noCall_ok lB.length 1 ι1 H1 _ _ w2 (by omega) hat2 k1 fun fr3 H3 ι3 a3 w3 k3 _ hat3 hfr3=>?_
   show (Code.cond xo cT' cS).wp P _ a3 w3
   rw [evK_eq] at k3
   obtain ⟨tt,e8,k4⟩:=vB_some k3
   cases tt with
   | true=>cases k4
   | false =>
    have hvo:=hat3.ctx.opd hxo
    rw [e8] at hvo
    refine wp_cond (VRb hvo) ?_
    rw [if_neg (by simp)]
    refine compC_skip hS ?_
    show cR.wp P _ a3 w3
    have k4 : runK Φ fuel Unit r fr3 H3 (leaveK res yesK) = some ():=k4
    have hfr13:=hfr2.trans hfr3
    refine wpIn_wide.1 ((runK_ok hΦ (drawOK P) fuel).ok none 0 Unit (keepAll W) fn.ntmps cR r hR (fun q=>by cases q) ι3 H3 fr3 a3 w3 _ () hat3 ⟨(fun d hd=>by cases hd),List.Pairwise.nil⟩ k4 _ ?_).1
    intro e fr' H' ι' a' w' pr' h5 hext hat hfr hm
    have leave : resK res fr' H' (fun l=>oneRes l H' yesK) = some ()→LeavesInM Fence.wide 0 P fn a'.tmps (fun e w'=>∃ v H' v' ι',yesK v H' = some ()∧e = .returned v'∧Ext ι' ι'∧Rel (keepAll W) P.globals.size ι' H' w'.heap∧Fr (keepAll W) W w'∧VR ι' v v') a'.defers .returning w':=by
     intro h6
     rw [hat.nd]
     have:=leaves_ok (pr0:=keepAll W) (w0:=W) (ι0:=ι') hrs h6 (Ext.refl _) hat.ctx.fr pr'.ds w' (hat.ctx.rel.less hm.le hm.hard hm.res) (fun d hd=>by
      obtain ⟨D,q1,q2,q3⟩:=hm.coll.1 d hd
      refine ⟨D,q1,q3,fun q=>?_⟩
      rcases hm.new d hd with g | ⟨D',g1,g2⟩
      ·cases g
      ·rw [q1] at g1
       cases g1
       exact g2 q) hm.coll.2 (hfr13.trans hfr)
     exact leaves_mono (fun e w' ⟨v,H',v',ι',q1,q2,_,q4,q5,q6⟩=>⟨v,H',v',ι',q1,q2,Ext.refl _,q4,q5,q6⟩) (fun d hd=>by obtain ⟨D,q,_⟩:=hm.coll.1 d hd; exact ⟨D,by rw [q]⟩) this
    cases e with
    | norm=>exact leave h5
    | ret=>exact leave h5
    | exit id=>cases h5
  ·cases h
end
end Go.Vai

/- VAI,part u: inputs that lie in memory: blocks that are read alone,laid over what is there. -/
namespace Go.Vai
section
variable {P : Program} {ng : Nat} {ι : Emb} {H : Heap} {W : World}
/-- No block here may be written. -/
def NoWr (H : Heap) : Prop:=∀ a,(H.get a).wr = false
theorem Rel.ro (R : Rel (keepAll W) ng ι H W.heap) (hw : NoWr H) {b e : Nat} {cs : Array Value} {f : Nat × Nat} (hb : W.heap[b]? = some (.cells cs e f)) {d : Nat} {avs : List AV} (hd : d + avs.length≤cs.size)
  (hv : ∀ i x,avs[i]? = some x→∃ v,cs[d + i]? = some v∧VR ι x v) :
  Ext ι (ι.add H.next ⟨b,d,avs.length,cs.size⟩)∧NoWr (H.alloc (.cells true 0 0 avs.length (setCells avs 0 .leaf)))∧Rel (keepAll W) ng (ι.add H.next ⟨b,d,avs.length,cs.size⟩) (H.alloc (.cells true 0 0 avs.length (setCells avs 0 .leaf))) W.heap:=by
 have hnone : ι H.next = none:=R.fresh _ (Nat.le_refl _)
 have hext:=Ext.add (ι:=ι) (⟨b,d,avs.length,cs.size⟩ : Inj) hnone
 have hnext : (H.alloc (.cells true 0 0 avs.length (setCells avs 0 .leaf))).next.toN = H.next.toN + 1:=Pa.toN_succ _
 have hblt:=(Array.getElem?_eq_some_iff.mp hb).1
 have hwr : NoWr (H.alloc (.cells true 0 0 avs.length (setCells avs 0 .leaf))):=by
  intro a
  rw [Heap.get_alloc]
  by_cases q : H.next = a
  ·rw [if_pos q]; rfl
  ·rw [if_neg q]; exact hw a
 refine ⟨hext,hwr,?_,?_,?_,?_,?_,?_,?_,?_⟩
 ·intro a ha
  rw [hnext] at ha
  rw [Emb.add_ne]
  ·exact R.fresh a (by omega)
  ·intro q; subst q; omega
 ·intro a ha
  rw [hnext] at ha
  rw [Heap.get_alloc,if_neg (by intro q; subst q; omega)]
  exact R.freshH a (by omega)
 ·intro a
  rw [Heap.get_alloc]
  by_cases q : H.next = a
  ·subst q
   rw [if_pos rfl,Emb.add_same]
   refine ⟨_,rfl,CR.of _ _ true 0 0 e avs _ _ _ cs f rfl hb (fun h=>(h rfl).elim) rfl hd (fun i x hx=>?_) (fun i x hx=>?_) (fun h=>by cases h),fun h=>h.elim⟩
   ·have:=cell_at avs i
    rw [hx] at this
    exact this
   ·obtain ⟨v,h1,h2⟩:=hv i x hx
    exact ⟨v,h1,VR_mono hext _ _ h2⟩
  ·rw [if_neg q,Emb.add_ne _ _ (Ne.symm q)]
   exact (R.dom a).mono hext (fun j hj=>hj) fun k hk=>rfl
 ·intro a c k k' hac hwa
  rw [hwr a] at hwa; cases hwa
 ·intro a k hk
  by_cases q : a = H.next
  ·subst q; rw [Emb.add_same] at hk; cases hk; exact hblt
  ·rw [Emb.add_ne _ _ q] at hk; exact R.lt a k hk
 ·exact R.prot
 ·intro g hg
  obtain ⟨n,m,q⟩:=R.glob g hg
  exact ⟨n,m,hext _ _ q⟩
 ·intro a ha; exact ha.elim
/-- Rows one behind the other. -/
theorem flat_at {α : Type} {z : Nat} : ∀ {ls : List (List α)},(∀ l ∈ ls,l.length = z)→ls.flatten.length = ls.length * z∧∀ i k,k < z→ls.flatten[i * z + k]? = (ls[i]?).bind fun l=>l[k]?
 | [],_=>⟨by simp,fun i k _=>by simp⟩
 | l :: ls,h=>by
  obtain ⟨h1,h2⟩:=flat_at fun x hx=>h x (List.mem_cons_of_mem _ hx)
  have hl:=h l (List.mem_cons_self ..)
  refine ⟨by rw [List.flatten_cons,List.length_append,h1,hl,List.length_cons,Nat.add_mul]; omega,fun i k hk=>?_⟩
  rw [List.flatten_cons]
  cases i with
  | zero =>
   rw [Nat.zero_mul,Nat.zero_add,List.getElem?_append_left (by omega)]; rfl
  | succ i =>
   rw [Nat.add_mul,Nat.one_mul,List.getElem?_append_right (by omega),show i * z + z + k - l.length = i * z + k by omega,h2 i k hk]; rfl
theorem flat_part {α : Type} {z : Nat} {ls : List (List α)} (h : ∀ l ∈ ls,l.length = z) {i : Nat} {l : List α} (hi : ls[i]? = some l) : (ls.flatten.drop (i * z)).take z = l:=by
 obtain ⟨h1,h2⟩:=flat_at h
 have hl : l.length = z:=h l (List.mem_of_getElem? hi)
 apply List.ext_getElem?
 intro k
 by_cases hk : k < z
 ·rw [List.getElem?_take_of_lt hk,List.getElem?_drop,h2 i k hk,hi]; rfl
 ·rw [List.getElem?_eq_none (by rw [List.length_take]; omega),List.getElem?_eq_none (by omega)]
/-- Cells read one behind the other. -/
theorem cells_of {a : Addr} {n : Nat} {l : List Value} (h : W.cells? 0 a n = some l) : l.length = n∧∀ k,k < n→W.cell? (a.add k) = l[k]?:=by
 unfold World.cells? at h
 rw [if_pos (Nat.zero_le _)] at h
 obtain ⟨h1,h2⟩:=mapM_get h
 rw [List.length_range] at h1
 refine ⟨h1,fun k hk=>?_⟩
 obtain ⟨y,e1,e2⟩:=h2 k k (List.getElem?_range hk)
 rw [e1,e2]
theorem cell_in {a : Addr} {v : Value} (h : W.cell? a = some v) : ∃ cs e f,W.heap[a.block]? = some (.cells cs e f)∧a.spot = none∧cs[a.off]? = some v:=by
 unfold World.cell? at h
 split at h
 ·rename_i cs e f hb
  split at h
  ·cases h
  ·rename_i hs
   refine ⟨cs,e,f,hb,?_,h⟩
   cases q : a.spot with
   | none=>rfl
   | some x=>rw [q] at hs; exact (hs rfl).elim
 ·cases h
theorem cell_add {a : Addr} {cs : Array Value} {e : Nat} {f : Nat × Nat} (hb : W.heap[a.block]? = some (.cells cs e f)) (hs : a.spot = none) (m k : Nat) : W.cell? ((a.add m).add k) = cs[a.off + m + k]?:=by
 have e1 : ((a.add m).add k).block = a.block∧((a.add m).add k).off = a.off + m + k∧((a.add m).add k).spot = none:=by
  unfold Addr.add
  by_cases h1 : m = 0
  ·rw [if_pos h1]
   by_cases h2 : k = 0
   ·rw [if_pos h2]; exact ⟨rfl,by omega,hs⟩
   ·rw [if_neg h2]; exact ⟨rfl,by show a.off + k = _; omega,rfl⟩
  ·rw [if_neg h1]
   by_cases h2 : k = 0
   ·rw [if_pos h2]; exact ⟨rfl,by show a.off + m = _; omega,rfl⟩
   ·rw [if_neg h2]; exact ⟨rfl,rfl,rfl⟩
 unfold World.cell?
 rw [e1.1,hb]
 show (if ((a.add m).add k).spot.isSome = true then none else cs[((a.add m).add k).off]?) = _
 rw [e1.2.2,e1.2.1]; rfl
/-- A slice's cells in the model's memory. -/
theorem slice_in {a : Addr} {cap z : Nat} (hz : 0 < z) (hcap : 0 < cap) (h : ∀ i,i < cap→∃ l,W.cells? 0 (a.add (i * z)) z = some l) :
  ∃ cs e f,W.heap[a.block]? = some (.cells cs e f)∧a.spot = none∧a.off + cap * z≤cs.size∧∀ i l,W.cells? 0 (a.add (i * z)) z = some l→l.length = z∧∀ k,k < z→cs[a.off + i * z + k]? = l[k]?:=by
 obtain ⟨l0,h0⟩:=h 0 hcap
 obtain ⟨q1,q2⟩:=cells_of h0
 have h00:=q2 0 hz
 have ha : (a.add (0 * z)).add 0 = a:=by unfold Addr.add; rw [Nat.zero_mul]; rfl
 rw [ha,List.getElem?_eq_getElem (by omega)] at h00
 obtain ⟨cs,e,f,hb,hs,_⟩:=cell_in h00
 have hall : ∀ i l,W.cells? 0 (a.add (i * z)) z = some l→l.length = z∧∀ k,k < z→cs[a.off + i * z + k]? = l[k]?:=by
  intro i l hl
  obtain ⟨r1,r2⟩:=cells_of hl
  refine ⟨r1,fun k hk=>?_⟩
  rw [← r2 k hk,cell_add hb hs]
 refine ⟨cs,e,f,hb,hs,?_,hall⟩
 obtain ⟨l,hl⟩:=h (cap - 1) (by omega)
 obtain ⟨r1,r2⟩:=hall _ l hl
 have:=r2 (z - 1) (by omega)
 rw [List.getElem?_eq_getElem (by omega)] at this
 have hlt:=(Array.getElem?_eq_some_iff.mp this).1
 have e1 : cap * z = (cap - 1) * z + z:=by
  obtain ⟨c,rfl⟩ : ∃ c,cap = c + 1:=⟨cap - 1,by omega⟩
  rw [Nat.add_sub_cancel,Nat.add_mul,Nat.one_mul]
 omega
/-- A slice laid: a block that is read alone over its cells. -/
theorem Rel.slice (R : Rel (keepAll W) ng ι H W.heap) (hw : NoWr H) (hk : ∃ (b e : Nat) (cs : Array Value) (f : Nat × Nat),W.heap[b]? = some (.cells cs e f)) {a : Addr} {len cap z : Nat} (hz : 0 < z) (hlc : len≤cap) (h : ∀ i,i < cap→∃ l,W.cells? 0 (a.add (i * z)) z = some l)
  {ass : List (List AV)} (hl : ass.length = len) (hv : ∀ i l bs,i < len→W.cells? 0 (a.add (i * z)) z = some l→ass[i]? = some bs→VRs ι bs l) (hzs : ∀ bs ∈ ass,bs.length = z) :
  ∃ ι',Ext ι ι'∧NoWr (H.alloc (.cells true 0 0 ass.flatten.length (setCells ass.flatten 0 .leaf)))∧Rel (keepAll W) ng ι' (H.alloc (.cells true 0 0 ass.flatten.length (setCells ass.flatten 0 .leaf))) W.heap∧VR ι' (.sl H.next 0 len none z) (.slice (some a) len cap):=by
 obtain ⟨f1,f2⟩:=flat_at hzs
 have hm : len * z≤cap * z:=Nat.mul_le_mul_right z hlc
 by_cases hcap : cap = 0
 ·have hl0 : len = 0:=by omega
  have hass : ass = []:=List.length_eq_zero_iff.mp (by omega)
  subst hass
  obtain ⟨b,e,cs,f,hb⟩:=hk
  obtain ⟨x1,x2,x3⟩:=R.ro hw hb (d:=0) (avs:=[]) (by show 0≤_; omega) (fun i x hx=>by cases hx)
  refine ⟨_,x1,x2,x3,a,cap,⟨b,0,0,cs.size⟩,rfl,Emb.add_same _ _ _,hlc,fun k q=>(by cases q),fun _=>Nat.zero_le _,.inl hcap,?_,?_⟩
  ·rw [hcap]; show 0 + 0 + 0 * z≤cs.size; omega
  ·rw [hl0]; show 0 + 0 * z≤0; omega
 ·obtain ⟨cs,e,f,hb,hs,hsz,hall⟩:=slice_in hz (by omega) h
  have hfl : ass.flatten.length = len * z:=by rw [f1,hl]
  obtain ⟨x1,x2,x3⟩:=R.ro hw hb (d:=a.off) (avs:=ass.flatten) (by omega) (fun q x hx=>by
   have hq : q < len * z:=by rw [← hfl]; exact (List.getElem?_eq_some_iff.mp hx).1
   have hi : q / z < len:=(Nat.div_lt_iff_lt_mul hz).mpr hq
   have hkz : q % z < z:=Nat.mod_lt _ hz
   have eq : q = q / z * z + q % z:=by rw [Nat.mul_comm]; exact (Nat.div_add_mod q z).symm
   obtain ⟨l,hl2⟩:=h (q / z) (by omega)
   obtain ⟨r1,r2⟩:=hall _ l hl2
   have has : ass[q / z]? = some ass[q / z]:=List.getElem?_eq_getElem (by omega)
   have hx2:=f2 (q / z) (q % z) hkz
   rw [← eq,hx,has] at hx2
   obtain ⟨v,e1,e2⟩:=VRs_get (hv _ l _ hi hl2 has) (q % z) x hx2.symm
   refine ⟨v,?_,e2⟩
   rw [eq,← Nat.add_assoc,r2 _ hkz,e1])
  refine ⟨_,x1,x2,x3,a,cap,⟨a.block,a.off,ass.flatten.length,cs.size⟩,rfl,Emb.add_same _ _ _,hlc,fun k q=>(by cases q),fun _=>?_,.inr ?_,?_,?_⟩
  ·show ass.flatten.length≤0 + cap * z; omega
  ·cases a; cases hs; rfl
  ·show a.off + 0 + cap * z≤cs.size; omega
  ·show 0 + len * z≤ass.flatten.length; omega
end
end Go.Vai

/- VAI,part v: the equations of the abstract run,in one. -/
namespace Go.Vai
set_option maxRecDepth 100000
set_option linter.defProp false
def EX:=(And.intro (And.intro (And.intro (And.intro (And.intro (And.intro (And.intro @run_seq (And.intro @run_ops @run_draw)) (And.intro @run_cond (And.intro @run_block @run_exit))) (And.intro (And.intro @run_ret (And.intro @run_skip @then_norm)) (And.intro @then_exit (And.intro @then_ret @norm_ap)))) (And.intro (And.intro (And.intro @block_norm (And.intro @block_exit @block_ret)) (And.intro @ops_O (And.intro @ops_O_ @ops_G))) (And.intro (And.intro @ops_nil (And.intro @rest_ap @rest__ap)) (And.intro @ask_tt (And.intro @ask_ff @ask_tf))))) (And.intro (And.intro (And.intro (And.intro @ask_ft (And.intro @ask_un @x_mv)) (And.intro @x_pick (And.intro @pick_t @pick_f))) (And.intro (And.intro @x_bin (And.intro @x_box @x_fa)) (And.intro @x_ld (And.intro @x_st @x_call)))) (And.intro (And.intro (And.intro @x_not (And.intro @not_b @x_neg)) (And.intro @neg_i (And.intro @x_new @x_ext))) (And.intro (And.intro @ext_0 (And.intro @ext_1 @x_nilck)) (And.intro (And.intro @nil_p @x_build) (And.intro @x_bsl @x_len)))))) (And.intro (And.intro (And.intro (And.intro (And.intro @x_mkif (And.intro @box_ag @fa_p)) (And.intro @frame_nil (And.intro @frame_cons @V_S))) (And.intro (And.intro @V_leaf (And.intro @ev_T @ev_K)) (And.intro @i_eql (And.intro @i_neq @i_lss)))) (And.intro (And.intro (And.intro @i_leq (And.intro @i_gtr @i_geq)) (And.intro @len_str (And.intro @cond_t @cond_f))) (And.intro (And.intro @leave_norm (And.intro @leave_ret @res_0)) (And.intro @res_1 (And.intro @res_2 @res_c))))) (And.intro (And.intro (And.intro (And.intro @List.map_cons.{0,0} (And.intro @List.map_nil.{0,0} @decide_true)) (And.intro @decide_false (And.intro @Bool.not_true @Bool.not_false))) (And.intro (And.intro @if_true.{1} (And.intro @if_false.{1} @x_ixa)) (And.intro @len_sl (And.intro @len_ns @x_sll)))) (And.intro (And.intro (And.intro @Option.map_some.{0,0} (And.intro @Option.map_none.{0,0} @x_ixs)) (And.intro @x_sls (And.intro @x_cvi @cvi_i))) (And.intro (And.intro @x_app (And.intro @x_b2s @b2s_ns)) (And.intro (And.intro @draw_eq @ids_0) (And.intro @ids_1 @ids_2))))))) (And.intro (And.intro (And.intro (And.intro (And.intro (And.intro @ids_3 (And.intro @dir_pair @guard_t)) (And.intro @dr_nil (And.intro @dr_0 @dr_1))) (And.intro (And.intro @dr_3 (And.intro @dr_3_ @dr_new)) (And.intro @dr_bsl (And.intro @dp0_ap @dpR_ap)))) (And.intro (And.intro (And.intro @dp3_ap (And.intro @dp3__ap @dmk_ap)) (And.intro @dr_G (And.intro @dgo_tt @dgo_ff))) (And.intro (And.intro @dgo_tf (And.intro @dgo_ft @dgo_un)) (And.intro @dno_0 (And.intro @dno_1 @dno_2))))) (And.intro (And.intro (And.intro (And.intro @dno_3 (And.intro @read_lo @same_pair)) (And.intro @same_nil (And.intro @same_cons @avEq_b))) (And.intro (And.intro @avEq_i (And.intro @avEq_str @avEq_p)) (And.intro @avEq_ns (And.intro @avEq_sl @Bool.and_self)))) (And.intro (And.intro (And.intro @Bool.and_true (And.intro @Bool.true_and @bsl_ap)) (And.intro @build_ap (And.intro @bslk_ap @bldk_ap))) (And.intro (And.intro @fill_nil (And.intro @List.set_cons_zero.{0} @List.set_cons_succ.{0})) (And.intro (And.intro @List.length_cons.{0} @List.length_nil.{0}) (And.intro @Nat.zero_lt_succ @fill_str)))))) (And.intro (And.intro (And.intro (And.intro (And.intro @box_str (And.intro @mkif_str @fill_i)) (And.intro @box_i (And.intro @mkif_i @fill_b))) (And.intro (And.intro @box_b (And.intro @mkif_b @fill_sl)) (And.intro @box_sl (And.intro @mkif_sl @fill_ns)))) (And.intro (And.intro (And.intro @box_ns (And.intro @mkif_ns @fill_p)) (And.intro @box_p (And.intro @mkif_p @fill_np))) (And.intro (And.intro @box_np (And.intro @mkif_np @fill_ifc)) (And.intro (And.intro @box_ifc @mkif_ifc) (And.intro @mkif_ag @x_ixp))))) (And.intro (And.intro (And.intro (And.intro @x_sla (And.intro @x_cap @cap_ns)) (And.intro @cap_sl (And.intro @x_usd @usd_ns))) (And.intro (And.intro @x_ustr (And.intro @ustr_np @x_p2u)) (And.intro @x_u2p (And.intro @p_eq_np @np_eq_np)))) (And.intro (And.intro (And.intro @p_ne_p (And.intro @x_mnz @x_cpy)) (And.intro @cpy_ns (And.intro @x_inv @inv_at))) (And.intro (And.intro @look_yes (And.intro @x_rng @rng_str)) (And.intro (And.intro @x_nxt @x_mm) (And.intro @bump_0 @ext_2))))))))
end Go.Vai
