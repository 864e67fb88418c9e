/- A verified interpreter of the model's code, and what the functions that read expressions tell by it: part 1 (VaiA, VaiB, VaiC, VaiD). No condition but those that each statement bears. -/
import Derived.Calls
import Derived.Orders
import Derived.Laws.Sem
import Derived.Laws.World
import Derived.Laws.Cells
import Derived.Laws.Strings
import Derived.Below
set_option linter.unusedVariables false
set_option linter.unusedSimpArgs false
set_option linter.unusedSectionVars false
set_option linter.constructorNameAsVariable false
set_option linter.unnecessarySimpa false
/- VAI,part A: paths,tries,abstract values,abstract memory: data and the small functions on them,each in a plain form (for proofs) and in a form that the kernel runs fast. -/
namespace Go.Vai
/-- A number as a path: h = 0,l p = 2 p + 1,r p = 2 p + 2. -/
inductive Pa where
 | h
 | l (p : Pa)
 | r (p : Pa)
 deriving DecidableEq
inductive Tr (α : Type) where
 | leaf
 | node (l : Tr α) (x : α) (r : Tr α)
def Pa.toN : Pa→Nat
 | .h=>0
 | .l p=>2 * p.toN + 1
 | .r p=>2 * p.toN + 2
theorem Pa.toN_inj : ∀ {p q : Pa},p.toN = q.toN→p = q
 | .h,.h,_=>rfl
 | .h,.l _,e=>by simp [Pa.toN] at e
 | .h,.r _,e=>by simp [Pa.toN] at e
 | .l _,.h,e=>by simp [Pa.toN] at e
 | .r _,.h,e=>by simp [Pa.toN] at e
 | .l p,.l q,e=>by rw [Pa.toN_inj (p:=p) (q:=q) (by simp only [Pa.toN] at e; omega)]
 | .r p,.r q,e=>by rw [Pa.toN_inj (p:=p) (q:=q) (by simp only [Pa.toN] at e; omega)]
 | .l p,.r q,e=>by simp only [Pa.toN] at e; omega
 | .r p,.l q,e=>by simp only [Pa.toN] at e; omega
section
variable {α : Type} (d : α)
def Tr.get : Tr α→Pa→α
 | .leaf,_=>d
 | .node _ x _,.h=>x
 | .node l _ _,.l p=>Tr.get l p
 | .node _ _ r,.r p=>Tr.get r p
def Tr.set (v : α) : Tr α→Pa→Tr α
 | .leaf,.h=>.node .leaf v .leaf
 | .node l _ r,.h=>.node l v r
 | .leaf,.l p=>.node (Tr.set v .leaf p) d .leaf
 | .node l x r,.l p=>.node (Tr.set v l p) x r
 | .leaf,.r p=>.node .leaf d (Tr.set v .leaf p)
 | .node l x r,.r p=>.node l x (Tr.set v r p)
theorem Tr.get_leaf (p : Pa) : Tr.get d .leaf p = d:=by cases p <;> rfl
theorem Tr.get_set_same (v : α) : ∀ (p : Pa) (t : Tr α),Tr.get d (Tr.set d v t p) p = v
 | .h,.leaf=>rfl
 | .h,.node _ _ _=>rfl
 | .l p,.leaf=>Tr.get_set_same v p .leaf
 | .l p,.node l _ _=>Tr.get_set_same v p l
 | .r p,.leaf=>Tr.get_set_same v p .leaf
 | .r p,.node _ _ r=>Tr.get_set_same v p r
theorem Tr.get_set_ne (v : α) : ∀ (p q : Pa) (t : Tr α),p ≠ q→Tr.get d (Tr.set d v t p) q = Tr.get d t q
 | .h,.h,_,h=>(h rfl).elim
 | .h,.l q,.leaf,_=>by simp [Tr.set,Tr.get]
 | .h,.r q,.leaf,_=>by simp [Tr.set,Tr.get]
 | .h,.l q,.node _ _ _,_=>rfl
 | .h,.r q,.node _ _ _,_=>rfl
 | .l p,.h,.leaf,_=>by simp [Tr.set,Tr.get]
 | .l p,.h,.node _ _ _,_=>rfl
 | .r p,.h,.leaf,_=>by simp [Tr.set,Tr.get]
 | .r p,.h,.node _ _ _,_=>rfl
 | .l p,.l q,.leaf,h=>by
  have:=Tr.get_set_ne v p q .leaf (fun e=>h (by rw [e]))
  simp [Tr.set,Tr.get,this]
 | .l p,.l q,.node l _ _,h=>by
  have:=Tr.get_set_ne v p q l (fun e=>h (by rw [e]))
  simp [Tr.set,Tr.get,this]
 | .r p,.r q,.leaf,h=>by
  have:=Tr.get_set_ne v p q .leaf (fun e=>h (by rw [e]))
  simp [Tr.set,Tr.get,this]
 | .r p,.r q,.node _ _ r,h=>by
  have:=Tr.get_set_ne v p q r (fun e=>h (by rw [e]))
  simp [Tr.set,Tr.get,this]
 | .l p,.r q,.leaf,_=>by simp [Tr.set,Tr.get]
 | .l p,.r q,.node _ _ _,_=>rfl
 | .r p,.l q,.leaf,_=>by simp [Tr.set,Tr.get]
 | .r p,.l q,.node _ _ _,_=>rfl
theorem Tr.get_set (v : α) (p q : Pa) (t : Tr α) : Tr.get d (Tr.set d v t p) q = if p = q then v else Tr.get d t q:=by
 by_cases h : p = q
 ·subst h; simp [Tr.get_set_same]
 ·simp [h,Tr.get_set_ne d v p q t h]
/-- The same two,for the kernel: what is found,or the tree that is made,is handed on. -/
noncomputable def getK {β : Type} (p : Pa) : Tr α→(α→β)→β :=
 Pa.rec (fun t k=>Tr.casesOn t (k d) (fun _ x _=>k x))
  (fun _ ih t k=>Tr.casesOn t (k d) (fun l _ _=>ih l k))
  (fun _ ih t k=>Tr.casesOn t (k d) (fun _ _ r=>ih r k)) p
noncomputable def setK {β : Type} (v : α) (p : Pa) : Tr α→(Tr α→β)→β :=
 Pa.rec (fun t k=>Tr.casesOn t (k (.node .leaf v .leaf)) (fun l _ r=>k (.node l v r)))
  (fun _ ih t k=>Tr.casesOn t (ih .leaf (fun l=>k (.node l d .leaf))) (fun l x r=>ih l (fun l=>k (.node l x r))))
  (fun _ ih t k=>Tr.casesOn t (ih .leaf (fun r=>k (.node .leaf d r))) (fun l x r=>ih r (fun r=>k (.node l x r)))) p
theorem getK_eq {β : Type} : ∀ (p : Pa) (t : Tr α) (k : α→β),getK d p t k = k (Tr.get d t p)
 | .h,.leaf,_=>rfl
 | .h,.node _ _ _,_=>rfl
 | .l _,.leaf,_=>rfl
 | .r _,.leaf,_=>rfl
 | .l p,.node l _ _,k=>getK_eq p l k
 | .r p,.node _ _ r,k=>getK_eq p r k
theorem setK_eq {β : Type} (v : α) : ∀ (p : Pa) (t : Tr α) (k : Tr α→β),setK d v p t k = k (Tr.set d v t p)
 | .h,.leaf,_=>rfl
 | .h,.node _ _ _,_=>rfl
 | .l p,.leaf,k=>setK_eq v p .leaf (fun l=>k (.node l d .leaf))
 | .r p,.leaf,k=>setK_eq v p .leaf (fun r=>k (.node .leaf d r))
 | .l p,.node l x r,k=>setK_eq v p l (fun l=>k (.node l x r))
 | .r p,.node l x r,k=>setK_eq v p r (fun r=>k (.node l x r))
end
/-- A number's path. -/
noncomputable def toPaF (f : Nat) : Nat→Pa :=
 Nat.rec (fun _=>.h) (fun _ ih n=>Nat.casesOn n .h (fun j=>Bool.casesOn (Nat.beq (Nat.mod j 2) 0) (.r (ih (Nat.div j 2))) (.l (ih (Nat.div j 2))))) f
noncomputable def toPa (n : Nat) : Pa:=toPaF n n
theorem toPaF_toN : ∀ (f n : Nat),n≤f→(toPaF f n).toN = n
 | 0,0,_=>rfl
 | f + 1,0,_=>rfl
 | f + 1,j + 1,h=>by
  have ih:=toPaF_toN f (j / 2) (by omega)
  have e : toPaF (f + 1) (j + 1) = Bool.casesOn (Nat.beq (Nat.mod j 2) 0) (Pa.r (toPaF f (j / 2))) (Pa.l (toPaF f (j / 2))):=rfl
  rw [e]
  cases hb : Nat.beq (Nat.mod j 2) 0
  ·have hne : Nat.mod j 2 ≠ 0:=Nat.ne_of_beq_eq_false hb
   have : j % 2 ≠ 0:=hne
   simp only [Pa.toN,ih]; omega
  ·have he : Nat.mod j 2 = 0:=Nat.eq_of_beq_eq_true hb
   have : j % 2 = 0:=he
   simp only [Pa.toN,ih]; omega
theorem toN_toPa (n : Nat) : (toPa n).toN = n:=toPaF_toN n n (Nat.le_refl n)
theorem toPa_inj {m n : Nat} (h : toPa m = toPa n) : m = n:=by rw [← toN_toPa m,← toN_toPa n,h]
theorem toPa_toN (p : Pa) : toPa p.toN = p:=Pa.toN_inj (toN_toPa _)
def Pa.succ : Pa→Pa
 | .h=>.l .h
 | .l p=>.r p
 | .r p=>.l p.succ
theorem Pa.toN_succ : ∀ p : Pa,p.succ.toN = p.toN + 1
 | .h=>rfl
 | .l p=>by simp only [Pa.succ,Pa.toN]
 | .r p=>by simp only [Pa.succ,Pa.toN,Pa.toN_succ p]; omega
noncomputable def succK {β : Type} (p : Pa) : (Pa→β)→β :=
 Pa.rec (fun k=>k (.l .h)) (fun p _ k=>k (.r p)) (fun _ ih k=>ih (fun q=>k (.l q))) p
theorem succK_eq {β : Type} : ∀ (p : Pa) (k : Pa→β),succK p k = k p.succ
 | .h,_=>rfl
 | .l _,_=>rfl
 | .r p,k=>succK_eq p (fun q=>k (.l q))
/-- Are two paths one? -/
noncomputable def Pa.same (p : Pa) : Pa→Bool :=
 Pa.rec (fun q=>Pa.casesOn q true (fun _=>false) (fun _=>false))
  (fun _ ih q=>Pa.casesOn q false (fun q=>ih q) (fun _=>false))
  (fun _ ih q=>Pa.casesOn q false (fun _=>false) (fun q=>ih q)) p
theorem Pa.same_eq : ∀ {p q : Pa},p.same q = true→p = q
 | .h,.h,_=>rfl
 | .h,.l _,e=>by cases e
 | .h,.r _,e=>by cases e
 | .l _,.h,e=>by cases e
 | .r _,.h,e=>by cases e
 | .l p,.l q,e=>by rw [Pa.same_eq (p:=p) (q:=q) e]
 | .r p,.r q,e=>by rw [Pa.same_eq (p:=p) (q:=q) e]
 | .l _,.r _,e=>by cases e
 | .r _,.l _,e=>by cases e
/-- Abstract values. s: a string by its length and its bytes as one number; p: a cell's address; sl: a slice that is not nil (cap: its capacity,if known; sz: cells of an element); u: not known; mp: a number of kind int that is not known: its rest by n is r,and it lies below nought (s = 1),from nought on (s = 0),from s on (s > 1). -/
inductive AV where
 | u
 | b (x : Bool)
 | i (k : IntKind) (n : Int)
 | s (len n : Nat)
 | p (a : Pa) (off : Nat)
 | np
 | sl (a : Pa) (off len : Nat) (cap : Option Nat) (sz : Nat)
 | ns
 | fn (f : Fn) (first caps : List AV)
 | nf
 | ifc (t : Nat) (v : AV)
 | ni
 | ag (l : List AV)
 | tu (l : List AV)
 | mp (n r s : Nat)
 | nm
/-- Blocks. cells: may they be written (ro: no); below fz none is; the element's type; how many are known; what they hold. -/
inductive Blk where
 | dead
 | cells (ro : Bool) (fz : Nat) (e : Nat) (size : Nat) (c : Tr AV)
 | iter (len n pos : Nat)
structure Heap where
 next : Pa
 blks : Tr Blk
abbrev Heap.get (H : Heap) (p : Pa) : Blk:=Tr.get .dead H.blks p
abbrev Heap.put (H : Heap) (p : Pa) (b : Blk) : Heap:=⟨H.next,Tr.set .dead b H.blks p⟩
abbrev Heap.alloc (H : Heap) (b : Blk) : Heap:=⟨H.next.succ,Tr.set .dead b H.blks H.next⟩
section
variable {β : Type}
noncomputable def Heap.getK (H : Heap) (p : Pa) (k : Blk→β) : β:=Heap.casesOn H fun _ t=>Vai.getK Blk.dead p t k
noncomputable def Heap.putK (H : Heap) (p : Pa) (b : Blk) (k : Heap→β) : β:=Heap.casesOn H fun nx t=>setK Blk.dead b p t fun t=>k ⟨nx,t⟩
noncomputable def Heap.allocK (H : Heap) (b : Blk) (k : Pa→Heap→β) : β:=Heap.casesOn H fun nx t=>setK Blk.dead b nx t fun t=>succK nx fun nx'=>k nx ⟨nx',t⟩
theorem Heap.getK_eq (H : Heap) (p : Pa) (k : Blk→β) : H.getK p k = k (H.get p):=by cases H; exact Vai.getK_eq _ _ _ _
theorem Heap.putK_eq (H : Heap) (p : Pa) (b : Blk) (k : Heap→β) : H.putK p b k = k (H.put p b):=by
 cases H; simp only [Heap.putK,setK_eq]
theorem Heap.allocK_eq (H : Heap) (b : Blk) (k : Pa→Heap→β) : H.allocK b k = k H.next (H.alloc b):=by
 cases H; simp only [Heap.allocK,setK_eq,succK_eq]
/-- A number,reckoned. -/
noncomputable def forceN (n : Nat) (k : Nat→β) : β:=Nat.casesOn n (k 0) (fun m=>k (Nat.succ m))
theorem forceN_eq (n : Nat) (k : Nat→β) : forceN n k = k n:=by cases n <;> rfl
noncomputable def forceI (n : Int) (k : Int→β) : β:=Int.casesOn n (fun m=>forceN m fun m=>k (.ofNat m)) (fun m=>forceN m fun m=>k (.negSucc m))
theorem forceI_eq (n : Int) (k : Int→β) : forceI n k = k n:=by cases n <;> simp [forceI,forceN_eq]
noncomputable def forceB (x : Bool) (k : Bool→β) : β:=Bool.casesOn x (k false) (k true)
theorem forceB_eq (x : Bool) (k : Bool→β) : forceB x k = k x:=by cases x <;> rfl
/-- Cells from a place on,laid and told. -/
noncomputable def setCells : List AV→Nat→Tr AV→Tr AV
 | [],_,t=>t
 | v :: l,i,t=>setCells l (i + 1) (Tr.set .u v t (toPa i))
noncomputable def setCellsK (l : List AV) : Nat→Tr AV→(Tr AV→β)→β :=
 List.rec (fun _ t k=>k t) (fun v _ ih i t k=>setK AV.u v (toPa i) t fun t=>forceN (Nat.succ i) fun i=>ih i t k) l
theorem setCellsK_eq : ∀ (l : List AV) (i : Nat) (t : Tr AV) (k : Tr AV→β),setCellsK l i t k = k (setCells l i t)
 | [],_,_,_=>rfl
 | v :: l,i,t,k=>by
  show setK AV.u v (toPa i) t (fun t=>forceN (Nat.succ i) fun i=>setCellsK l i t k) = _
  rw [setK_eq,forceN_eq,setCellsK_eq]; rfl
noncomputable def getCells : Nat→Nat→Tr AV→List AV
 | 0,_,_=>[]
 | n + 1,i,t=>Tr.get .u t (toPa i) :: getCells n (i + 1) t
noncomputable def getCellsK (n : Nat) : Nat→Tr AV→(List AV→β)→β :=
 Nat.rec (fun _ _ k=>k []) (fun _ ih i t k=>Vai.getK AV.u (toPa i) t fun v=>forceN (Nat.succ i) fun i=>ih i t fun l=>k (v :: l)) n
theorem getCellsK_eq : ∀ (n i : Nat) (t : Tr AV) (k : List AV→β),getCellsK n i t k = k (getCells n i t)
 | 0,_,_,_=>rfl
 | n + 1,i,t,k=>by
  show Vai.getK AV.u (toPa i) t (fun v=>forceN (Nat.succ i) fun i=>getCellsK n i t fun l=>k (v :: l)) = _
  rw [Vai.getK_eq,forceN_eq,getCellsK_eq]; rfl
end
theorem getCells_length : ∀ (n i : Nat) (t : Tr AV),(getCells n i t).length = n
 | 0,_,_=>rfl
 | n + 1,i,t=>by simp [getCells,getCells_length n]
theorem getCells_get : ∀ (n i : Nat) (t : Tr AV) (j : Nat),j < n→(getCells n i t)[j]? = some (Tr.get .u t (toPa (i + j)))
 | 0,_,_,_,h=>by omega
 | n + 1,i,t,0,_=>by simp [getCells]
 | n + 1,i,t,j + 1,h=>by
  have:=getCells_get n (i + 1) t j (by omega)
  simp only [getCells,List.getElem?_cons_succ,this]
  congr 3; omega
theorem setCells_get : ∀ (l : List AV) (i : Nat) (t : Tr AV) (j : Nat),Tr.get .u (setCells l i t) (toPa j) = if i≤j∧j < i + l.length then (l[j - i]?).getD .u else Tr.get .u t (toPa j)
 | [],i,t,j=>by simp [setCells]; intro h1 h2; omega
 | v :: l,i,t,j=>by
  simp only [setCells]
  rw [setCells_get l (i + 1),Tr.get_set]
  by_cases h : j = i
  ·subst h
   rw [if_neg (by omega),if_pos rfl,if_pos ⟨by omega,by simp⟩]
   simp
  ·have hne : ¬ toPa i = toPa j:=fun e=>h (toPa_inj e).symm
   by_cases h2 : i + 1≤j∧j < i + 1 + l.length
   ·rw [if_pos h2,if_pos ⟨by omega,by simp; omega⟩]
    have : j - i = (j - (i + 1)) + 1:=by omega
    rw [this]; simp
   ·rw [if_neg h2,if_neg hne,if_neg (by simp; omega)]
/-! Strings as numbers. -/
def pk (l : List UInt8) : Nat:=l.foldl (fun n b=>n * 256 + b.toNat) 0
theorem pk_foldl (l : List UInt8) : ∀ n : Nat,l.foldl (fun n b=>n * 256 + b.toNat) n = n * 256 ^ l.length + pk l:=by
 induction l with
 | nil=>intro n; simp [pk]
 | cons b l ih =>
  intro n
  simp only [List.foldl_cons,List.length_cons,pk]
  rw [ih (n * 256 + b.toNat),ih (0 * 256 + b.toNat)]
  simp only [Nat.pow_succ,Nat.add_mul,Nat.zero_mul,Nat.zero_add]
  rw [Nat.mul_assoc,Nat.mul_comm 256 (256 ^ l.length)]
  omega
theorem pk_append (a b : List UInt8) : pk (a ++ b) = pk a * 256 ^ b.length + pk b:=by
 unfold pk; rw [List.foldl_append]; exact pk_foldl b _
theorem pk_cons (x : UInt8) (l : List UInt8) : pk (x :: l) = x.toNat * 256 ^ l.length + pk l:=by
 have:=pk_append [x] l
 simpa [pk] using this
theorem pk_lt (l : List UInt8) : pk l < 256 ^ l.length:=by
 induction l with
 | nil=>simp [pk]
 | cons x l ih =>
  rw [pk_cons,List.length_cons,Nat.pow_succ]
  have hx : x.toNat < 256:=x.toNat_lt
  have : x.toNat * 256 ^ l.length + 256 ^ l.length≤256 ^ l.length * 256:=by
   have : (x.toNat + 1) * 256 ^ l.length≤256 * 256 ^ l.length:=Nat.mul_le_mul_right _ (by omega)
   rw [Nat.add_mul,Nat.one_mul] at this; rw [Nat.mul_comm _ 256]; exact this
  omega
theorem pk_inj : ∀ {a b : List UInt8},a.length = b.length→pk a = pk b→a = b
 | [],[],_,_=>rfl
 | [],_ :: _,h,_=>by simp at h
 | _ :: _,[],h,_=>by simp at h
 | x :: a,y :: b,h,e=>by
  have hl : a.length = b.length:=by simpa using h
  rw [pk_cons,pk_cons,hl] at e
  have ha:=pk_lt a; have hb:=pk_lt b
  rw [hl] at ha
  have hpos : 0 < 256 ^ b.length:=Nat.pow_pos (by omega)
  have h1 : x.toNat = y.toNat:=by
   have e1 : (x.toNat * 256 ^ b.length + pk a) / 256 ^ b.length = x.toNat:=by
    rw [Nat.mul_comm,Nat.mul_add_div hpos,Nat.div_eq_of_lt ha,Nat.add_zero]
   have e2 : (y.toNat * 256 ^ b.length + pk b) / 256 ^ b.length = y.toNat:=by
    rw [Nat.mul_comm,Nat.mul_add_div hpos,Nat.div_eq_of_lt hb,Nat.add_zero]
   rw [← e1,← e2,e]
  have h2 : pk a = pk b:=by rw [h1] at e; omega
  rw [UInt8.toNat_inj.mp h1,pk_inj hl h2]
end Go.Vai

/- VAI,part B: the abstract operations,the abstract code,and how they are run. -/
namespace Go.Vai
inductive Opd where
 | t (p : Pa)
 | c (v : AV)
/-- What '==' holds against one another. -/
inductive EK where
 | no
 | bool
 | ptr
 | slice
 | func
 | iface (lit : Bool)
 | flat (ks : List Nat)
inductive AOp where
 | mv (x : Opd)
 | pick (c a b : Opd)
 | new (e : Nat) (zs : List AV)
 | box (e : Nat) (x : Opd)
 | build (zs : List AV) (parts : List (Nat × Nat × Opd))
 | bsl (e sz len : Nat) (zs : List AV) (parts : List (Nat × Nat × Opd))
 | ld (agg : Bool) (n : Nat) (x : Opd)
 | st (n : Nat) (x v : Opd)
 | nilck (x : Opd)
 | bin (op : BinOp) (ek : EK) (x y : Opd)
 | not (x : Opd)
 | neg (x : Opd)
 | cpl (x : Opd)
 | cvi (k : IntKind) (x : Opd)
 | cvs (x : Opd)
 | i2s (x : Opd)
 | s2b (e : Nat) (x : Opd)
 | b2s (x : Opd)
 | s2r (e : Nat) (x : Opd)
 | r2s (x : Opd)
 | p2u (x : Opd)
 | u2p (e s : Nat) (x : Opd)
 | mkif (t : Nat) (x : Opd)
 | mkfn (f : Fn) (first caps : List Opd)
 | sls (x : Opd) (lo hi : Option Opd)
 | sll (sz : Nat) (x : Opd) (lo hi mx : Option Opd)
 | sla (n sz : Nat) (x : Opd) (lo hi mx : Option Opd)
 | fa (off : Nat) (x : Opd)
 | fld (agg : Bool) (off n : Nat) (x : Opd)
 | ixa (sz : Nat) (x i : Opd)
 | ixp (n sz : Nat) (x i : Opd)
 | ixs (x i : Opd)
 | ixg (agg : Bool) (n sz : Nat) (x i : Opd)
 | ext (n : Nat) (x : Opd)
 | len (str : Bool) (x : Opd)
 | lenc (n : Nat)
 | cap (x : Opd)
 | app (e sz bytes : Nat) (x y : Opd)
 | cpy (sz : Nat) (x y : Opd)
 | mm (isMax : Bool) (x y : Opd)
 | mks (e sz bytes : Nat) (zs : List AV) (l c : Opd)
 | rng (x : Opd)
 | nxt (x : Opd)
 | tas (t : Nat) (ok : Bool) (zero : AV) (x : Opd)
 | call (f : Pa) (args : List Opd)
 | callv (f : Opd) (args : List Opd)
 | inv (tbl : List (Nat × Pa)) (x : Opd) (args : List Opd)
 | usd (x : Opd)
 | ustr (e : Nat) (x n : Opd)
 | mnz (e : Nat) (n : Opd)
 | ixb (x c : Opd)
 | frz (x : Opd)
 | bad
structure AI where
 d : Option Pa
 g : Option (Pa × Bool)
 o : AOp
/-- In a region that draws each operation has a class: 0 it neither reads memory nor turns it,1 it reads (lo: how many of class 3 must stand ahead of it),2 it makes one new block,3 it does more. -/
structure DI where
 cls : Nat
 lo : Nat
inductive AC where
 | skip
 | ops (l : List AI)
 | draw (nA : Nat) (l : List (AI × DI))
 | seq (a b : AC)
 | cond (o : Opd) (a b : AC)
 | block (id : Nat) (c : AC)
 | loop (c : AC)
 | exit (id : Nat)
 | ret
 | bad
 | back (g : Opd) (p0 p1 : Pa) (as_ body : AC)
inductive ARes where
 | tmp (p : Pa)
 | cell (p : Pa) (agg : Bool) (n : Nat)
/-- A function: its code and its results; or what it tells of its arguments alone,by a contract. -/
inductive AF where
 | mk (body : AC) (res : List ARes)
 | prim (g : List AV→Option AV)
 | iter (z : Nat) (agg : Bool)
inductive Ex where
 | norm
 | exit (id : Nat)
 | ret
/-- What stands in a slot that was not written: no value. -/
abbrev un : AV:=.tu []
section
variable {R : Type}
def ev (fr : Tr AV) : Opd→AV
 | .t p=>Tr.get un fr p
 | .c v=>v
noncomputable def evK (fr : Tr AV) (o : Opd) (k : AV→Option R) : Option R:=Opd.casesOn o (fun p=>getK un p fr k) (fun v=>k v)
theorem evK_eq (fr : Tr AV) (o : Opd) (k : AV→Option R) : evK fr o k = k (ev fr o):=by cases o <;> simp [evK,ev,getK_eq]
noncomputable def evsK (fr : Tr AV) (l : List Opd) : (List AV→Option R)→Option R :=
 List.rec (fun k=>k []) (fun o _ ih k=>evK fr o fun v=>ih fun vs=>k (v :: vs)) l
theorem evsK_eq (fr : Tr AV) : ∀ (l : List Opd) (k : List AV→Option R),evsK fr l k = k (l.map (ev fr))
 | [],_=>rfl
 | o :: l,k=>by
  show evK fr o (fun v=>evsK fr l fun vs=>k (v :: vs)) = _
  rw [evK_eq,evsK_eq]; rfl
noncomputable def evoK (fr : Tr AV) (o : Option Opd) (k : Option AV→Option R) : Option R:=Option.casesOn o (k none) (fun o=>evK fr o fun v=>k (some v))
theorem evoK_eq (fr : Tr AV) (o : Option Opd) (k : Option AV→Option R) : evoK fr o k = k (o.map (ev fr)):=by cases o <;> simp [evoK,evK_eq]
/-! A value taken apart. -/
noncomputable def vB (v : AV) (f : Bool→Option R) : Option R :=
 AV.casesOn v none f (fun _ _=>none) (fun _ _=>none) (fun _ _=>none) none (fun _ _ _ _ _=>none) none (fun _ _ _=>none) none (fun _ _=>none) none (fun _=>none) (fun _=>none) (fun _ _ _=>none) none
noncomputable def vI (v : AV) (f : IntKind→Int→Option R) : Option R :=
 AV.casesOn v none (fun _=>none) f (fun _ _=>none) (fun _ _=>none) none (fun _ _ _ _ _=>none) none (fun _ _ _=>none) none (fun _ _=>none) none (fun _=>none) (fun _=>none) (fun _ _ _=>none) none
noncomputable def vS (v : AV) (f : Nat→Nat→Option R) : Option R :=
 AV.casesOn v none (fun _=>none) (fun _ _=>none) f (fun _ _=>none) none (fun _ _ _ _ _=>none) none (fun _ _ _=>none) none (fun _ _=>none) none (fun _=>none) (fun _=>none) (fun _ _ _=>none) none
noncomputable def vP (v : AV) (nil : Option R) (f : Pa→Nat→Option R) : Option R :=
 AV.casesOn v none (fun _=>none) (fun _ _=>none) (fun _ _=>none) f nil (fun _ _ _ _ _=>none) none (fun _ _ _=>none) none (fun _ _=>none) none (fun _=>none) (fun _=>none) (fun _ _ _=>none) none
noncomputable def vL (v : AV) (nil : Option R) (f : Pa→Nat→Nat→Option Nat→Nat→Option R) : Option R :=
 AV.casesOn v none (fun _=>none) (fun _ _=>none) (fun _ _=>none) (fun _ _=>none) none f nil (fun _ _ _=>none) none (fun _ _=>none) none (fun _=>none) (fun _=>none) (fun _ _ _=>none) none
noncomputable def vF (v : AV) (nil : Option R) (f : Fn→List AV→List AV→Option R) : Option R :=
 AV.casesOn v none (fun _=>none) (fun _ _=>none) (fun _ _=>none) (fun _ _=>none) none (fun _ _ _ _ _=>none) none f nil (fun _ _=>none) none (fun _=>none) (fun _=>none) (fun _ _ _=>none) none
noncomputable def vE (v : AV) (nil : Option R) (f : Nat→AV→Option R) : Option R :=
 AV.casesOn v none (fun _=>none) (fun _ _=>none) (fun _ _=>none) (fun _ _=>none) none (fun _ _ _ _ _=>none) none (fun _ _ _=>none) none f nil (fun _=>none) (fun _=>none) (fun _ _ _=>none) none
noncomputable def vA (v : AV) (f : List AV→Option R) : Option R :=
 AV.casesOn v none (fun _=>none) (fun _ _=>none) (fun _ _=>none) (fun _ _=>none) none (fun _ _ _ _ _=>none) none (fun _ _ _=>none) none (fun _ _=>none) none f (fun _=>none) (fun _ _ _=>none) none
noncomputable def vT (v : AV) (f : List AV→Option R) : Option R :=
 AV.casesOn v none (fun _=>none) (fun _ _=>none) (fun _ _=>none) (fun _ _=>none) none (fun _ _ _ _ _=>none) none (fun _ _ _=>none) none (fun _ _=>none) none (fun _=>none) f (fun _ _ _=>none) none
/-- A number from nought on. -/
noncomputable def iN (n : Int) (f : Nat→Option R) : Option R:=Int.casesOn n f (fun _=>none)
/-- A value that is a number from nought on. -/
noncomputable def vN (v : AV) (f : Nat→Option R) : Option R:=vI v fun _ n=>iN n f
/-- A block of cells. -/
noncomputable def bC (b : Blk) (f : Bool→Nat→Nat→Nat→Tr AV→Option R) : Option R:=Blk.casesOn b none f (fun _ _ _=>none)
noncomputable def bI (b : Blk) (f : Nat→Nat→Nat→Option R) : Option R:=Blk.casesOn b none (fun _ _ _ _ _=>none) f
/-! Numbers. -/
noncomputable def kix (k : IntKind) : Nat:=IntKind.casesOn k 0 1 2 3 4 5 6 7
theorem kix_inj {a b : IntKind} (h : Nat.beq (kix a) (kix b) = true) : a = b:=by
 cases a <;> cases b <;> first | rfl | (simp [kix] at h)
noncomputable def hiN (k : IntKind) : Nat:=IntKind.casesOn k 128 32768 2147483648 9223372036854775808 256 65536 4294967296 18446744073709551616
noncomputable def loN (k : IntKind) : Nat:=IntKind.casesOn k 128 32768 2147483648 9223372036854775808 0 0 0 0
noncomputable def moN (k : IntKind) : Nat:=IntKind.casesOn k 256 65536 4294967296 18446744073709551616 256 65536 4294967296 18446744073709551616
noncomputable def bitsN (k : IntKind) : Nat:=IntKind.casesOn k 8 16 32 64 8 16 32 64
noncomputable def inR (k : IntKind) (n : Int) : Bool:=Int.casesOn n (fun m=>Nat.blt m (hiN k)) (fun m=>Nat.blt m (loN k))
/-- A number's remainder by the kind's modulus. -/
noncomputable def remN (k : IntKind) (n : Int) : Nat:=Int.casesOn n (fun m=>Nat.mod m (moN k)) (fun m=>Nat.sub (Nat.sub (moN k) 1) (Nat.mod m (moN k)))
noncomputable def wrapM (k : IntKind) (m : Nat) : Int:=Bool.casesOn (Nat.blt m (hiN k)) (Int.negSucc (Nat.sub (Nat.sub (moN k) 1) m)) (Int.ofNat m)
noncomputable def wrapK (k : IntKind) (n : Int) (c : Int→Option R) : Option R :=
 Bool.casesOn (inR k n) (forceI (wrapM k (remN k n)) c) (forceI n c)
noncomputable def iEq (a b : Int) : Bool :=
 Int.casesOn a (fun a=>Int.casesOn b (fun b=>Nat.beq a b) (fun _=>false)) (fun a=>Int.casesOn b (fun _=>false) (fun b=>Nat.beq a b))
noncomputable def iLt (a b : Int) : Bool :=
 Int.casesOn a (fun a=>Int.casesOn b (fun b=>Nat.blt a b) (fun _=>false)) (fun a=>Int.casesOn b (fun _=>true) (fun b=>Nat.blt b a))
noncomputable def boolK (x : Bool) (c : AV→Option R) : Option R:=Bool.casesOn x (c (.b false)) (c (.b true))
noncomputable def notK (x : Bool) (c : AV→Option R) : Option R:=Bool.casesOn x (c (.b true)) (c (.b false))
noncomputable def guardK (x : Bool) (c : Option R) : Option R:=Bool.casesOn x none c
noncomputable def intK (k : IntKind) (n : Int) (c : AV→Option R) : Option R:=wrapK k n fun n=>c (.i k n)
noncomputable def natV (k : IntKind) (n : Nat) (c : AV→Option R) : Option R:=forceN n fun n=>c (.i k (.ofNat n))
abbrev IOp (R : Type):=IntKind→Int→Int→(AV→Option R)→Option R
noncomputable def iNone : IOp R:=fun _ _ _ _=>none
noncomputable def iAdd : IOp R:=fun k a b c=>intK k (Int.add a b) c
noncomputable def iSub : IOp R:=fun k a b c=>intK k (Int.sub a b) c
noncomputable def iMul : IOp R:=fun k a b c=>intK k (Int.mul a b) c
noncomputable def iQuo : IOp R:=fun k a b c=>Bool.casesOn (iEq b (.ofNat 0)) (intK k (Int.tdiv a b) c) none
noncomputable def iRem : IOp R:=fun k a b c=>Bool.casesOn (iEq b (.ofNat 0)) (forceI (Int.tmod a b) fun n=>c (.i k n)) none
noncomputable def andNN (a b : Int) (k : IntKind) (c : AV→Option R) : Option R :=
 Int.casesOn a (fun a=>Int.casesOn b (fun b=>natV k (Nat.land a b) c) (fun b=>natV k (Nat.xor a (Nat.land a b)) c))
  (fun a=>Int.casesOn b (fun b=>natV k (Nat.xor b (Nat.land b a)) c) (fun _=>none))
noncomputable def iAnd : IOp R:=fun k a b c=>guardK (inR k a) (guardK (inR k b) (andNN a b k c))
noncomputable def iOr : IOp R:=fun k a b c=>guardK (inR k a) (guardK (inR k b) (iN a fun a=>iN b fun b=>natV k (Nat.lor a b) c))
noncomputable def iXor : IOp R:=fun k a b c=>guardK (inR k a) (guardK (inR k b) (iN a fun a=>iN b fun b=>natV k (Nat.xor a b) c))
noncomputable def iAndNot : IOp R:=fun k a b c=>guardK (inR k a) (guardK (inR k b) (iN a fun a=>iN b fun b=>natV k (Nat.xor a (Nat.land a b)) c))
noncomputable def iEql : IOp R:=fun _ a b c=>boolK (iEq a b) c
noncomputable def iNeq : IOp R:=fun _ a b c=>notK (iEq a b) c
noncomputable def iLss : IOp R:=fun _ a b c=>boolK (iLt a b) c
noncomputable def iLeq : IOp R:=fun _ a b c=>notK (iLt b a) c
noncomputable def iGtr : IOp R:=fun _ a b c=>boolK (iLt b a) c
noncomputable def iGeq : IOp R:=fun _ a b c=>notK (iLt a b) c
noncomputable def minN (a b : Nat) : Nat:=Bool.casesOn (Nat.ble a b) b a
noncomputable def iShl : IOp R:=fun k a b c=>iN b fun m=>intK k (Int.mul a (.ofNat (Nat.pow 2 (minN m (bitsN k))))) c
noncomputable def iShr : IOp R:=fun k a b c=>iN b fun m=>forceI (Int.fdiv a (.ofNat (Nat.pow 2 (minN m (bitsN k))))) fun n=>c (.i k n)
/-- What an operation is at numbers; may the kinds differ? -/
noncomputable def iTab (op : BinOp) : IOp R :=
 match op with
 | .add=>iAdd | .sub=>iSub | .mul=>iMul | .quo=>iQuo | .rem=>iRem | .and=>iAnd | .or=>iOr | .xor=>iXor | .andNot=>iAndNot | .shl=>iShl | .shr=>iShr
 | .eql=>iEql | .neq=>iNeq | .lss=>iLss | .leq=>iLeq | .gtr=>iGtr | .geq=>iGeq
noncomputable def iShift (op : BinOp) : Bool :=
 match op with
 | .shl=>true | .shr=>true | _=>false
/-! Strings. -/
noncomputable def cutS (n l m : Nat) : Nat:=Nat.div n (Nat.pow 256 (Nat.sub l m))
noncomputable def lt2 (a b l1 l2 : Nat) : Bool:=Bool.casesOn (Nat.blt a b) (Bool.casesOn (Nat.beq a b) false (Nat.blt l1 l2)) true
noncomputable def sLt (l1 n1 l2 n2 : Nat) : Bool:=lt2 (cutS n1 l1 (minN l1 l2)) (cutS n2 l2 (minN l1 l2)) l1 l2
noncomputable def sEq (l1 n1 l2 n2 : Nat) : Bool:=Bool.casesOn (Nat.beq l1 l2) false (Nat.beq n1 n2)
noncomputable def byteAt (l n i : Nat) : Nat:=Nat.mod (Nat.div n (Nat.pow 256 (Nat.sub (Nat.sub l i) 1))) 256
noncomputable def strV (l n : Nat) (c : AV→Option R) : Option R:=forceN l fun l=>forceN n fun n=>c (.s l n)
/-- More than any string here may have: 2^62. -/
def sMax : Nat:=4611686018427387904
abbrev SOp (R : Type):=Nat→Nat→Nat→Nat→(AV→Option R)→Option R
noncomputable def sNone : SOp R:=fun _ _ _ _ _=>none
noncomputable def sAdd : SOp R:=fun l1 n1 l2 n2 c=>guardK (Nat.ble (Nat.add l1 l2) sMax) (strV (Nat.add l1 l2) (Nat.add (Nat.mul n1 (Nat.pow 256 l2)) n2) c)
noncomputable def sEql : SOp R:=fun l1 n1 l2 n2 c=>boolK (sEq l1 n1 l2 n2) c
noncomputable def sNeq : SOp R:=fun l1 n1 l2 n2 c=>notK (sEq l1 n1 l2 n2) c
noncomputable def sLss : SOp R:=fun l1 n1 l2 n2 c=>boolK (sLt l1 n1 l2 n2) c
noncomputable def sLeq : SOp R:=fun l1 n1 l2 n2 c=>notK (sLt l2 n2 l1 n1) c
noncomputable def sGtr : SOp R:=fun l1 n1 l2 n2 c=>boolK (sLt l2 n2 l1 n1) c
noncomputable def sGeq : SOp R:=fun l1 n1 l2 n2 c=>notK (sLt l1 n1 l2 n2) c
noncomputable def sTab (op : BinOp) : SOp R :=
 match op with
 | .add=>sAdd | .eql=>sEql | .neq=>sNeq | .lss=>sLss | .leq=>sLeq | .gtr=>sGtr | .geq=>sGeq | _=>sNone
/-! '=='. -/
noncomputable def bEq (x y : Bool) : Bool:=Bool.casesOn x (Bool.casesOn y true false) y
noncomputable def eqCellK (kind : Nat) (x y : AV) (c : Bool→Option R) : Option R :=
 match kind with
 | 0=>vB x fun x=>vB y fun y=>forceB (bEq x y) c
 | 1=>vI x fun k a=>vI y fun k' b=>guardK (Nat.beq (kix k) (kix k')) (forceB (iEq a b) c)
 | 2=>vS x fun l1 n1=>vS y fun l2 n2=>forceB (sEq l1 n1 l2 n2) c
 | _=>none
noncomputable def eqCellsK (ks : List Nat) : List AV→List AV→(Bool→Option R)→Option R :=
 List.rec (fun xs ys c=>List.casesOn xs (List.casesOn ys (c true) (fun _ _=>none)) (fun _ _=>none))
  (fun kind _ ih xs ys c=>List.casesOn xs none (fun x xs=>List.casesOn ys none (fun y ys=>eqCellK kind x y fun r=>ih xs ys fun s=>c (Bool.casesOn r false s)))) ks
abbrev EOp (R : Type):=AV→AV→(Bool→Option R)→Option R
noncomputable def eNo : EOp R:=fun _ _ _=>none
noncomputable def eBool : EOp R:=fun x y c=>eqCellK 0 x y c
noncomputable def ePtr : EOp R:=fun x y c=>vP x (vP y (c true) (fun _ _=>c false)) fun a o=>vP y (c false) fun b o'=>guardK (a.same b) (forceB (Nat.beq o o') c)
noncomputable def eSlice : EOp R:=fun x y c=>vL x (vL y (c true) (fun _ _ _ _ _=>c false)) fun _ _ _ _ _=>vL y (c false) (fun _ _ _ _ _=>none)
noncomputable def eFunc : EOp R:=fun x y c=>vF x (vF y (c true) (fun _ _ _=>c false)) fun _ _ _=>vF y (c false) (fun _ _ _=>none)
noncomputable def eIface (lit : Bool) : EOp R:=fun x y c=>vE x (vE y (guardK lit (c true)) (fun _ _=>c false)) fun _ _=>vE y (c false) (fun _ _=>none)
noncomputable def eFlat (ks : List Nat) : EOp R:=fun x y c=>vA x fun xs=>vA y fun ys=>eqCellsK ks xs ys c
noncomputable def eTab (ek : EK) : EOp R:=EK.casesOn ek eNo eBool ePtr eSlice eFunc eIface eFlat
noncomputable def binE (op : BinOp) (ek : EK) (x y : AV) (c : AV→Option R) : Option R :=
 match op with
 | .eql=>eTab ek x y fun r=>boolK r c
 | .neq=>eTab ek x y fun r=>notK r c
 | _=>none
abbrev BOp (R : Type):=BinOp→EK→AV→AV→(AV→Option R)→Option R
noncomputable def binI (k : IntKind) (a : Int) : BOp R:=fun op _ _ y c=>vI y fun k' b=>Bool.casesOn (iShift op) (guardK (Nat.beq (kix k) (kix k')) (iTab op k a b c)) (iTab op k a b c)
noncomputable def binS (l n : Nat) : BOp R:=fun op _ _ y c=>vS y fun l' n'=>sTab op l n l' n' c
/-! A number that is not known: of which the rest by a number,and the side of nought that it lies on,are. -/
noncomputable def ltTab (op : BinOp) (c : AV→Option R) : Option R :=
 match op with
 | .lss=>c (.b true) | .leq=>c (.b true) | .neq=>c (.b true) | .gtr=>c (.b false) | .geq=>c (.b false) | .eql=>c (.b false) | _=>none
noncomputable def gtTab (op : BinOp) (c : AV→Option R) : Option R :=
 match op with
 | .lss=>c (.b false) | .leq=>c (.b false) | .neq=>c (.b true) | .gtr=>c (.b true) | .geq=>c (.b true) | .eql=>c (.b false) | _=>none
noncomputable def geTab (op : BinOp) (c : AV→Option R) : Option R :=
 match op with
 | .lss=>c (.b false) | .geq=>c (.b true) | _=>none
/-- The mark of a number of which the rest from nought on is known,and no sign. -/
def EU : Nat:=18446744073709551616
noncomputable def remM2 (r s : Nat) (c : AV→Option R) : Option R:=Bool.casesOn (Nat.beq s 1) (c (.i .i64 (.ofNat r))) (Nat.casesOn r (c (.i .i64 (.ofNat 0))) fun m=>c (.i .i64 (.negSucc m)))
noncomputable def remM (r s : Nat) (c : AV→Option R) : Option R:=Bool.casesOn (Nat.beq s EU) (remM2 r s c) none
noncomputable def cmpM (s : Nat) (op : BinOp) (b : Nat) (c : AV→Option R) : Option R :=
 Nat.casesOn s (guardK (Nat.beq b 0) (geTab op c)) fun s'=>Nat.casesOn s' (ltTab op c) fun _=>Bool.casesOn (Nat.beq s EU) (guardK (Nat.blt b s) (gtTab op c)) none
noncomputable def binM (n r s : Nat) : BOp R:=fun op _ _ y c=>vI y fun k b=>guardK (Nat.beq (kix k) 3) (iN b fun b =>
 match op with
 | .rem=>guardK (Nat.beq n b) (Nat.casesOn b none fun _=>remM r s c)
 | op=>cmpM s op b c)
noncomputable def binK (op : BinOp) (ek : EK) (x y : AV) (c : AV→Option R) : Option R :=
 @AV.casesOn (fun _=>BOp R) x binE (fun _=>binE) binI binS (fun _ _=>binE) binE (fun _ _ _ _ _=>binE) binE (fun _ _ _=>binE) binE (fun _ _=>binE) binE (fun _=>binE) (fun _=>binE) binM binE op ek x y c
/-- A value that one cell may hold,and that is known. -/
noncomputable def oneC (v : AV) : Bool :=
 AV.casesOn v false (fun _=>true) (fun _ _=>true) (fun _ _=>true) (fun _ _=>true) true (fun _ _ _ _ _=>true) true (fun _ _ _=>true) true (fun _ _=>true) true (fun _=>false) (fun _=>false) (fun _ _ _=>true) true
noncomputable def oneCs (l : List AV) : Bool:=List.rec true (fun v _ ih=>Bool.casesOn (oneC v) false ih) l
/-- A value's cells,handed on: not of one that is not known. -/
noncomputable def cellsK (v : AV) (c : List AV→Option R) : Option R :=
 Bool.casesOn (oneC v) (vA v c) (c [v])
/-- Parts laid over cells. -/
def lay : List AV→Nat→List AV→List AV
 | cs,0,l=>l ++ cs.drop l.length
 | [],_ + 1,l=>l
 | c :: cs,n + 1,l=>c :: lay cs n l
noncomputable def lay0K (l : List AV) : List AV→(List AV→Option R)→Option R :=
 List.rec (fun cs k=>k cs) (fun v _ ih cs k=>List.casesOn cs (ih [] fun r=>k (v :: r)) (fun _ cs=>ih cs fun r=>k (v :: r))) l
noncomputable def layK (l : List AV) (n : Nat) : List AV→(List AV→Option R)→Option R :=
 Nat.rec (lay0K l) (fun _ ih cs k=>List.casesOn cs (k l) (fun c cs=>ih cs fun r=>k (c :: r))) n
noncomputable def lenK (l : List AV) : Nat:=List.rec 0 (fun _ _ ih=>Nat.succ ih) l
noncomputable def fill1K (off n : Nat) (cs l : List AV) (k : List AV→Option R) : Option R :=
 guardK (Nat.beq (lenK l) n) (guardK (Nat.ble (Nat.add off n) (lenK cs)) (layK l off cs k))
noncomputable def fillK (fr : Tr AV) (parts : List (Nat × Nat × Opd)) : List AV→(List AV→Option R)→Option R :=
 List.rec (fun cs k=>k cs) (fun p _ ih cs k=>evK fr p.2.2 fun v=>cellsK v fun l=>fill1K p.1 p.2.1 cs l fun cs=>ih cs k) parts
/-! Memory. -/
noncomputable def load1K (agg : Bool) (n off size : Nat) (c : Tr AV) (k : AV→Option R) : Option R :=
 guardK (Nat.ble (Nat.add off n) size) (Bool.casesOn agg (getK AV.u (toPa off) c k) (getCellsK n off c fun l=>k (.ag l)))
noncomputable def loadK (agg : Bool) (n : Nat) (a : Pa) (off : Nat) (H : Heap) (k : AV→Option R) : Option R :=
 H.getK a fun b=>bC b fun _ _ _ size c=>load1K agg n off size c k
noncomputable def store1K (l : List AV) (n off : Nat) (fz size : Nat) (c : Tr AV) (k : Tr AV→Option R) : Option R :=
 guardK (Nat.ble (Nat.add off n) size) (guardK (Nat.ble fz off) (guardK (oneCs l) (setCellsK l off c k)))
noncomputable def storeK (l : List AV) (n : Nat) (a : Pa) (off : Nat) (H : Heap) (k : Heap→Option R) : Option R :=
 H.getK a fun b=>bC b fun ro fz e size c=>Bool.casesOn ro (store1K l n off fz size c fun c=>H.putK a (.cells false fz e size c) k) none
noncomputable def newK (e : Nat) (l : List AV) (H : Heap) (k : Pa→Heap→Option R) : Option R :=
 setCellsK l 0 .leaf fun c=>forceN (lenK l) fun n=>H.allocK (.cells false 0 e n c) k
noncomputable def rangeCK (n : Nat) (a : Pa) (off : Nat) (H : Heap) (k : List AV→Option R) : Option R :=
 H.getK a fun b=>bC b fun _ _ _ size c=>guardK (Nat.ble (Nat.add off n) size) (getCellsK n off c k)
/-- A string's bytes as cells. -/
noncomputable def bytesUpK (len n : Nat) (f : Nat) : (List AV→Option R)→Option R :=
 Nat.rec (fun k=>k []) (fun j ih k=>forceN (byteAt len n (Nat.sub (Nat.sub len j) 1)) fun x=>ih fun l=>k (.i .u8 (.ofNat x) :: l)) f
/-- Cells that are bytes,as a string. -/
noncomputable def byteOf (v : AV) (k : Nat→Option R) : Option R:=vI v fun kd n=>guardK (Nat.beq (kix kd) 4) (iN n fun x=>guardK (Nat.blt x 256) (k x))
noncomputable def packK (l : List AV) : Nat→Nat→(Nat→Nat→Option R)→Option R :=
 List.rec (fun m n k=>k m n) (fun v _ ih m n k=>byteOf v fun x=>forceN (Nat.add (Nat.mul n 256) x) fun n=>forceN (Nat.succ m) fun m=>ih m n k) l
/-- The most room that is asked for in one piece: 2^47 bytes. -/
def roomN : Nat:=140737488351232
/-- What is appended: cells. -/
noncomputable def srcL (sz : Nat) (H : Heap) (k : Nat→List AV→Option R) (b : Pa) (off len : Nat) (_ : Option Nat) (sz' : Nat) : Option R :=
 guardK (Nat.beq sz sz') (rangeCK (Nat.mul len sz) b off H fun l=>k len l)
noncomputable def srcS (sz : Nat) (k : Nat→List AV→Option R) (len n : Nat) : Option R:=guardK (Nat.beq sz 1) (bytesUpK len n len fun l=>k len l)
noncomputable def isS (v : AV) : Bool :=
 AV.casesOn v false (fun _=>false) (fun _ _=>false) (fun _ _=>true) (fun _ _=>false) false (fun _ _ _ _ _=>false) false (fun _ _ _=>false) false (fun _ _=>false) false (fun _=>false) (fun _=>false) (fun _ _ _=>false) false
noncomputable def srcK (sz : Nat) (y : AV) (H : Heap) (k : Nat→List AV→Option R) : Option R :=
 Bool.casesOn (isS y) (vL y (k 0 []) (srcL sz H k)) (vS y (srcS sz k))
abbrev HK (R : Type):=AV→Heap→Option R
/-- A new block for what there was and what is appended. -/
noncomputable def grow2K (e sz at_ need fz : Nat) (a : Pa) (ys : List AV) (H : Heap) (k : HK R) (c : Tr AV) : Option R :=
 setCellsK ys at_ c fun c=>forceN (Nat.mul need sz) fun size=>H.putK a .dead fun H=>H.allocK (.cells false fz e size c) fun id H=>k (.sl id 0 need none sz) H
noncomputable def growK (e sz bytes len off need fz : Nat) (a : Pa) (ys : List AV) (H : Heap) (c : Tr AV) (k : HK R) : Option R :=
 guardK (Nat.ble (Nat.mul need bytes) roomN) (Nat.casesOn off (grow2K e sz (Nat.mul len sz) need fz a ys H k c)
  (fun off'=>getCellsK (Nat.mul len sz) (Nat.succ off') c fun xs=>setCellsK xs 0 .leaf fun c=>forceN (Nat.sub fz (Nat.succ off')) fun fz=>grow2K 0 sz (Nat.mul len sz) need fz a ys H k c))
noncomputable def appOpen (eo sz bytes len off need : Nat) (a : Pa) (ys : List AV) (H : Heap) (k : HK R) (ro : Bool) (fz e size : Nat) (c : Tr AV) : Option R :=
 Bool.casesOn ro (forceN (Nat.add off (Nat.mul len sz)) fun at_=>guardK (Nat.ble fz at_) (Bool.casesOn (Nat.ble (Nat.add off (Nat.mul need sz)) size)
  (forceN (Bool.casesOn (Nat.beq e eo) 0 eo) fun e=>growK e sz bytes len off need fz a ys H c k)
  (setCellsK ys at_ c fun c=>H.putK a (.cells false fz e size c) fun H=>k (.sl a off need none sz) H))) none
noncomputable def appNew (e sz bytes len off need : Nat) (a : Pa) (ys : List AV) (H : Heap) (k : HK R) : Option R :=
 guardK (Nat.ble (Nat.mul need bytes) roomN) (rangeCK (Nat.mul len sz) a off H fun xs=>newK e (xs ++ ys) H fun id H=>k (.sl id 0 need none sz) H)
noncomputable def appFits (sz n len off need : Nat) (cp : Nat) (a : Pa) (ys : List AV) (H : Heap) (k : HK R) : Option R :=
 forceN (Nat.add off (Nat.mul len sz)) fun at_=>storeK ys (Nat.mul n sz) a at_ H fun H=>k (.sl a off need (some cp) sz) H
noncomputable def appShut (e sz bytes n len off need : Nat) (a : Pa) (ys : List AV) (H : Heap) (k : HK R) (cp : Nat) : Option R :=
 Bool.casesOn (Nat.ble need cp) (appNew e sz bytes len off need a ys H k) (appFits sz n len off need cp a ys H k)
noncomputable def appSl (e sz bytes n : Nat) (ys : List AV) (H : Heap) (k : HK R) (a : Pa) (off len : Nat) (cap : Option Nat) (sz' : Nat) : Option R :=
 guardK (Nat.beq sz sz') (forceN (Nat.add len n) fun need=>Option.casesOn cap (H.getK a fun b=>bC b (appOpen e sz bytes len off need a ys H k)) (appShut e sz bytes n len off need a ys H k))
noncomputable def appNil (e sz bytes n : Nat) (ys : List AV) (H : Heap) (k : HK R) : Option R :=
 guardK (Nat.ble (Nat.mul n bytes) roomN) (newK e ys H fun id H=>k (.sl id 0 n none sz) H)
noncomputable def append2K (e sz bytes : Nat) (x : AV) (H : Heap) (k : HK R) (n : Nat) (ys : List AV) : Option R :=
 Nat.casesOn n (vL x (k .ns H) (fun a off len cap sz=>k (.sl a off len cap sz) H)) fun n'=>guardK (oneCs ys) (vL x (appNil e sz bytes (Nat.succ n') ys H k) (appSl e sz bytes (Nat.succ n') ys H k))
noncomputable def appendK (e sz bytes : Nat) (x y : AV) (H : Heap) (k : HK R) : Option R:=srcK sz y H (append2K e sz bytes x H k)
noncomputable def copy2K (sz : Nat) (a : Pa) (off m : Nat) (ys : List AV) (H : Heap) (k : HK R) : Option R :=
 Nat.casesOn m (k (.i .i64 (.ofNat 0)) H) fun _=>storeK (ys.take (Nat.mul m sz)) (Nat.mul m sz) a off H fun H=>k (.i .i64 (.ofNat m)) H
noncomputable def copySl (sz : Nat) (y : AV) (H : Heap) (k : HK R) (a : Pa) (off len : Nat) (_ : Option Nat) (sz' : Nat) : Option R :=
 guardK (Nat.beq sz sz') (srcK sz y H fun n ys=>forceN (minN n len) fun m=>copy2K sz a off m ys H k)
noncomputable def copyK (sz : Nat) (x y : AV) (H : Heap) (k : HK R) : Option R:=vL x (srcK sz y H fun _ _=>k (.i .i64 (.ofNat 0)) H) (copySl sz y H k)
/-! A rune at a place. -/
noncomputable def contAt (l n i : Nat) : Bool:=Bool.casesOn (Nat.blt i l) false (Nat.beq (Nat.div (byteAt l n i) 64) 2)
noncomputable def validN (c : Nat) : Bool:=Nat.blt c 55296 || (Nat.ble 57344 c && Nat.ble c 1114111)
noncomputable def dec4 (l n i b0 : Nat) (k : Nat→Nat→Option R) : Option R :=
 forceN (Nat.mod b0 8 * 262144 + Nat.mod (byteAt l n (i + 1)) 64 * 4096 + Nat.mod (byteAt l n (i + 2)) 64 * 64 + Nat.mod (byteAt l n (i + 3)) 64) fun c =>
  Bool.casesOn (Nat.ble 65536 c && validN c) (k 65533 1) (k c 4)
noncomputable def dec3 (l n i b0 : Nat) (k : Nat→Nat→Option R) : Option R :=
 forceN (Nat.mod b0 16 * 4096 + Nat.mod (byteAt l n (i + 1)) 64 * 64 + Nat.mod (byteAt l n (i + 2)) 64) fun c=>Bool.casesOn (Nat.ble 2048 c && validN c) (k 65533 1) (k c 3)
noncomputable def dec2 (l n i b0 : Nat) (k : Nat→Nat→Option R) : Option R :=
 forceN (Nat.mod b0 32 * 64 + Nat.mod (byteAt l n (i + 1)) 64) fun c=>Bool.casesOn (Nat.ble 128 c) (k 65533 1) (k c 2)
noncomputable def decN (l n i b0 : Nat) (k : Nat→Nat→Option R) : Option R :=
 Bool.casesOn (Nat.beq (Nat.div b0 32) 6 && contAt l n (i + 1))
  (Bool.casesOn (Nat.beq (Nat.div b0 16) 14 && contAt l n (i + 1) && contAt l n (i + 2))
   (Bool.casesOn (Nat.beq (Nat.div b0 8) 30 && contAt l n (i + 1) && contAt l n (i + 2) && contAt l n (i + 3)) (k 65533 1) (dec4 l n i b0 k))
   (dec3 l n i b0 k))
  (dec2 l n i b0 k)
noncomputable def decK (l n i : Nat) (k : Nat→Nat→Option R) : Option R :=
 forceN (byteAt l n i) fun b0=>Bool.casesOn (Nat.blt b0 128) (decN l n i b0 k) (k b0 1)
/-- A rune's bytes: how many,as a number. -/
noncomputable def runeN (r : Int) : Nat:=Int.casesOn r (fun m=>Bool.casesOn (validN m) 65533 m) (fun _=>65533)
noncomputable def enc4 (c : Nat) : Nat:=((((240 + c / 262144) * 256 + (128 + c / 4096 % 64)) * 256 + (128 + c / 64 % 64)) * 256 + (128 + c % 64))
noncomputable def enc3 (c : Nat) : Nat:=(((224 + c / 4096) * 256 + (128 + c / 64 % 64)) * 256 + (128 + c % 64))
noncomputable def enc2 (c : Nat) : Nat:=((192 + c / 64) * 256 + (128 + c % 64))
noncomputable def encN (c : Nat) (k : Nat→Nat→Option R) : Option R :=
 Bool.casesOn (Nat.blt c 2048) (Bool.casesOn (Nat.blt c 65536) (forceN (enc4 c) fun n=>k 4 n) (forceN (enc3 c) fun n=>k 3 n)) (forceN (enc2 c) fun n=>k 2 n)
noncomputable def encK (r : Int) (k : Nat→Nat→Option R) : Option R :=
 forceN (runeN r) fun c=>Bool.casesOn (Nat.blt c 128) (encN c k) (k 1 c)
/-- The runes of a string as cells,from a place on. -/
noncomputable def runesK (l n : Nat) (f : Nat) : Nat→(List AV→Option R)→Option R :=
 Nat.rec (fun _ k=>k []) (fun _ ih i k=>Bool.casesOn (Nat.blt i l) (k []) (decK l n i fun c w=>forceN (Nat.add i w) fun i=>ih i fun r=>k (.i .i32 (.ofNat c) :: r))) f
noncomputable def unrunesK (l : List AV) : Nat→Nat→(Nat→Nat→Option R)→Option R :=
 List.rec (fun m n k=>k m n) (fun v _ ih m n k=>vI v fun kd x=>guardK (Nat.beq (kix kd) 2) (encK x fun w b=>forceN (Nat.add (Nat.mul n (Nat.pow 256 w)) b) fun n=>forceN (Nat.add m w) fun m=>ih m n k)) l
noncomputable def idxByteK (len n c : Nat) (f : Nat) : Nat→(AV→Option R)→Option R :=
 Nat.rec (fun _ k=>k (.i .i64 (.negSucc 0))) (fun _ ih i k=>Bool.casesOn (Nat.beq (byteAt len n i) c) (forceN (Nat.succ i) fun i=>ih i k) (k (.i .i64 (.ofNat i)))) f
/-! Slicing. -/
noncomputable def bndK (o : Option AV) (d : Nat) (k : Nat→Option R) : Option R:=Option.casesOn o (k d) (fun v=>vN v k)
noncomputable def subS (n len l h : Nat) : Nat:=Nat.mod (Nat.div n (Nat.pow 256 (Nat.sub len h))) (Nat.pow 256 (Nat.sub h l))
noncomputable def sliceSK (x : AV) (lo hi : Option AV) (k : AV→Option R) : Option R :=
 vS x fun len n=>bndK hi len fun h=>bndK lo 0 fun l=>guardK (Nat.ble l h) (guardK (Nat.ble h len) (strV (Nat.sub h l) (subS n len l h) k))
noncomputable def sliceNil (lo hi mx : Option AV) (k : AV→Option R) : Option R :=
 bndK mx 0 fun m=>bndK hi 0 fun h=>bndK lo 0 fun l=>guardK (Nat.beq m 0) (guardK (Nat.beq h 0) (guardK (Nat.beq l 0) (k .ns)))
noncomputable def sliceOpen (sz len l h : Nat) (a : Pa) (off : Nat) (cap : Option Nat) (k : AV→Option R) : Option R :=
 Option.casesOn cap (guardK (Nat.ble h len) (k (.sl a off (Nat.sub h l) none sz))) (fun cp=>guardK (Nat.ble h cp) (forceN (Nat.sub cp l) fun cp=>k (.sl a off (Nat.sub h l) (some cp) sz)))
noncomputable def sliceShut (sz len l h : Nat) (a : Pa) (off : Nat) (cap : Option Nat) (m : Nat) (k : AV→Option R) : Option R :=
 guardK (Nat.ble h m) (guardK (Nat.ble m (Option.casesOn cap len (fun cp=>cp))) (forceN (Nat.sub m l) fun cp=>k (.sl a off (Nat.sub h l) (some cp) sz)))
noncomputable def sliceSl (sz : Nat) (lo hi mx : Option AV) (k : AV→Option R) (a : Pa) (off len : Nat) (cap : Option Nat) (sz' : Nat) : Option R :=
 guardK (Nat.beq sz sz') (bndK hi len fun h=>bndK lo 0 fun l=>guardK (Nat.ble l h) (forceN (Nat.add off (Nat.mul l sz)) fun off =>
  Option.casesOn mx (sliceOpen sz len l h a off cap k) (fun v=>vN v fun m=>sliceShut sz len l h a off cap m k)))
noncomputable def sliceLK (sz : Nat) (x : AV) (lo hi mx : Option AV) (k : AV→Option R) : Option R:=vL x (sliceNil lo hi mx k) (sliceSl sz lo hi mx k)
noncomputable def sliceA2 (n sz off : Nat) (a : Pa) (lo hi mx : Option AV) (k : AV→Option R) : Option R :=
 bndK mx n fun m=>bndK hi n fun h=>bndK lo 0 fun l=>guardK (Nat.ble l h) (guardK (Nat.ble h m) (guardK (Nat.ble m n)
  (forceN (Nat.add off (Nat.mul l sz)) fun off=>forceN (Nat.sub m l) fun cp=>k (.sl a off (Nat.sub h l) (some cp) sz))))
noncomputable def sliceAK (n sz : Nat) (x : AV) (lo hi mx : Option AV) (H : Heap) (k : AV→Option R) : Option R :=
 vP x none fun a off=>H.getK a fun b=>bC b fun _ _ _ size _=>guardK (Nat.ble (Nat.add off (Nat.mul n sz)) size) (sliceA2 n sz off a lo hi mx k)
noncomputable def dropK (n : Nat) : List AV→(List AV→Option R)→Option R :=
 Nat.rec (fun l k=>k l) (fun _ ih l k=>List.casesOn l (k []) (fun _ l=>ih l k)) n
noncomputable def takeK (n : Nat) : List AV→(List AV→Option R)→Option R :=
 Nat.rec (fun _ k=>k []) (fun _ ih l k=>List.casesOn l (k []) (fun v l=>ih l fun r=>k (v :: r))) n
noncomputable def fldK (agg : Bool) (off n : Nat) (l : List AV) (k : AV→Option R) : Option R :=
 dropK off l fun r=>Bool.casesOn agg (List.casesOn r none (fun v _=>k v)) (guardK (Nat.ble n (lenK r)) (takeK n r fun l=>k (.ag l)))
noncomputable def lookK (t : Nat) (tbl : List (Nat × Pa)) (k : Pa→Option R) : Option R :=
 List.rec none (fun x _ ih=>Bool.casesOn (Nat.beq x.1 t) ih (k x.2)) tbl
noncomputable def repK (zs : List AV) (n : Nat) : List AV:=Nat.rec [] (fun _ ih=>zs ++ ih) n
/-- What is called: a function,arguments,memory. -/
abbrev CallK (R : Type):=Pa→List AV→Heap→HK R→Option R
abbrev XOp (R : Type):=CallK R→Tr AV→Heap→HK R→Option R
/-- A function value that is called. -/
noncomputable def fnF (f : Fn) (k : Nat→Option R) : Option R:=Fn.casesOn f k (fun _=>none) (fun _ _=>none) (fun _ _ _ _=>none) (fun _=>none)
noncomputable def callvK (call : CallK R) (f : AV) (args : List AV) (H : Heap) (k : HK R) : Option R :=
 vF f none fun g first caps=>fnF g fun g=>call (toPa g) (first ++ (args ++ caps)) H k
/-- The operations that make one new block of cells: its type,its cells,what is told. -/
noncomputable def mkNew (e : Nat) (zs : List AV) (_ : Tr AV) (k : Nat→List AV→(Pa→AV)→Option R) : Option R:=k e zs fun id=>.p id 0
noncomputable def mkBox (e : Nat) (x : Opd) (fr : Tr AV) (k : Nat→List AV→(Pa→AV)→Option R) : Option R:=evK fr x fun v=>cellsK v fun l=>k e l fun id=>.p id 0
noncomputable def mkBsl (e sz len : Nat) (zs : List AV) (ps : List (Nat × Nat × Opd)) (fr : Tr AV) (k : Nat→List AV→(Pa→AV)→Option R) : Option R :=
 fillK fr ps zs fun l=>k e l fun id=>.sl id 0 len (some len) sz
noncomputable def made (H : Heap) (k : HK R) (e : Nat) (l : List AV) (f : Pa→AV) : Option R:=newK e l H fun id H=>k (f id) H
noncomputable def xMv (x : Opd) : XOp R:=fun _ fr H k=>evK fr x fun v=>k v H
noncomputable def xPick (c a b : Opd) : XOp R:=fun _ fr H k=>evK fr c fun c=>vB c fun t=>Bool.casesOn t (evK fr b fun v=>k v H) (evK fr a fun v=>k v H)
noncomputable def xNew (e : Nat) (zs : List AV) : XOp R:=fun _ fr H k=>mkNew e zs fr (made H k)
noncomputable def xBox (e : Nat) (x : Opd) : XOp R:=fun _ fr H k=>mkBox e x fr (made H k)
noncomputable def xBuild (zs : List AV) (ps : List (Nat × Nat × Opd)) : XOp R:=fun _ fr H k=>fillK fr ps zs fun l=>k (.ag l) H
noncomputable def xBsl (e sz len : Nat) (zs : List AV) (ps : List (Nat × Nat × Opd)) : XOp R:=fun _ fr H k=>mkBsl e sz len zs ps fr (made H k)
noncomputable def xLd (agg : Bool) (n : Nat) (x : Opd) : XOp R:=fun _ fr H k=>evK fr x fun v=>vP v none fun a off=>loadK agg n a off H fun v=>k v H
noncomputable def xSt (n : Nat) (x y : Opd) : XOp R:=fun _ fr H k=>evK fr x fun v=>evK fr y fun y=>vP v none fun a off=>cellsK y fun l=>guardK (Nat.beq (lenK l) n) (storeK l n a off H fun H=>k un H)
noncomputable def okPtr (v : AV) : Bool :=
 AV.casesOn v false (fun _=>false) (fun _ _=>false) (fun _ _=>false) (fun _ _=>true) false (fun _ _ _ _ _=>false) false (fun f _ _=>Fn.casesOn f (fun _=>true) (fun _=>false) (fun _ _=>false) (fun _ _ _ _=>false) (fun _=>false)) false (fun _ _=>true) false (fun _=>false) (fun _=>false) (fun _ _ _=>false) false
noncomputable def xNilck (x : Opd) : XOp R:=fun _ fr H k=>evK fr x fun v=>guardK (okPtr v) (k v H)
noncomputable def xBin (op : BinOp) (ek : EK) (x y : Opd) : XOp R:=fun _ fr H k=>evK fr x fun x=>evK fr y fun y=>binK op ek x y fun v=>k v H
noncomputable def xNot (x : Opd) : XOp R:=fun _ fr H k=>evK fr x fun v=>vB v fun t=>notK t fun v=>k v H
noncomputable def xNeg (x : Opd) : XOp R:=fun _ fr H k=>evK fr x fun v=>vI v fun kd n=>intK kd (Int.sub (.ofNat 0) n) fun v=>k v H
noncomputable def cplN (kd : IntKind) (n : Nat) (k : AV→Option R) : Option R :=
 Bool.casesOn (Nat.beq (loN kd) 0) (k (.i kd (.negSucc n))) (natV kd (Nat.sub (Nat.sub (moN kd) 1) n) k)
noncomputable def xCpl (x : Opd) : XOp R:=fun _ fr H k=>evK fr x fun v=>vI v fun kd n=>guardK (inR kd n) (iN n fun n=>cplN kd n fun v=>k v H)
noncomputable def xCvi (kd : IntKind) (x : Opd) : XOp R:=fun _ fr H k=>evK fr x fun v=>vI v fun _ n=>intK kd n fun v=>k v H
noncomputable def xCvs (x : Opd) : XOp R:=fun _ fr H k=>evK fr x fun v=>guardK (isS v) (k v H)
noncomputable def xI2s (x : Opd) : XOp R:=fun _ fr H k=>evK fr x fun v=>vI v fun _ n=>encK n fun w b=>k (.s w b) H
noncomputable def xS2b (e : Nat) (x : Opd) : XOp R:=fun _ fr H k=>evK fr x fun v=>vS v fun len n=>guardK (Nat.ble len roomN) (bytesUpK len n len fun l=>newK e l H fun id H=>k (.sl id 0 len none 1) H)
noncomputable def xB2s (x : Opd) : XOp R:=fun _ fr H k=>evK fr x fun v=>vL v (k (.s 0 0) H) fun a off len _ sz=>guardK (Nat.beq sz 1) (rangeCK len a off H fun l=>packK l 0 0 fun m n=>k (.s m n) H)
noncomputable def xS2r (e : Nat) (x : Opd) : XOp R:=fun _ fr H k=>evK fr x fun v=>vS v fun len n=>guardK (Nat.ble len roomN) (runesK len n len 0 fun l=>forceN (lenK l) fun m=>newK e l H fun id H=>k (.sl id 0 m none 1) H)
noncomputable def xR2s (x : Opd) : XOp R:=fun _ fr H k=>evK fr x fun v=>vL v (k (.s 0 0) H) fun a off len _ sz=>guardK (Nat.beq sz 1) (rangeCK len a off H fun l=>unrunesK l 0 0 fun m n=>k (.s m n) H)
noncomputable def xP2u (x : Opd) : XOp R:=fun _ fr H k=>evK fr x fun v=>vP v (k .np H) fun a off=>H.getK a fun b=>bC b fun _ _ _ size _=>guardK (Nat.blt off size) (k (.p a off) H)
noncomputable def xU2p (e s : Nat) (x : Opd) : XOp R:=fun _ fr H k=>evK fr x fun v=>vP v (k .np H) fun a off=>H.getK a fun b=>bC b fun _ _ e' size _=>guardK (Nat.beq e e') (guardK (Nat.beq off 0) (guardK (Nat.ble s size) (k (.p a off) H)))
noncomputable def xMkif (t : Nat) (x : Opd) : XOp R:=fun _ fr H k=>evK fr x fun v=>cellsK v fun _=>k (.ifc t v) H
noncomputable def xMkfn (f : Fn) (first caps : List Opd) : XOp R:=fun _ fr H k=>evsK fr first fun first=>evsK fr caps fun caps=>k (.fn f first caps) H
noncomputable def xSls (x : Opd) (lo hi : Option Opd) : XOp R:=fun _ fr H k=>evK fr x fun x=>evoK fr lo fun lo=>evoK fr hi fun hi=>sliceSK x lo hi fun v=>k v H
noncomputable def xSll (sz : Nat) (x : Opd) (lo hi mx : Option Opd) : XOp R:=fun _ fr H k=>evK fr x fun x=>evoK fr lo fun lo=>evoK fr hi fun hi=>evoK fr mx fun mx=>sliceLK sz x lo hi mx fun v=>k v H
noncomputable def xSla (n sz : Nat) (x : Opd) (lo hi mx : Option Opd) : XOp R:=fun _ fr H k=>evK fr x fun x=>evoK fr lo fun lo=>evoK fr hi fun hi=>evoK fr mx fun mx=>sliceAK n sz x lo hi mx H fun v=>k v H
noncomputable def xFa (off : Nat) (x : Opd) : XOp R:=fun _ fr H k=>evK fr x fun v=>vP v none fun a o=>forceN (Nat.add o off) fun o=>k (.p a o) H
noncomputable def xFld (agg : Bool) (off n : Nat) (x : Opd) : XOp R:=fun _ fr H k=>evK fr x fun v=>vA v fun l=>fldK agg off n l fun v=>k v H
noncomputable def xIxa (sz : Nat) (x i : Opd) : XOp R:=fun _ fr H k=>evK fr x fun x=>evK fr i fun i=>vN i fun i=>vL x none fun a off len _ sz'=>guardK (Nat.beq sz sz') (guardK (Nat.blt i len) (forceN (Nat.add off (Nat.mul i sz)) fun o=>k (.p a o) H))
noncomputable def xIxp (n sz : Nat) (x i : Opd) : XOp R:=fun _ fr H k=>evK fr x fun x=>evK fr i fun i=>vN i fun i=>vP x none fun a off=>guardK (Nat.blt i n) (forceN (Nat.add off (Nat.mul i sz)) fun o=>k (.p a o) H)
noncomputable def xIxs (x i : Opd) : XOp R:=fun _ fr H k=>evK fr x fun x=>evK fr i fun i=>vN i fun i=>vS x fun len n=>guardK (Nat.blt i len) (natV .u8 (byteAt len n i) fun v=>k v H)
noncomputable def xIxg (agg : Bool) (n sz : Nat) (x i : Opd) : XOp R:=fun _ fr H k=>evK fr x fun x=>evK fr i fun i=>vN i fun i=>vA x fun l=>guardK (Nat.blt i n) (fldK agg (Nat.mul i sz) sz l fun v=>k v H)
noncomputable def xExt (n : Nat) (x : Opd) : XOp R:=fun _ fr H k=>evK fr x fun v=>vT v fun l=>dropK n l fun r=>List.casesOn r none (fun v _=>k v H)
noncomputable def xLen (str : Bool) (x : Opd) : XOp R:=fun _ fr H k=>evK fr x fun v=>Bool.casesOn str (vL v (k (.i .i64 (.ofNat 0)) H) fun _ _ len _ _=>k (.i .i64 (.ofNat len)) H) (vS v fun len _=>k (.i .i64 (.ofNat len)) H)
noncomputable def xLenc (n : Nat) : XOp R:=fun _ _ H k=>k (.i .i64 (.ofNat n)) H
noncomputable def xCap (x : Opd) : XOp R:=fun _ fr H k=>evK fr x fun v=>vL v (k (.i .i64 (.ofNat 0)) H) fun _ _ _ c _=>Option.casesOn c none fun c=>k (.i .i64 (.ofNat c)) H
noncomputable def xApp (e sz bytes : Nat) (x y : Opd) : XOp R:=fun _ fr H k=>evK fr x fun x=>evK fr y fun y=>appendK e sz bytes x y H k
noncomputable def xCpy (sz : Nat) (x y : Opd) : XOp R:=fun _ fr H k=>evK fr x fun x=>evK fr y fun y=>copyK sz x y H k
noncomputable def mmB (isMax : Bool) (a b : Int) : Bool:=Bool.casesOn isMax (iLt b a) (iLt a b)
noncomputable def xMm (isMax : Bool) (x y : Opd) : XOp R:=fun _ fr H k=>evK fr x fun x=>evK fr y fun y=>vI x fun kd a=>vI y fun kd' b=>guardK (Nat.beq (kix kd) (kix kd')) (Bool.casesOn (mmB isMax a b) (k (.i kd a) H) (k (.i kd b) H))
noncomputable def xMks (e sz bytes : Nat) (zs : List AV) (l c : Opd) : XOp R:=fun _ fr H k=>evK fr l fun l=>evK fr c fun c=>vI l fun kl l=>vI c fun kc c=>guardK (Nat.beq (kix kl) 3) (guardK (Nat.beq (kix kc) 3) (iN l fun l=>iN c fun c =>
 guardK (Nat.ble l c) (guardK (Nat.ble (Nat.mul c bytes) roomN) (guardK (Nat.ble c sMax) (newK e (repK zs c) H fun id H=>k (.sl id 0 l (some c) sz) H)))))
noncomputable def xRng (x : Opd) : XOp R:=fun _ fr H k=>evK fr x fun v=>vS v fun len n=>H.allocK (.iter len n 0) fun id H=>k (.p id 0) H
noncomputable def nxt2 (a : Pa) (H : Heap) (k : HK R) (len n pos : Nat) : Option R :=
 Bool.casesOn (Nat.blt pos len) (k (.tu [.b false]) H) (decK len n pos fun c w=>forceN (Nat.add pos w) fun pos'=>H.putK a (.iter len n pos') fun H=>k (.tu [.b true,.i .i64 (.ofNat pos),.i .i32 (.ofNat c)]) H)
noncomputable def xNxt (x : Opd) : XOp R:=fun _ fr H k=>evK fr x fun v=>vP v none fun a off=>guardK (Nat.beq off 0) (H.getK a fun b=>bI b (nxt2 a H k))
noncomputable def xTas (t : Nat) (ok : Bool) (zero : AV) (x : Opd) : XOp R:=fun _ fr H k=>evK fr x fun v=>vE v (guardK ok (k (.tu [zero,.b false]) H)) fun t' v =>
 Bool.casesOn (Nat.beq t t') (guardK ok (k (.tu [zero,.b false]) H)) (Bool.casesOn ok (k v H) (k (.tu [v,.b true]) H))
noncomputable def xCall (f : Pa) (args : List Opd) : XOp R:=fun call fr H k=>evsK fr args fun args=>call f args H k
noncomputable def xCallv (f : Opd) (args : List Opd) : XOp R:=fun call fr H k=>evK fr f fun f=>evsK fr args fun args=>callvK call f args H k
noncomputable def xInv (tbl : List (Nat × Pa)) (x : Opd) (args : List Opd) : XOp R:=fun call fr H k=>evK fr x fun x=>evsK fr args fun args=>vE x none fun t v=>lookK t tbl fun f=>call f (v :: args) H k
noncomputable def usd2 (a : Pa) (off len : Nat) (cap : Option Nat) (_ : Nat) : Option AV :=
 Nat.casesOn len (Option.casesOn cap none fun c=>Nat.casesOn c none fun _=>some (.p a off)) fun _=>some (.p a off)
noncomputable def xUsd (x : Opd) : XOp R:=fun _ fr H k=>evK fr x fun v=>vL v (k .np H) fun a off len cap sz=>Option.casesOn (usd2 a off len cap sz) none fun v=>k v H
noncomputable def maxN (a b : Nat) : Nat:=Bool.casesOn (Nat.ble a b) a b
noncomputable def ustr2 (e : Nat) (a : Pa) (n : Nat) (H : Heap) (k : HK R) (ro : Bool) (fz e' size : Nat) (c : Tr AV) : Option R :=
 Bool.casesOn ro (guardK (Nat.beq e e') (guardK (Nat.ble n size) (getCellsK n 0 c fun l=>packK l 0 0 fun m s=>H.putK a (.cells true fz e' size c) fun H=>k (.s m s) H))) none
noncomputable def xUstr (e : Nat) (x n : Opd) : XOp R:=fun _ fr H k=>evK fr x fun x=>evK fr n fun n=>vI n fun kd n=>guardK (Nat.beq (kix kd) 3) (iN n fun n=>Nat.casesOn n (vP x (k (.s 0 0) H) (fun _ _=>k (.s 0 0) H)) fun n' =>
 vP x none fun a off=>guardK (Nat.beq off 0) (guardK (Nat.ble n' roomN) (H.getK a fun b=>bC b (ustr2 e a (Nat.succ n') H k))))
noncomputable def xMnz (e : Nat) (n : Opd) : XOp R:=fun _ fr H k=>evK fr n fun n=>vI n fun kd n=>guardK (Nat.beq (kix kd) 3) (iN n fun n=>guardK (Nat.ble n roomN) (newK e (repK [.u] n) H fun id H=>k (.sl id 0 n none 1) H))
noncomputable def xIxb (x c : Opd) : XOp R:=fun _ fr H k=>evK fr x fun x=>evK fr c fun c=>vS x fun len n=>byteOf c fun c=>idxByteK len n c len 0 fun v=>k v H
/-- A slice of bytes that stands as a text's from now on: it is not written any more. -/
noncomputable def xFrz (x : Opd) : XOp R:=fun _ fr H k=>evK fr x fun v=>vL v none fun a off len cap sz=>guardK (Nat.blt 0 len) (guardK (Nat.blt 0 sz) (H.getK a fun b=>bC b fun ro fz e size c=>Bool.casesOn ro (H.putK a (.cells true fz e size c) fun H=>k (.sl a off len cap sz) H) none))
noncomputable def xBad : XOp R:=fun _ _ _ _=>none
noncomputable def xopK (o : AOp) : XOp R :=
 @AOp.casesOn (fun _=>XOp R) o xMv xPick xNew xBox xBuild xBsl xLd xSt xNilck xBin xNot xNeg xCpl xCvi xCvs xI2s xS2b xB2s xS2r xR2s xP2u xU2p xMkif xMkfn xSls xSll xSla xFa xFld xIxa xIxp xIxs xIxg xExt xLen xLenc xCap xApp xCpy xMm xMks xRng xNxt xTas xCall xCallv xInv xUsd xUstr xMnz xIxb xFrz xBad
noncomputable def putK (d : Option Pa) (v : AV) (fr : Tr AV) (k : Tr AV→Option R) : Option R :=
 Option.casesOn d (k fr) (fun p=>setK un v p fr k)
def put (d : Option Pa) (v : AV) (fr : Tr AV) : Tr AV:=match d with | none=>fr | some p=>Tr.set un v fr p
theorem putK_eq (d : Option Pa) (v : AV) (fr : Tr AV) (k : Tr AV→Option R) : putK d v fr k = k (put d v fr):=by
 cases d <;> simp [putK,put,setK_eq]
/-- Is an operation to be done? A slot that was not written says no. -/
noncomputable def wantV (v : AV) (want : Bool) (k : Bool→Option R) : Option R :=
 AV.casesOn v none (fun x=>k (bEq x want)) (fun _ _=>none) (fun _ _=>none) (fun _ _=>none) none (fun _ _ _ _ _=>none) none (fun _ _ _=>none) none (fun _ _=>none) none (fun _=>none) (fun _=>k false) (fun _ _ _=>none) none
noncomputable def wantK (g : Option (Pa × Bool)) (fr : Tr AV) (k : Bool→Option R) : Option R :=
 Option.casesOn g (k true) (fun x=>getK un x.1 fr fun v=>wantV v x.2 k)
noncomputable def ai2 (d : Option Pa) (o : AOp) (call : CallK R) (fr : Tr AV) (H : Heap) (k : Tr AV→Heap→Option R) (w : Bool) : Option R :=
 Bool.casesOn w (putK d un fr fun fr=>k fr H) (xopK o call fr H fun v H=>putK d v fr fun fr=>k fr H)
noncomputable def aiK (call : CallK R) (ai : AI) (fr : Tr AV) (H : Heap) (k : Tr AV→Heap→Option R) : Option R :=
 AI.casesOn ai fun d g o=>wantK g fr (ai2 d o call fr H k)
noncomputable def opsK (call : CallK R) (l : List AI) : Tr AV→Heap→(Tr AV→Heap→Option R)→Option R :=
 List.rec (fun fr H k=>k fr H) (fun ai _ ih fr H k=>aiK call ai fr H fun fr H=>ih fr H k) l
end
/-! Are two values one? Of those that hold others: no. -/
noncomputable def oB (x : Option Bool) : Bool:=Option.casesOn x false (fun b=>b)
noncomputable def capEq (c c' : Option Nat) : Bool:=Option.casesOn c (Option.casesOn c' true (fun _=>false)) (fun c=>Option.casesOn c' false (fun c'=>Nat.beq c c'))
noncomputable def avEq1 (x y : AV) : Bool :=
 AV.casesOn x false (fun b=>oB (vB y fun b'=>some (bEq b b'))) (fun k a=>oB (vI y fun k' b=>some (Bool.casesOn (Nat.beq (kix k) (kix k')) false (iEq a b)))) (fun l n=>oB (vS y fun l' n'=>some (sEq l n l' n')))
  (fun a o=>oB (vP y none fun b o'=>some (Bool.casesOn (a.same b) false (Nat.beq o o')))) (oB (vP y (some true) fun _ _=>none))
  (fun a o l c z=>oB (vL y none fun b o' l' c' z'=>some (Bool.casesOn (a.same b) false (Bool.casesOn (Nat.beq o o') false (Bool.casesOn (Nat.beq l l') false (Bool.casesOn (Nat.beq z z') false (capEq c c')))))))
  (oB (vL y (some true) fun _ _ _ _ _=>none)) (fun _ _ _=>false) (oB (vF y (some true) fun _ _ _=>none)) (fun _ _=>false) (oB (vE y (some true) fun _ _=>none)) (fun _=>false) (fun _=>false) (fun _ _ _=>false) false
noncomputable def avEqs (xs : List AV) : List AV→Bool :=
 List.rec (fun ys=>List.casesOn ys true (fun _ _=>false)) (fun x _ ih ys=>List.casesOn ys false (fun y ys=>Bool.casesOn (avEq1 x y) false (ih ys))) xs
noncomputable def avEq (x y : AV) : Bool:=Bool.casesOn (oneC x) (oB (vA x fun xs=>vA y fun ys=>some (avEqs xs ys))) (avEq1 x y)
/-- Calls,whatever comes behind them. -/
abbrev Call1:=∀ R : Type,CallK R
section
/-- What a reading operation tells in another memory: the same? -/
noncomputable def noCall : CallK (AV × Heap):=fun _ _ _ _=>none
noncomputable def optB (x : Option (AV × Heap)) (f : AV→Bool) : Bool:=Option.casesOn x false (fun p=>Prod.casesOn p fun v _=>f v)
noncomputable def sameIn (o : AOp) (fr : Tr AV) (v : AV) (H : Heap) : Bool:=optB (xopK o noCall fr H fun v' H'=>some (v',H')) (avEq v)
/-- In each of the memories,by their numbers from behind: the first one is number n; those with a number below lo are passed over. -/
noncomputable def sameAll (o : AOp) (fr : Tr AV) (v : AV) (lo : Nat) (Gs : List Heap) : Nat→Bool :=
 List.rec (fun _=>true) (fun G _ ih n=>Bool.casesOn (Nat.ble lo n) true (Bool.casesOn (sameIn o fr v G) false (ih (Nat.pred n)))) Gs
variable {R : Type}
abbrev DK (R : Type):=Tr AV→Heap→List Heap→Nat→List Pa→Option R
/-- An operation's value and memory,told at once. -/
noncomputable def dirK (o : AOp) (call : Call1) (fr : Tr AV) (H : Heap) (k : HK R) : Option R :=
 Option.casesOn (xopK o (call (AV × Heap)) fr H fun v H=>some (v,H)) none (fun p=>Prod.casesOn p k)
/-- The new block of one that makes one,under an id that was kept for it. -/
noncomputable def made2 (fr : Tr AV) (H : Heap) (Gs : List Heap) (n : Nat) (ids : List Pa) (d : Option Pa) (k : DK R) (e : Nat) (l : List AV) (f : Pa→AV) : Option R :=
 List.casesOn ids none fun id ids=>setCellsK l 0 .leaf fun c=>forceN (lenK l) fun m=>H.putK id (.cells false 0 e m c) fun H=>putK d (f id) fr fun fr=>k fr H Gs n ids
noncomputable def mkK (o : AOp) (fr : Tr AV) (k : Nat→List AV→(Pa→AV)→Option R) : Option R :=
 match o with
 | .new e zs=>mkNew e zs fr k
 | .box e x=>mkBox e x fr k
 | .bsl e sz len zs ps=>mkBsl e sz len zs ps fr k
 | _=>none
noncomputable def dPure (o : AOp) (d : Option Pa) (call : Call1) (fr : Tr AV) (H : Heap) (Gs : List Heap) (n : Nat) (ids : List Pa) (k : DK R) : Option R :=
 dirK o call fr H fun v _=>putK d v fr fun fr=>k fr H Gs n ids
/-- A load's block was not there behind the last one of class 3: the region made it since. -/
noncomputable def isDead (b : Blk) : Bool:=Blk.casesOn b true (fun _ _ _ _ _=>false) (fun _ _ _=>false)
noncomputable def home1 (Gs : List Heap) (v : AV) : Bool:=oB (vP v none fun a _=>List.casesOn Gs none fun G _=>G.getK a fun b=>some (isDead b))
noncomputable def home2 (Gs : List Heap) (v : AV) : Bool:=oB (vL v none fun a _ _ _ _=>List.casesOn Gs none fun G _=>G.getK a fun b=>some (isDead b))
noncomputable def homeOk (o : AOp) (fr : Tr AV) (Gs : List Heap) : Bool :=
 match o with
 | .ld _ _ x=>oB (evK fr x fun v=>some (home1 Gs v))
 | .b2s x=>oB (evK fr x fun v=>some (home2 Gs v))
 | _=>false
/-- The mark of a load that may be of a block that the region made; what stands behind it. -/
def HM : Nat:=1000000
noncomputable def loOf (lo : Nat) : Nat:=Bool.casesOn (Nat.ble HM lo) lo (Nat.sub lo HM)
noncomputable def readOk (o : AOp) (fr : Tr AV) (v : AV) (lo : Nat) (Gs : List Heap) (n : Nat) : Bool :=
 Bool.casesOn (Nat.ble HM lo) (sameAll o fr v lo Gs n) (Bool.casesOn (homeOk o fr Gs) (sameAll o fr v (Nat.sub lo HM) Gs n) true)
noncomputable def dRead (o : AOp) (lo : Nat) (d : Option Pa) (call : Call1) (fr : Tr AV) (H : Heap) (Gs : List Heap) (n : Nat) (ids : List Pa) (k : DK R) : Option R :=
 dirK o call fr H fun v _=>guardK (readOk o fr v lo Gs n) (putK d v fr fun fr=>k fr H Gs n ids)
noncomputable def dMake (o : AOp) (d : Option Pa) (fr : Tr AV) (H : Heap) (Gs : List Heap) (n : Nat) (ids : List Pa) (k : DK R) : Option R:=mkK o fr (made2 fr H Gs n ids d k)
noncomputable def dHeavy (o : AOp) (d : Option Pa) (call : Call1) (fr : Tr AV) (H : Heap) (Gs : List Heap) (n : Nat) (ids : List Pa) (k : DK R) : Option R :=
 dirK o call fr H fun v H=>putK d v fr fun fr=>forceN (Nat.succ n) fun n=>k fr H (H :: Gs) n ids
noncomputable def dYes (cls lo : Nat) (o : AOp) (d : Option Pa) (call : Call1) (fr : Tr AV) (H : Heap) (Gs : List Heap) (n : Nat) (ids : List Pa) (k : DK R) : Option R :=
 match cls with
 | 0=>dPure o d call fr H Gs n ids k
 | 1=>dRead o lo d call fr H Gs n ids k
 | 2=>dMake o d fr H Gs n ids k
 | _=>dHeavy o d call fr H Gs n ids k
noncomputable def dNo (cls : Nat) (d : Option Pa) (fr : Tr AV) (H : Heap) (Gs : List Heap) (n : Nat) (ids : List Pa) (k : DK R) : Option R :=
 putK d un fr fun fr=>match cls with
 | 0=>k fr H Gs n ids
 | 1=>k fr H Gs n ids
 | 2=>List.casesOn ids none fun _ ids=>k fr H Gs n ids
 | _=>forceN (Nat.succ n) fun n=>k fr H (H :: Gs) n ids
noncomputable def dOne (call : Call1) (x : AI × DI) (fr : Tr AV) (H : Heap) (Gs : List Heap) (n : Nat) (ids : List Pa) (k : DK R) : Option R :=
 AI.casesOn x.1 fun d g o=>DI.casesOn x.2 fun cls lo=>wantK g fr fun w=>Bool.casesOn w (dNo cls d fr H Gs n ids k) (dYes cls lo o d call fr H Gs n ids k)
/-- A region that draws,in an order that puts each operation as late as may be ahead of those of class 3 that hang on it: Gs: memory as it stood behind each of class 3,the last one first; n: how many there were. -/
noncomputable def drawK (call : Call1) (l : List (AI × DI)) : Tr AV→Heap→List Heap→Nat→List Pa→(Tr AV→Heap→Option R)→Option R :=
 List.rec (fun fr H _ _ _ k=>k fr H) (fun x _ ih fr H Gs n ids k=>dOne call x fr H Gs n ids fun fr H Gs n ids=>ih fr H Gs n ids k) l
/-- Ids that are kept. -/
noncomputable def keepK (nA : Nat) : Pa→(List Pa→Pa→Option R)→Option R :=
 Nat.rec (fun p k=>k [] p) (fun _ ih p k=>succK p fun q=>ih q fun l r=>k (p :: l) r) nA
noncomputable def draw0K (call : Call1) (nA : Nat) (l : List (AI × DI)) (fr : Tr AV) (H : Heap) (k : Tr AV→Heap→Option R) : Option R :=
 Heap.casesOn H fun nx t=>keepK nA nx fun ids nx=>drawK call l fr ⟨nx,t⟩ [⟨nx,t⟩] 0 ids k
/-- The results. -/
noncomputable def resCell (agg : Bool) (n : Nat) (v : AV) (H : Heap) (k : AV→Option R) : Option R:=vP v none fun a off=>loadK agg n a off H k
noncomputable def resK (l : List ARes) (fr : Tr AV) (H : Heap) : (List AV→Option R)→Option R :=
 List.rec (fun k=>k []) (fun r _ ih k=>ARes.casesOn r (fun p=>getK un p fr fun v=>ih fun vs=>k (v :: vs)) (fun p agg n=>getK un p fr fun v=>resCell agg n v H fun v=>ih fun vs=>k (v :: vs))) l
/-- The frame that a call begins with. -/
noncomputable def argsK (l : List AV) : Nat→Tr AV→(Tr AV→Option R)→Option R :=
 List.rec (fun _ t k=>k t) (fun v _ ih i t k=>setK un v (toPa i) t fun t=>forceN (Nat.succ i) fun i=>ih i t k) l
abbrev XK (R : Type):=Ex→Tr AV→Heap→Option R
abbrev Run1:=∀ R : Type,AC→Tr AV→Heap→XK R→Option R
noncomputable def oneRes (l : List AV) (H : Heap) (k : HK R) : Option R:=List.casesOn l (k un H) (fun v l'=>List.casesOn l' (k v H) (fun _ _=>k (.tu l) H))
noncomputable def leaveK (res : List ARes) (k : HK R) (e : Ex) (fr : Tr AV) (H : Heap) : Option R :=
 Ex.casesOn e (resK res fr H fun l=>oneRes l H k) (fun _=>none) (resK res fr H fun l=>oneRes l H k)
noncomputable def callK (Φ : Tr AF) (run : Run1) : Call1:=fun R f args H k =>
 getK (AF.mk .bad []) f Φ fun af=>AF.casesOn af (fun body res=>argsK args 0 .leaf fun fr=>run R body fr H (leaveK res k)) (fun g=>Option.casesOn (g args) none fun v=>k v H) (fun _ _=>none)
abbrev RunC:=Tr AF→Run1→∀ R : Type,Tr AV→Heap→XK R→Option R
noncomputable def cSkip : RunC:=fun _ _ _ fr H k=>k .norm fr H
noncomputable def cOps (l : List AI) : RunC:=fun Φ run R fr H k=>opsK (callK Φ run R) l fr H fun fr H=>k .norm fr H
noncomputable def cDraw (nA : Nat) (l : List (AI × DI)) : RunC:=fun Φ run _ fr H k=>draw0K (callK Φ run) nA l fr H fun fr H=>k .norm fr H
noncomputable def thenK (run : Run1) (b : AC) (k : XK R) (e : Ex) (fr : Tr AV) (H : Heap) : Option R:=Ex.casesOn e (run R b fr H k) (fun id=>k (.exit id) fr H) (k .ret fr H)
noncomputable def cSeq (a b : AC) : RunC:=fun _ run R fr H k=>run R a fr H (thenK run b k)
noncomputable def cCond (o : Opd) (a b : AC) : RunC:=fun _ run R fr H k=>evK fr o fun v=>vB v fun t=>Bool.casesOn t (run R b fr H k) (run R a fr H k)
noncomputable def blockK (id : Nat) (k : XK R) (e : Ex) (fr : Tr AV) (H : Heap) : Option R :=
 Ex.casesOn e (k .norm fr H) (fun id'=>Bool.casesOn (Nat.beq id id') (k (.exit id') fr H) (k .norm fr H)) (k .ret fr H)
noncomputable def cBlock (id : Nat) (c : AC) : RunC:=fun _ run R fr H k=>run R c fr H (blockK id k)
noncomputable def cLoop (c : AC) : RunC:=fun _ run R fr H k=>run R c fr H (thenK run (.loop c) k)
noncomputable def cExit (id : Nat) : RunC:=fun _ _ _ fr H k=>k (.exit id) fr H
noncomputable def cRet : RunC:=fun _ _ _ fr H k=>k .ret fr H
/-- A range over a function that yields the things of a slice,the last one first: i of them are to come. -/
noncomputable def backGo (run : Run1) (z : Nat) (agg : Bool) (c : Pa) (o : Nat) (p0 p1 : Pa) (as_ body : AC) (fr : Tr AV) (k : XK R) (i : Nat) : Heap→Option R :=
 Nat.rec (fun H=>k .norm fr H) (fun i ih H=>loadK false 1 c o H fun x=>vL x none fun a off len _ sz=>guardK (Nat.beq sz z) (guardK (Nat.blt i len) (loadK agg z a (Nat.add off (Nat.mul i z)) H fun v =>
  setK un (.i .i64 (.ofNat i)) p0 fr fun fr1=>setK un v p1 fr1 fun fr2=>run R as_ fr2 H fun e fr3 H3=>Ex.casesOn e (run R body fr3 H3 fun e _ H4=>Ex.casesOn e (ih H4) (fun _=>none) none) (fun _=>none) none))) i
noncomputable def backAt (run : Run1) (z : Nat) (agg : Bool) (c : Pa) (o : Nat) (p0 p1 : Pa) (as_ body : AC) (fr : Tr AV) (k : XK R) (H : Heap) : Option R :=
 loadK false 1 c o H fun x=>vL x (k .norm fr H) fun _ _ len _ _=>guardK (Nat.blt len 1152921504606846976) (backGo run z agg c o p0 p1 as_ body fr k len H)
noncomputable def cBack (g : Opd) (p0 p1 : Pa) (as_ body : AC) : RunC:=fun Φ run R fr H k=>evK fr g fun v=>vF v none fun f first caps=>fnF f fun f=>getK (AF.mk .bad []) (toPa f) Φ fun af =>
 AF.casesOn af (fun _ _=>none) (fun _=>none) fun z agg=>List.casesOn first (List.casesOn caps none fun c cs=>List.casesOn cs (vP c none fun c o=>backAt run z agg c o p0 p1 as_ body fr k H) (fun _ _=>none)) (fun _ _=>none)
noncomputable def cBad : RunC:=fun _ _ _ _ _ _=>none
noncomputable def runC (c : AC) : RunC:=@AC.casesOn (fun _=>RunC) c cSkip cOps cDraw cSeq cCond cBlock cLoop cExit cRet cBad cBack
noncomputable def runK (Φ : Tr AF) (f : Nat) : Run1:=Nat.rec (fun _ _ _ _ _=>none) (fun _ ih R c=>runC c Φ ih R) f
/-- A function called. -/
noncomputable def goK (Φ : Tr AF) (fuel : Nat) (f : Pa) (args : List AV) (H : Heap) (k : HK R) : Option R:=callK Φ (runK Φ fuel) R f args H k
end
end Go.Vai

/- VAI,part C: the model's code turned into abstract code. -/
namespace Go.Vai
noncomputable def ofConst1 : Value→Option AV
 | .bool b=>some (.b b)
 | .int k n=>some (.i k n)
 | .string s=>some (.s s.size (pk s.data.toList))
 | .pointer none=>some .np
 | .slice none 0 0=>some .ns
 | .nilFunc=>some .nf
 | .nilIface=>some .ni
 | .map none=>some .nm
 | _=>none
noncomputable def ofConst : Value→Option AV
 | .agg cs=>(cs.toList.mapM ofConst1).map .ag
 | v=>ofConst1 v
noncomputable def compOpd (P : Program) : Operand→Option Opd
 | .tmp t=>some (.t (toPa t))
 | .const v=>(ofConst v).map .c
 | .global g=>if g < P.globals.size then some (.c (.p (toPa g) 0)) else none
 | .func f=>some (.c (.fn (.func f) [] []))
noncomputable def compOpds (P : Program) (l : Array Operand) : Option (List Opd):=l.toList.mapM (compOpd P)
noncomputable def compOpdo (P : Program) : Option Operand→Option (Option Opd)
 | none=>some none
 | some o=>(compOpd P o).map some
def szOf (P : Program) (t : TypeId) : Option Nat:=(P.info? t).map (·.size)
def byOf (P : Program) (t : TypeId) : Option Nat:=(P.info? t).map (·.bytes)
noncomputable def zeroOf (P : Program) (t : TypeId) : Option (List AV):=((P.info? t).bind (·.zero)).bind fun v=>v.cells.toList.mapM ofConst1
def aggOf (P : Program) (t : TypeId) : Option Bool:=(P.underlying t).map fun d=>match d with | .struct _=>true | .array _ _=>true | _=>false
def flatKind (P : Program) (f : Field) : Option Nat :=
 if f.name = "_" then none else
 match P.underlying f.type with
 | some .bool=>some 0
 | some (.int _)=>some 1
 | some .string=>some 2
 | _=>none
def isConst : Operand→Bool
 | .const _=>true
 | _=>false
def compEK (P : Program) (t : TypeId) (x y : Operand) : EK :=
 match P.underlying t with
 | some .bool=>.bool
 | some (.pointer e)=>match szOf P e with | some (_ + 1)=>.ptr | _=>.no
 | some (.slice _)=>.slice
 | some (.func ..)=>.func
 | some (.interface _)=>.iface (isConst x || isConst y)
 | some (.struct fs)=>if P.stoodInHeld t then .no else
  match fs.toList.mapM (flatKind P) with
  | some ks=>if (fs.toList.map (·.offset)) = List.range fs.size then .flat ks else .no
  | none=>.no
 | _=>.no
noncomputable def compParts (P : Program) (place : Nat→Option (Nat × Nat)) (ps : List (Nat × Operand)) : Option (List (Nat × Nat × Opd)) :=
 ps.mapM fun p=>(place p.1).bind fun q=>(compOpd P p.2).map fun x=>(q.1,q.2,x)
noncomputable def compConv (P : Program) (src dst : TypeId) (x : Opd) : Option AOp :=
 match P.underlying src,P.underlying dst with
 | some (.int _),some (.int k)=>some (.cvi k x)
 | some (.int _),some .string=>some (.i2s x)
 | some .string,some .string=>some (.cvs x)
 | some .string,some (.slice e)=>match P.underlying e,szOf P e with
  | some (.int .u8),some 1=>some (.s2b e x)
  | some (.int .i32),some 1=>some (.s2r e x)
  | _,_=>none
 | some (.slice e),some .string=>match P.underlying e,szOf P e with
  | some (.int .u8),some 1=>some (.b2s x)
  | some (.int .i32),some 1=>some (.r2s x)
  | _,_=>none
 | some (.pointer t),some .unsafePointer=>match szOf P t with
  | some (_ + 1)=>some (.p2u x)
  | _=>none
 | some .unsafePointer,some (.pointer u)=>match szOf P u with
  | some (n + 1)=>if u = 0 then none else some (.u2p u (n + 1) x)
  | _=>none
 | some (.slice _),some (.slice e)=>match P.underlying e with
  | some (.int .u8)=>if src = dst then some (.frz x) else none
  | _=>none
 | _,_=>none
/-- A method that is called through an interface: a value's own of a type that is no pointer,or a pointer's own. -/
noncomputable def invRow (P : Program) (name : String) (t : Nat) : Option (Nat × Pa) :=
 (P.info? t).bind fun i=>(i.methods.find? (·.name == name)).bind fun m=>if m.path = #[] then
  match m.func,P.underlying t with
  | some (_,false),some (.pointer _)=>none
  | some (f,false),some _=>some (t,toPa f)
  | some (f,true),some (.pointer _)=>some (t,toPa f)
  | _,_=>none
 else none
noncomputable def invTbl (P : Program) (name : String) : List (Nat × Pa):=(List.range P.types.size).filterMap (invRow P name)
noncomputable def compCall (P : Program) (c : Call) : Option AOp :=
 match c.callee with
 | .value (.func f)=>(compOpds P c.args).bind fun args=>match P.funcs[f]? with
  | some fn=>if fn.name = "runtime.NumGoroutine" then none else
   match fn.body with
   | some _=>some (.call (toPa f) args)
   | none =>
    if fn.origin ≠ "" then none
    else if fn.name = "internal/abi.NoEscape" then (match args with | [x]=>some (.mv x) | _=>none)
    else if fn.name = "internal/bytealg.MakeNoZero" then (match args,fn.resultTypes.toList with
     | [n],[t]=>match P.underlying t with | some (.slice e)=>some (.mnz e n) | _=>none
     | _,_=>none)
    else if fn.name = "internal/bytealg.IndexByteString" then (match args with | [x,y]=>some (.ixb x y) | _=>none)
    else none
  | none=>none
 | .value f=>(compOpd P f).bind fun f=>(compOpds P c.args).map fun args=>.callv f args
 | .invoke recv name=>(compOpd P recv).bind fun x=>(compOpds P c.args).map fun args=>.inv (invTbl P name) x args
 | .builtin b=>(compOpds P c.args).bind fun args=>match b,args,c.argTypes.toList with
  | .len,[x],[t]=>match P.underlying t with
   | some .string=>some (.len true x)
   | some (.slice _)=>some (.len false x)
   | some (.array n _)=>some (.lenc n)
   | some (.pointer a)=>match P.underlying a with | some (.array n _)=>some (.lenc n) | _=>none
   | _=>none
  | .cap,[x],[t]=>match P.underlying t with
   | some (.slice _)=>some (.cap x)
   | _=>none
  | .append,[x,y],[t,u]=>match P.underlying t,P.underlying u with
   | some (.slice _),some (.int _)=>none
   | some (.slice e),some _=>match szOf P e,byOf P e,zeroOf P e with
    | some (n + 1),some (b + 1),some zs=>if zs.length = n + 1 then some (.app e (n + 1) (b + 1) x y) else none
    | _,_,_=>none
   | _,_=>none
  | .copy,[x,y],[t,_]=>match P.underlying t with
   | some (.slice e)=>match szOf P e with
    | some (n + 1)=>some (.cpy (n + 1) x y)
    | _=>none
   | _=>none
  | .min,[x,y],_=>some (.mm false x y)
  | .max,[x,y],_=>some (.mm true x y)
  | .unsafeSliceData,[x],_=>some (.usd x)
  | .unsafeString,[x,n],[t,_]=>match P.underlying t with
   | some (.pointer e)=>match P.underlying e,szOf P e with
    | some (.int .u8),some 1=>if e = 0 then none else some (.ustr e x n)
    | _,_=>none
   | _=>none
  | _,_,_=>none
noncomputable def compOp (P : Program) (o : Oper) : Option AOp :=
 match o.op with
 | .move x=>(compOpd P x).map .mv
 | .assign x=>(compOpd P x).map .mv
 | .pick c a b=>(compOpd P c).bind fun c=>(compOpd P a).bind fun a=>(compOpd P b).map fun b=>.pick c a b
 | .alloc e=>(zeroOf P e).map fun zs=>.new e zs
 | .box e x=>(compOpd P x).map fun x=>.box e x
 | .build t ps=>match P.underlying t with
  | some (.struct fs)=>if fs.toList.all (fun f=>(szOf P f.type).isSome) then (zeroOf P t).bind fun zs=>(compParts P (fun i=>(fs[i]?).bind fun f=>(szOf P f.type).map fun n=>(f.offset,n)) ps.toList).map fun ps=>.build zs ps else none
  | some (.array _ e)=>(zeroOf P t).bind fun zs=>(szOf P e).bind fun n=>(compParts P (fun i=>some (i * n,n)) ps.toList).map fun ps=>.build zs ps
  | _=>none
 | .buildSlice t len ps=>match P.underlying t with
  | some (.slice e)=>match zeroOf P e,szOf P e with
   | some zs,some (n + 1)=>if len * (n + 1)≤2 ^ 24∧zs.length = n + 1 then (compParts P (fun i=>some (i * (n + 1),n + 1)) ps.toList).map fun ps=>.bsl e (n + 1) len (repK zs len) ps else none
   | _,_=>none
  | _=>none
 | .load t a=>(compOpd P a).bind fun a=>(aggOf P t).bind fun g=>(szOf P t).bind fun n=>if g || n = 1 then some (.ld g n a) else none
 | .store t a v=>(compOpd P a).bind fun a=>(compOpd P v).bind fun v=>(szOf P t).map fun n=>.st n a v
 | .nilCheck x=>(compOpd P x).map .nilck
 | .binOp op t x y _=>(compOpd P x).bind fun x'=>(compOpd P y).map fun y'=>.bin op (match op with | .eql=>compEK P t x y | .neq=>compEK P t x y | _=>.no) x' y'
 | .unOp op _ x=>(compOpd P x).bind fun x=>match op with
  | .not=>some (.not x)
  | .neg=>some (.neg x)
  | .xor=>some (.cpl x)
  | _=>none
 | .convert s d x=>(compOpd P x).bind fun x=>compConv P s d x
 | .makeInterface t x=>match P.underlying t with
  | some (.interface _)=>none
  | some _=>(compOpd P x).map fun x=>.mkif t x
  | none=>none
 | .makeFunc fn first caps=>(compOpds P first).bind fun first=>(compOpds P caps).map fun caps=>.mkfn fn first caps
 | .makeSlice t l c=>match P.underlying t with
  | some (.slice e)=>match zeroOf P e,szOf P e,byOf P e with
   | some zs,some (n + 1),some (b + 1)=>if zs.length = n + 1 then (compOpd P l).bind fun l=>(compOpd P c).map fun c=>.mks e (n + 1) (b + 1) zs l c else none
   | _,_,_=>none
  | _=>none
 | .slice t x lo hi mx=>if mx.isSome && hi.isNone then none else (compOpd P x).bind fun x=>(compOpdo P lo).bind fun lo=>(compOpdo P hi).bind fun hi=>(compOpdo P mx).bind fun mx=>match P.underlying t with
  | some (.array n e)=>match szOf P e with | some (m + 1)=>some (.sla n (m + 1) x lo hi mx) | _=>none
  | some .string=>match mx with | none=>some (.sls x lo hi) | some _=>none
  | some (.slice e)=>match szOf P e with | some (m + 1)=>some (.sll (m + 1) x lo hi mx) | _=>none
  | _=>none
 | .fieldAddr s x f=>match P.underlying s with
  | some (.struct fs)=>match fs[f]? with
   | some fd=>match szOf P fd.type with | some (_ + 1)=>(compOpd P x).map fun x=>.fa fd.offset x | _=>none
   | none=>none
  | _=>none
 | .field t x f=>match P.underlying t with
  | some (.struct fs)=>match fs[f]? with
   | some fd=>(aggOf P fd.type).bind fun g=>(szOf P fd.type).bind fun n=>(compOpd P x).map fun x=>.fld g fd.offset n x
   | none=>none
  | _=>none
 | .indexAddr t x i=>(compOpd P x).bind fun x=>(compOpd P i).bind fun i=>match P.underlying t with
  | some (.array n e)=>(szOf P e).map fun m=>.ixp n m x i
  | some (.slice e)=>(szOf P e).map fun m=>.ixa m x i
  | _=>none
 | .index t x i=>(compOpd P x).bind fun x=>(compOpd P i).bind fun i=>match P.underlying t with
  | some .string=>some (.ixs x i)
  | some (.array n e)=>(aggOf P e).bind fun g=>(szOf P e).map fun m=>.ixg g n m x i
  | _=>none
 | .range t x=>match P.underlying t with
  | some .string=>(compOpd P x).map .rng
  | _=>none
 | .next it isString=>if isString then (compOpd P it).map .nxt else none
 | .typeAssert x _ t ok=>match P.underlying t with
  | some (.interface _)=>none
  | some _=>match (P.info? t).bind (·.zero) with
   | some z=>(ofConst z).bind fun z=>(compOpd P x).map fun x=>.tas t ok z x
   | none=>none
  | none=>none
 | .extract x n=>(compOpd P x).map fun x=>.ext n x
 | .call c=>compCall P c
 | _=>none
noncomputable def compDst (n : Nat) : Option Tmp→Option (Option Pa)
 | none=>some none
 | some d=>if d < n then some (some (toPa d)) else none
/-- One operation: where it is not covered: one that stops the run. -/
noncomputable def compAI (P : Program) (n : Nat) (ops : Array Oper) (o : Oper) : Option AI :=
 (compDst n o.dst).bind fun d=>match o.guard with
 | none=>some ⟨d,none,(compOp P o).getD .bad⟩
 | some (j,want)=>match (ops[j]?).bind (·.dst) with
  | some t=>if t < n then some ⟨d,some (toPa t,want),(compOp P o).getD .bad⟩ else none
  | none=>none
/-- The operands of an operation. -/
def AOp.opds : AOp→List Opd
 | .mv x=>[x] | .pick c a b=>[c,a,b] | .new _ _=>[] | .box _ x=>[x] | .build _ ps=>ps.map (·.2.2) | .bsl _ _ _ _ ps=>ps.map (·.2.2)
 | .ld _ _ x=>[x] | .st _ x v=>[x,v] | .nilck x=>[x] | .bin _ _ x y=>[x,y] | .not x=>[x] | .neg x=>[x] | .cpl x=>[x] | .cvi _ x=>[x] | .cvs x=>[x] | .i2s x=>[x]
 | .s2b _ x=>[x] | .b2s x=>[x] | .s2r _ x=>[x] | .r2s x=>[x] | .p2u x=>[x] | .u2p _ _ x=>[x] | .mkif _ x=>[x] | .mkfn _ f c=>f ++ c
 | .sls x lo hi=>x :: (lo.toList ++ hi.toList) | .sll _ x lo hi mx=>x :: (lo.toList ++ hi.toList ++ mx.toList) | .sla _ _ x lo hi mx=>x :: (lo.toList ++ hi.toList ++ mx.toList)
 | .fa _ x=>[x] | .fld _ _ _ x=>[x] | .ixa _ x i=>[x,i] | .ixp _ _ x i=>[x,i] | .ixs x i=>[x,i] | .ixg _ _ _ x i=>[x,i] | .ext _ x=>[x] | .len _ x=>[x] | .lenc _=>[] | .cap x=>[x]
 | .app _ _ _ x y=>[x,y] | .cpy _ x y=>[x,y] | .mm _ x y=>[x,y] | .mks _ _ _ _ l c=>[l,c] | .rng x=>[x] | .nxt x=>[x] | .tas _ _ _ x=>[x] | .call _ bs=>bs | .callv f bs=>f :: bs | .inv _ x bs=>x :: bs
 | .usd x=>[x] | .ustr _ x n=>[x,n] | .mnz _ n=>[n] | .ixb x c=>[x,c] | .frz x=>[x] | .bad=>[]
/-- An operation's class in a region that draws. -/
noncomputable def clsOf (o : AOp) : Nat :=
 match o with
 | .mv _=>0 | .pick ..=>0 | .build ..=>0 | .nilck _=>0 | .bin ..=>0 | .not _=>0 | .neg _=>0 | .cpl _=>0 | .cvi ..=>0 | .cvs _=>0 | .i2s _=>0
 | .mkif ..=>0 | .mkfn ..=>0 | .sls ..=>0 | .sll ..=>0 | .fa ..=>0 | .fld ..=>0 | .ixa ..=>0 | .ixp ..=>0 | .ixs ..=>0 | .ixg ..=>0 | .ext ..=>0
 | .len ..=>0 | .lenc _=>0 | .cap _=>0 | .mm ..=>0 | .tas ..=>0 | .usd _=>0 | .ixb ..=>0 | .bad=>0
 | .ld ..=>1 | .sla ..=>1 | .b2s _=>1 | .r2s _=>1 | .p2u _=>1 | .u2p ..=>1
 | .new ..=>2 | .box ..=>2 | .bsl ..=>2
 | _=>3
/-- The order in which a region that draws is run: those of class 3 in the text's order,ahead of each all that it hangs on; then the rest. -/
def lateOrder (b : Array Nat) (hs : List Nat) (n : Nat) : List Nat :=
 let all:=List.range n
 let step:=fun (acc : List Nat) (h : Nat)=>acc ++ (all.filter fun i=>!acc.contains i && (i == h || (b.getD h 0).testBit i))
 let acc:=hs.foldl step []
 acc ++ all.filter fun i=>!acc.contains i
/-- Is what an operation hangs on closed? Each that it has an edge to; each that it hangs on it has an edge to,or hangs on through one that it has an edge to. -/
def closeOk (b : Array Nat) (ops : Array Oper) (n : Nat) : Bool :=
 (List.range n).all fun j=>(ops[j]?).elim false fun o =>
  (o.after.toList.all fun e=>!Region.binds .any e || (Nat.blt e.on n && (b.getD j 0).testBit e.on)) &&
  (List.range n).all fun i=>!(b.getD j 0).testBit i || o.after.toList.any fun e=>Region.binds .any e && (e.on == i || (b.getD e.on 0).testBit i)
/-- Are two operations ordered,where the one writes a slot that the other one names? -/
def slotsOk (b : Array Nat) (ops : Array Oper) (n : Nat) : Bool :=
 (List.range n).all fun i=>match (ops[i]?).bind (·.dst) with
  | none=>true
  | some d=>(List.range n).all fun j=>i == j || ((ops[j]?).elim true fun o=>!(o.dst == some d || (o.looksAt ops).contains d)) || (b.getD i 0).testBit j || (b.getD j 0).testBit i
/-- May a region be run in this order? Each is there once; all that one hangs on stands ahead of it; all that stands ahead of one of class 3 it hangs on. -/
def orderOk (b : Array Nat) (heavy : Nat→Bool) (n : Nat) (l : List Nat) : Bool :=
 l.length == n && (List.range n).all (fun i=>l.contains i) &&
 (List.range n).all fun p=>Nat.blt (l.getD p 0) n && (List.range n).all fun q =>
  (!(l.getD p 0 == l.getD q 0) || p == q) && (!(b.getD (l.getD p 0) 0).testBit (l.getD q 0) || Nat.blt q p) && (!(heavy (l.getD p 0) && Nat.blt q p) || (b.getD (l.getD p 0) 0).testBit (l.getD q 0))
/-- How many of class 3 there are among the first ones. -/
def cntH (heavy : Nat→Bool) (l : List Nat) (m : Nat) : Nat:=((l.take m).filter heavy).length
/-- How many of class 3 must stand ahead. -/
def loAt (b : Array Nat) (heavy : Nat→Bool) (l : List Nat) (n i : Nat) : Nat :=
 (List.range n).foldl (fun m q=>if heavy (l.getD q 0) && (b.getD i 0).testBit (l.getD q 0) then cntH heavy l (q + 1) else m) 0
noncomputable def clsAt (l : List AI) (i : Nat) : Nat:=(l[i]?).elim 0 fun a=>clsOf a.o
noncomputable def heavyAt (l : List AI) (i : Nat) : Bool:=clsAt l i == 3
noncomputable def drawOrd (ops : Array Oper) (l : List AI) : List Nat:=lateOrder (Region.before ops) ((List.range l.length).filter (heavyAt l)) l.length
noncomputable def drawOk (P : Program) (ops : Array Oper) (l : List AI) (ord : List Nat) : Bool :=
 (P.follows .mixedOrders || !Region.departs ops) && closeOk (Region.before ops) ops l.length && slotsOk (Region.before ops) ops l.length && orderOk (Region.before ops) (heavyAt l) l.length ord
/-- Is it an operation that makes one new block of its own? -/
def makes : Op→Bool
 | .alloc _=>true
 | .box ..=>true
 | .buildSlice ..=>true
 | _=>false
/-- Does an operation look at no slot that its text does not name? -/
noncomputable def looksOk (ops : Array Oper) (i : Nat) (a : AI) : Bool :=
 (ops[i]?).elim false fun o=>(!(clsOf a.o == 2) || makes o.op) && (AOp.opds a.o).all fun x=>Opd.casesOn x (fun p=>(o.looksAt ops).any fun t=>p.same (toPa t)) (fun _=>true)
/-- A load that hangs on each make that stands ahead of it behind the last one of class 3,of which there is one at least. -/
def isLd (o : Op) : Bool:=match o with | .load ..=>true | .convert ..=>true | _=>false
noncomputable def homed (ops : Array Oper) (b : Array Nat) (l : List AI) (ord : List Nat) (i : Nat) (a : AI) : Bool :=
 ((ops[i]?).elim false fun o=>isLd o.op) && clsOf a.o == 1 && (List.range (ord.idxOf i)).any (fun q=>clsAt l (ord.getD q 0) == 2 && cntH (heavyAt l) ord q == cntH (heavyAt l) ord (ord.idxOf i)) &&
 (List.range (ord.idxOf i)).all fun q=>!(clsAt l (ord.getD q 0) == 2 && cntH (heavyAt l) ord q == cntH (heavyAt l) ord (ord.idxOf i)) || (b.getD i 0).testBit (ord.getD q 0)
/-- How many of class 3 must stand ahead; a load of what the region made has a mark on it. -/
noncomputable def dlo (ops : Array Oper) (b : Array Nat) (l : List AI) (ord : List Nat) (i : Nat) (a : AI) : Nat:=loAt b (heavyAt l) ord l.length i + (if homed ops b l ord i a then 1000000 else 0)
noncomputable def drawRow (ops : Array Oper) (l : List AI) (ord : List Nat) (i : Nat) : Option (AI × DI) :=
 (l[i]?).bind fun a=>if looksOk ops i a && Nat.blt (loAt (Region.before ops) (heavyAt l) ord l.length i) 1000000 then some (a,⟨clsOf a.o,dlo ops (Region.before ops) l ord i a⟩) else none
noncomputable def compDraw (P : Program) (ops : Array Oper) (l : List AI) : Option AC :=
 if drawOk P ops l (drawOrd ops l) then ((drawOrd ops l).mapM (drawRow ops l (drawOrd ops l))).map fun xs=>.draw ((List.range l.length).filter fun i=>clsAt l i == 2).length xs
 else none
/-- No range over a function in it. -/
def noRF : Code→Bool
 | .rangeFunc ..=>false
 | .seq a b=>noRF a && noRF b
 | .cond _ a b=>noRF a && noRF b
 | .block _ c=>noRF c
 | .loop c=>noRF c
 | _=>true
def notDefer (o : Oper) : Bool:=match o.op with | .defer _=>false | _=>true
noncomputable def compC (P : Program) (n : Nat) : Code→Option AC
 | .skip=>some .skip
 | .region _ ops draw=>if ops.toList.all notDefer then (ops.toList.mapM (compAI P n ops)).bind fun l=>if draw then compDraw P ops l else some (.ops l) else none
 | .seq a b=>(compC P n a).bind fun a=>(compC P n b).map fun b=>.seq a b
 | .cond o a b=>(compOpd P o).bind fun o=>(compC P n a).bind fun a=>(compC P n b).map fun b=>.cond o a b
 | .block id c=>(compC P n c).map fun c=>.block id c
 | .loop c=>(compC P n c).map .loop
 | .exit id=>some (.exit id)
 | .ret=>some .ret
 | .label _=>some .skip
 | .rangeFunc g ps as_ b=>if noRF as_ && noRF b then (match ps.toList with
  | [p0,p1]=>if p0 < n∧p1 < n∧p0 ≠ p1 then (compOpd P g).bind fun g=>(compC P n as_).bind fun as_=>(compC P n b).map fun b=>.back g (toPa p0) (toPa p1) as_ b else none
  | _=>none) else none
 | _=>some .bad
noncomputable def compRes (P : Program) : ResultVar→Option ARes
 | .tmp t=>some (.tmp (toPa t))
 | .cell a t=>(aggOf P t).bind fun g=>(szOf P t).bind fun n=>if g || n = 1 then some (.cell (toPa a) g n) else none
noncomputable def compF (P : Program) (f : Func) : Option AF :=
 if f.name = "runtime.NumGoroutine" then none else f.body.bind fun c=>(compC P f.ntmps c).bind fun c=>(f.results.toList.mapM (compRes P)).map fun rs=>.mk c rs
end Go.Vai

/- VAI,part D: abstract values and memory against the model's: the relation,and how it is kept by what happens in memory. -/
namespace Go.Vai
/-- Where an abstract block lies: the model's block,the first cell's place in it,how many cells are known,how many cells the model's block has. -/
structure Inj where
 blk : Nat
 d : Nat
 n : Nat
 m : Nat
abbrev Emb:=Pa→Option Inj
def Ext (ι ι' : Emb) : Prop:=∀ a j,ι a = some j→ι' a = some j
theorem Ext.refl (ι : Emb) : Ext ι ι:=fun _ _ h=>h
theorem Ext.trans {ι ι' ι'' : Emb} (h : Ext ι ι') (h' : Ext ι' ι'') : Ext ι ι'':=fun a j e=>h' a j (h a j e)
/-- A string by length and number. -/
def SR (l n : Nat) (s : ByteArray) : Prop:=s.data.toList.length = l∧pk s.data.toList = n
def PR (ι : Emb) (a : Pa) (o : Nat) (v : Value) : Prop:=∃ j,ι a = some j∧v = .pointer (some ⟨j.blk,j.d + o,none⟩)
def SlR (ι : Emb) (a : Pa) (o l : Nat) (c : Option Nat) (z : Nat) (v : Value) : Prop :=
 ∃ ad cp j,v = .slice (some ad) l cp∧ι a = some j∧l≤cp∧(∀ k,c = some k→cp = k∧o + k * z≤j.n)∧(c = none→j.n≤o + cp * z) ∧
  (cp = 0 ∨ ad = ⟨j.blk,j.d + o,none⟩)∧j.d + o + cp * z≤j.m∧o + l * z≤j.n
/-- A number that is not known: what is known of it. -/
def SymI (n r s : Nat) (a : Int) : Prop:=(s = 1∧∃ m : Nat,a = .negSucc m∧(m + 1) % n = r) ∨ (s ≠ 1∧s ≠ EU∧∃ m : Nat,a = .ofNat m∧m % n = r∧s≤m) ∨ (s = EU∧a % (n : Int) = (r : Int))
mutual
def VR (ι : Emb) : AV→Value→Prop
 | .u,_=>True
 | .b x,v=>v = .bool x
 | .i k n,v=>v = .int k n
 | .s l n,v=>∃ s,v = .string s∧SR l n s
 | .p a o,v=>PR ι a o v
 | .np,v=>v = .pointer none
 | .sl a o l c z,v=>SlR ι a o l c z v
 | .ns,v=>v = .slice none 0 0
 | .fn f a c,v=>∃ a' c',v = .func f a' c'∧VRs ι a a'.toList∧VRs ι c c'.toList
 | .nf,v=>v = .nilFunc
 | .ifc t x,v=>∃ y,v = .iface t y∧VR ι x y
 | .ni,v=>v = .nilIface
 | .ag l,v=>∃ cs,v = .agg cs∧VRs ι l cs.toList
 | .tu l,v=>∃ cs,v = .tuple cs∧VRs ι l cs.toList
 | .mp n r s,v=>∃ a,v = .int .i64 a∧SymI n r s a
 | .nm,v=>v = .map none
def VRs (ι : Emb) : List AV→List Value→Prop
 | [],ys=>ys = []
 | x :: xs,ys=>∃ y ys',ys = y :: ys'∧VR ι x y∧VRs ι xs ys'
end
mutual
theorem VR_mono {ι ι' : Emb} (h : Ext ι ι') : ∀ (x : AV) (v : Value),VR ι x v→VR ι' x v
 | .u,_,_=>trivial
 | .b _,_,e=>e
 | .i _ _,_,e=>e
 | .s _ _,_,e=>e
 | .p _ _,_,⟨j,e,e'⟩=>⟨j,h _ _ e,e'⟩
 | .np,_,e=>e
 | .sl _ _ _ _ _,_,⟨ad,cp,j,e,e',r⟩=>⟨ad,cp,j,e,h _ _ e',r⟩
 | .ns,_,e=>e
 | .fn _ a c,_,⟨a',c',e,ha,hc⟩=>⟨a',c',e,VRs_mono h a _ ha,VRs_mono h c _ hc⟩
 | .nf,_,e=>e
 | .ifc _ x,_,⟨y,e,hx⟩=>⟨y,e,VR_mono h x y hx⟩
 | .ni,_,e=>e
 | .ag l,_,⟨cs,e,hl⟩=>⟨cs,e,VRs_mono h l _ hl⟩
 | .tu l,_,⟨cs,e,hl⟩=>⟨cs,e,VRs_mono h l _ hl⟩
 | .mp _ _ _,_,e=>e
 | .nm,_,e=>e
theorem VRs_mono {ι ι' : Emb} (h : Ext ι ι') : ∀ (xs : List AV) (ys : List Value),VRs ι xs ys→VRs ι' xs ys
 | [],_,e=>e
 | x :: xs,_,⟨y,ys',e,hx,hxs⟩=>⟨y,ys',e,VR_mono h x y hx,VRs_mono h xs ys' hxs⟩
end
theorem VRs_length {ι : Emb} : ∀ {xs : List AV} {ys : List Value},VRs ι xs ys→ys.length = xs.length
 | [],_,e=>by cases e; rfl
 | _ :: _,_,⟨_,_,e,_,h⟩=>by subst e; simp [VRs_length h]
theorem VRs_get {ι : Emb} : ∀ {xs : List AV} {ys : List Value} (_ : VRs ι xs ys) (i : Nat) (x : AV),xs[i]? = some x→∃ y,ys[i]? = some y∧VR ι x y
 | [],_,_,i,x,e=>by simp at e
 | a :: _,_,⟨y,_,e,h,_⟩,0,x,hx=>by subst e; simp at hx; subst hx; exact ⟨y,by simp,h⟩
 | _ :: _,_,⟨_,_,e,_,h⟩,i + 1,x,hx=>by subst e; simpa using VRs_get h i x (by simpa using hx)
theorem VRs_of {ι : Emb} : ∀ {xs : List AV} {ys : List Value},ys.length = xs.length→(∀ (i : Nat) (x : AV) (y : Value),xs[i]? = some x→ys[i]? = some y→VR ι x y)→VRs ι xs ys
 | [],[],_,_=>rfl
 | [],_ :: _,h,_=>by simp at h
 | _ :: _,[],h,_=>by simp at h
 | x :: xs,y :: ys,h,f=>⟨y,ys,rfl,f 0 x y (by simp) (by simp),VRs_of (by simpa using h) fun i a b ha hb=>f (i + 1) a b (by simpa using ha) (by simpa using hb)⟩
theorem VRs_append {ι : Emb} : ∀ {xs : List AV} {ys : List Value} {xs' : List AV} {ys' : List Value},VRs ι xs ys→VRs ι xs' ys'→VRs ι (xs ++ xs') (ys ++ ys')
 | [],_,_,_,e,h=>by cases e; exact h
 | _ :: _,_,_,_,⟨y,ys₀,e,hx,hxs⟩,h=>by subst e; exact ⟨y,ys₀ ++ _,rfl,hx,VRs_append hxs h⟩
theorem VRs_take {ι : Emb} {xs : List AV} {ys : List Value} (n : Nat) (h : VRs ι xs ys) : VRs ι (xs.take n) (ys.take n):=by
 have hl:=VRs_length h
 refine VRs_of (by simp [hl]) fun i x y hx hy=>?_
 rw [List.getElem?_take] at hx hy
 split at hx
 ·rename_i hi
  rw [if_pos hi] at hy
  obtain ⟨y',hy',hv⟩:=VRs_get h i x hx
  rw [hy'] at hy; cases hy; exact hv
 ·cases hx
theorem VRs_drop {ι : Emb} {xs : List AV} {ys : List Value} (n : Nat) (h : VRs ι xs ys) : VRs ι (xs.drop n) (ys.drop n):=by
 have hl:=VRs_length h
 refine VRs_of (by simp [hl]) fun i x y hx hy=>?_
 rw [List.getElem?_drop] at hx hy
 obtain ⟨y',hy',hv⟩:=VRs_get h _ x hx
 rw [hy'] at hy; cases hy; exact hv
/-- A block that may be written. -/
def Blk.wr : Blk→Bool
 | .cells ro ..=>!ro
 | .iter ..=>true
 | .dead=>false
def Blk.alive : Blk→Bool
 | .dead=>false
 | _=>true
/-- Blocks of the model's that are left alone (soft: as they were there; hard: none here lies over them),and ids that are kept for later. -/
structure Pr where
 soft : Nat→Prop
 hard : Nat→Prop
 res : Pa→Prop
 ds : List Deferred
instance : CoeFun Pr (fun _=>Nat→Prop):=⟨fun p b=>p.soft b ∨ p.hard b⟩
/-- A block of cells against the model's. -/
def CR (ι : Emb) (pr : Pr) (ro : Bool) (fz e size : Nat) (c : Tr AV) (j : Inj) (h : Array Obj) : Prop :=
 j.n = size∧∃ cs e' f,h[j.blk]? = some (.cells cs e' f)∧(e ≠ 0→e' = e∧j.d = 0)∧j.m = cs.size∧j.d + size≤j.m ∧
  (∀ i,i < size→∃ v,cs[j.d + i]? = some v∧VR ι (c.get .u (toPa i)) v) ∧
  (ro = false→¬ pr j.blk∧∀ i,j.d + fz≤i→i < j.m→¬ (f.1≤i∧i < f.2))
def BR (ι : Emb) (pr : Pr) (b : Blk) (oj : Option Inj) (h : Array Obj) : Prop :=
 match b with
 | .dead=>True
 | .cells ro fz e size c=>∃ j,oj = some j∧CR ι pr ro fz e size c j h∧¬ pr.hard j.blk
 | .iter len n pos=>∃ j,oj = some j∧j.d = 0∧¬ pr j.blk∧∃ s,h[j.blk]? = some (.stringIter s pos)∧SR len n s
/-- pr: blocks of the model's that are left alone; ng: how many package-level variables there are. -/
structure Rel (pr : Pr) (ng : Nat) (ι : Emb) (H : Heap) (h : Array Obj) : Prop where
 fresh : ∀ a,H.next.toN≤a.toN→ι a = none
 freshH : ∀ a,H.next.toN≤a.toN→H.get a = .dead
 dom : ∀ a,BR ι pr (H.get a) (ι a) h
 sep : ∀ a b j k,a ≠ b→(H.get a).wr = true→(H.get b).alive = true→ι a = some j→ι b = some k→j.blk ≠ k.blk
 lt : ∀ a j,ι a = some j→j.blk < h.size
 prot : ∀ b,pr b→b < h.size
 glob : ∀ g,g < ng→∃ n m,ι (toPa g) = some ⟨g,0,n,m⟩
 resv : ∀ a,pr.res a→ι a = none∧a.toN < H.next.toN
/-- What a step leaves as it was. -/
structure Fr (pr : Pr) (w w' : World) : Prop where
 os : w'.os = w.os
 tape : w'.tape = w.tape
 output : w'.output = w.output
 size : w.heap.size≤w'.heap.size
 keep : ∀ b,pr b→w'.heap[b]? = w.heap[b]?
theorem Fr.refl (pr : Pr) (w : World) : Fr pr w w:=⟨rfl,rfl,rfl,Nat.le_refl _,fun _ _=>rfl⟩
theorem Fr.trans {pr : Pr} {w w' w'' : World} (h : Fr pr w w') (h' : Fr pr w' w'') : Fr pr w w'' :=
 ⟨h'.os.trans h.os,h'.tape.trans h.tape,h'.output.trans h.output,Nat.le_trans h.size h'.size,fun b hb=>(h'.keep b hb).trans (h.keep b hb)⟩
section
variable {pr : Pr} {ng : Nat} {ι : Emb} {H : Heap} {h : Array Obj}
theorem Heap.get_put (H : Heap) (a b : Pa) (x : Blk) : (H.put a x).get b = if a = b then x else H.get b:=Tr.get_set _ _ _ _ _
theorem Heap.get_alloc (H : Heap) (b : Pa) (x : Blk) : (H.alloc x).get b = if H.next = b then x else H.get b:=Tr.get_set _ _ _ _ _
theorem Rel.cells (R : Rel pr ng ι H h) {a : Pa} {ro : Bool} {fz e size : Nat} {c : Tr AV} (hb : H.get a = .cells ro fz e size c) :
  ∃ j,ι a = some j∧CR ι pr ro fz e size c j h:=by
 have:=R.dom a; rw [hb] at this
 obtain ⟨j,h1,h2,_⟩:=this
 exact ⟨j,h1,h2⟩
theorem Rel.soft (R : Rel pr ng ι H h) {a : Pa} {ro : Bool} {fz e size : Nat} {c : Tr AV} {j : Inj} (hb : H.get a = .cells ro fz e size c) (hj : ι a = some j) : ¬ pr.hard j.blk:=by
 have:=R.dom a; rw [hb] at this
 obtain ⟨j',h1,_,h2⟩:=this
 rw [hj] at h1; cases h1; exact h2
theorem CR.mono {ι' : Emb} (hx : Ext ι ι') {ro : Bool} {fz e size : Nat} {c : Tr AV} {j : Inj} {h h' : Array Obj} (r : CR ι pr ro fz e size c j h) (hh : h'[j.blk]? = h[j.blk]?) :
  CR ι' pr ro fz e size c j h':=by
 obtain ⟨h1,cs,e',f,h2,he,h3,h4,h5,h6⟩:=r
 exact ⟨h1,cs,e',f,hh.trans h2,he,h3,h4,fun i hi=>let ⟨v,hv,hr⟩:=h5 i hi; ⟨v,hv,VR_mono hx _ _ hr⟩,h6⟩
theorem BR.mono {ι' : Emb} (hx : Ext ι ι') {b : Blk} {oj oj' : Option Inj} {h h' : Array Obj} (r : BR ι pr b oj h) (ho : ∀ j,oj = some j→oj' = some j)
  (hh : ∀ j,oj = some j→h'[j.blk]? = h[j.blk]?) : BR ι' pr b oj' h':=by
 cases b with
 | dead=>trivial
 | cells ro fz e size c =>
  obtain ⟨j,hj,hc,hn⟩:=r
  exact ⟨j,ho j hj,hc.mono hx (hh j hj),hn⟩
 | iter len n pos =>
  obtain ⟨j,hj,h1,h2,s,h3,h4⟩:=r
  exact ⟨j,ho j hj,h1,h2,s,(hh j hj).trans h3,h4⟩
theorem CR.of (ι : Emb) (pr : Pr) (ro : Bool) (fz e e' : Nat) (l : List AV) (c : Tr AV) (j : Inj) (h : Array Obj) (cs : Array Value) (f : Nat × Nat)
  (hn : j.n = l.length) (hb : h[j.blk]? = some (.cells cs e' f)) (he : e ≠ 0→e' = e∧j.d = 0) (hm : j.m = cs.size) (hd : j.d + l.length≤j.m)
  (hc : ∀ i x,l[i]? = some x→c.get .u (toPa i) = x) (hv : ∀ i x,l[i]? = some x→∃ v,cs[j.d + i]? = some v∧VR ι x v)
  (hw : ro = false→¬ pr j.blk∧∀ i,j.d + fz≤i→i < j.m→¬ (f.1≤i∧i < f.2)) : CR ι pr ro fz e l.length c j h :=
 ⟨hn,cs,e',f,hb,he,hm,hd,fun i hi=>by
  obtain ⟨v,h1,h2⟩:=hv i l[i] (by simp [hi])
  exact ⟨v,h1,by rw [hc i l[i] (by simp [hi])]; exact h2⟩,hw⟩
/-- An emb with one place more. -/
def Emb.add (ι : Emb) (a : Pa) (j : Inj) : Emb:=fun b=>if b = a then some j else ι b
theorem Ext.add {ι : Emb} {a : Pa} (j : Inj) (hn : ι a = none) : Ext ι (ι.add a j):=fun b k hb=>by
 unfold Emb.add; split
 ·rename_i e; subst e; rw [hn] at hb; cases hb
 ·exact hb
theorem Emb.add_same (ι : Emb) (a : Pa) (j : Inj) : ι.add a j a = some j:=by simp [Emb.add]
theorem Emb.add_ne (ι : Emb) {a b : Pa} (j : Inj) (h : b ≠ a) : ι.add a j b = ι b:=by simp [Emb.add,h]
/-- A new abstract block x over a block of the model's that none holds: a new one,or one whose holder is gone. -/
theorem Rel.newOver (R : Rel pr ng ι H h) (x : Blk) (j : Inj) (h' : Array Obj) (hsize : h.size≤h'.size) (hlt : j.blk < h'.size)
  (hsame : ∀ b,b < h.size→b ≠ j.blk→h'[b]? = h[b]?)
  (hfree : ∀ a k,(H.get a).alive = true→ι a = some k→k.blk ≠ j.blk)
  (hx : BR (ι.add H.next j) pr x (some j) h') : Rel pr ng (ι.add H.next j) (H.alloc x) h':=by
 have hnone : ι H.next = none:=R.fresh _ (Nat.le_refl _)
 have hext:=Ext.add (ι:=ι) j hnone
 have hnext : (H.alloc x).next.toN = H.next.toN + 1:=Pa.toN_succ _
 refine ⟨?_,?_,?_,?_,?_,?_,?_,?_⟩
 ·intro a ha
  rw [hnext] at ha
  rw [Emb.add_ne]
  ·exact R.fresh a (by omega)
  ·intro e; subst e; omega
 ·intro a ha
  rw [hnext] at ha
  rw [Heap.get_alloc,if_neg (by intro e; subst e; omega)]
  exact R.freshH a (by omega)
 ·intro a
  rw [Heap.get_alloc]
  by_cases e : H.next = a
  ·subst e; rw [if_pos rfl,Emb.add_same]; exact hx
  ·rw [if_neg e,Emb.add_ne _ _ (Ne.symm e)]
   cases hb : H.get a with
   | dead=>trivial
   | _ =>
    have hd:=R.dom a
    have hal : (H.get a).alive = true:=by rw [hb]; rfl
    rw [hb] at hd
    exact hd.mono hext (fun j hj=>hj) fun k hk=>hsame _ (R.lt _ _ hk) (hfree a k hal hk)
 ·intro a b k k' hab hwa hab' hka hkb
  rw [Heap.get_alloc] at hwa hab'
  by_cases ea : H.next = a
  ·subst ea
   rw [if_neg hab] at hab'
   rw [Emb.add_same] at hka; cases hka
   rw [Emb.add_ne _ _ (Ne.symm hab)] at hkb
   exact fun e=>hfree b k' hab' hkb e.symm
  ·rw [if_neg ea] at hwa
   rw [Emb.add_ne _ _ (Ne.symm ea)] at hka
   by_cases eb : H.next = b
   ·subst eb
    rw [Emb.add_same] at hkb; cases hkb
    refine hfree a k ?_ hka
    revert hwa; cases H.get a <;> simp [Blk.wr,Blk.alive]
   ·rw [if_neg eb] at hab'
    rw [Emb.add_ne _ _ (Ne.symm eb)] at hkb
    exact R.sep a b k k' hab hwa hab' hka hkb
 ·intro a k hk
  by_cases e : a = H.next
  ·subst e; rw [Emb.add_same] at hk; cases hk; exact hlt
  ·rw [Emb.add_ne _ _ e] at hk; exact Nat.lt_of_lt_of_le (R.lt a k hk) hsize
 ·exact fun b hb=>Nat.lt_of_lt_of_le (R.prot b hb) hsize
 ·intro g hg
  obtain ⟨n,m,e⟩:=R.glob g hg
  exact ⟨n,m,hext _ _ e⟩
 ·intro a ha
  obtain ⟨h1,h2⟩:=R.resv a ha
  rw [hnext,Emb.add_ne _ _ (fun e=>by subst e; exact Nat.lt_irrefl _ h2)]
  exact ⟨h1,Nat.lt_succ_of_lt h2⟩
/-- A new block of the model's. -/
theorem Rel.push (R : Rel pr ng ι H h) (x : Blk) (o : Obj) (n m : Nat)
  (hx : BR (ι.add H.next ⟨h.size,0,n,m⟩) pr x (some ⟨h.size,0,n,m⟩) (h.push o)) : Rel pr ng (ι.add H.next ⟨h.size,0,n,m⟩) (H.alloc x) (h.push o) :=
 R.newOver x _ _ (by simp) (by simp) (fun b hb _=>by simp [Array.getElem?_push,Nat.ne_of_lt hb])
  (fun a k _ hk=>Nat.ne_of_lt (R.lt a k hk)) hx
theorem Rel.notProt (R : Rel pr ng ι H h) : ¬ pr h.size:=fun hp=>Nat.lt_irrefl _ (R.prot _ hp)
theorem Rel.notHard (R : Rel pr ng ι H h) : ¬ pr.hard h.size:=fun hp=>R.notProt (.inr hp)
/-- A block turned in place,of the model's and of the abstract ones. -/
theorem Rel.turn (R : Rel pr ng ι H h) {a : Pa} {j : Inj} (x : Blk) (o : Obj) (ha : ι a = some j) (hw : (H.get a).wr = true)
  (hx : BR ι pr x (some j) (h.setIfInBounds j.blk o)) : Rel pr ng ι (H.put a x) (h.setIfInBounds j.blk o):=by
 have hal : (H.get a).alive = true:=by revert hw; cases H.get a <;> simp [Blk.wr,Blk.alive]
 have hlt : a.toN < H.next.toN:=by
  rcases Nat.lt_or_ge a.toN H.next.toN with g | g
  ·exact g
  ·rw [R.fresh a g] at ha; cases ha
 refine ⟨R.fresh,?_,?_,?_,?_,?_,R.glob,R.resv⟩
 ·intro b hb
  have : (H.put a x).next.toN = H.next.toN:=rfl
  rw [Heap.get_put,if_neg (by intro e; subst e; omega)]
  exact R.freshH b (by omega)
 ·intro b
  rw [Heap.get_put]
  by_cases e : a = b
  ·subst e; rw [if_pos rfl,ha]; exact hx
  ·rw [if_neg e]
   cases hb : H.get b with
   | dead=>trivial
   | _ =>
    have hd:=R.dom b
    have hal' : (H.get b).alive = true:=by rw [hb]; rfl
    rw [hb] at hd
    refine hd.mono (Ext.refl _) (fun _ e=>e) fun k hk=>?_
    have hne:=R.sep a b j k e hw hal' ha hk
    simp [hne]
 ·intro b b' k k' hbb hwb halb hk hk'
  rw [Heap.get_put] at hwb halb
  by_cases e : a = b
  ·subst e
   rw [if_neg hbb] at halb
   exact R.sep a b' k k' hbb hw halb hk hk'
  ·rw [if_neg e] at hwb
   by_cases e' : a = b'
   ·subst e'
    exact R.sep b a k k' hbb hwb hal hk hk'
   ·rw [if_neg e'] at halb
    exact R.sep b b' k k' hbb hwb halb hk hk'
 ·intro b k hk; rw [Array.size_setIfInBounds]; exact R.lt b k hk
 ·intro b hb; rw [Array.size_setIfInBounds]; exact R.prot b hb
/-- A block that is let go. -/
theorem Rel.kill (R : Rel pr ng ι H h) {a : Pa} (hlt : a.toN < H.next.toN) : Rel pr ng ι (H.put a .dead) h:=by
 refine ⟨R.fresh,?_,?_,?_,R.lt,R.prot,R.glob,R.resv⟩
 ·intro b hb
  have : (H.put a .dead).next.toN = H.next.toN:=rfl
  rw [Heap.get_put,if_neg (by intro e; subst e; omega)]
  exact R.freshH b (by omega)
 ·intro b
  rw [Heap.get_put]
  by_cases e : a = b
  ·rw [if_pos e]; trivial
  ·rw [if_neg e]; exact R.dom b
 ·intro b b' k k' hbb hwb halb hk hk'
  rw [Heap.get_put] at hwb halb
  by_cases e : a = b
  ·rw [if_pos e] at hwb; cases hwb
  ·rw [if_neg e] at hwb
   by_cases e' : a = b'
   ·rw [if_pos e'] at halb; cases halb
   ·rw [if_neg e'] at halb; exact R.sep b b' k k' hbb hwb halb hk hk'
theorem Rel.lt_next (R : Rel pr ng ι H h) {a : Pa} {j : Inj} (ha : ι a = some j) : a.toN < H.next.toN:=by
 rcases Nat.lt_or_ge a.toN H.next.toN with g | g
 ·exact g
 ·rw [R.fresh a g] at ha; cases ha
end
end Go.Vai
