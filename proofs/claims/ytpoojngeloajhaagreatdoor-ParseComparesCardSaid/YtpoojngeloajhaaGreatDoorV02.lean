/- VAI, part B: the abstract operations, the abstract code, and how they are run. -/
import Derived.Test.YtpoojngeloajhaaGreatDoorV01
namespace Go.Vai

inductive Opd where
  | t (p : Pa)
  | c (v : AV)

/-- What '==' holds against one another. -/
inductive EK where
  | no
  | bool
  | ptr
  | slice
  | func
  | iface (lit : Bool)
  | flat (ks : List Nat)

inductive AOp where
  | mv (x : Opd)
  | pick (c a b : Opd)
  | new (e : Nat) (zs : List AV)
  | box (e : Nat) (x : Opd)
  | build (zs : List AV) (parts : List (Nat × Nat × Opd))
  | bsl (e sz len : Nat) (zs : List AV) (parts : List (Nat × Nat × Opd))
  | ld (agg : Bool) (n : Nat) (x : Opd)
  | st (n : Nat) (x v : Opd)
  | nilck (x : Opd)
  | bin (op : BinOp) (ek : EK) (x y : Opd)
  | not (x : Opd)
  | neg (x : Opd)
  | cpl (x : Opd)
  | cvi (k : IntKind) (x : Opd)
  | cvs (x : Opd)
  | i2s (x : Opd)
  | s2b (e : Nat) (x : Opd)
  | b2s (x : Opd)
  | s2r (e : Nat) (x : Opd)
  | r2s (x : Opd)
  | p2u (x : Opd)
  | u2p (e s : Nat) (x : Opd)
  | mkif (t : Nat) (x : Opd)
  | mkfn (f : Fn) (first caps : List Opd)
  | sls (x : Opd) (lo hi : Option Opd)
  | sll (sz : Nat) (x : Opd) (lo hi mx : Option Opd)
  | sla (n sz : Nat) (x : Opd) (lo hi mx : Option Opd)
  | fa (off : Nat) (x : Opd)
  | fld (agg : Bool) (off n : Nat) (x : Opd)
  | ixa (sz : Nat) (x i : Opd)
  | ixp (n sz : Nat) (x i : Opd)
  | ixs (x i : Opd)
  | ixg (agg : Bool) (n sz : Nat) (x i : Opd)
  | ext (n : Nat) (x : Opd)
  | len (str : Bool) (x : Opd)
  | lenc (n : Nat)
  | cap (x : Opd)
  | app (e sz bytes : Nat) (x y : Opd)
  | cpy (sz : Nat) (x y : Opd)
  | mm (isMax : Bool) (x y : Opd)
  | mks (e sz bytes : Nat) (zs : List AV) (l c : Opd)
  | rng (x : Opd)
  | nxt (x : Opd)
  | tas (t : Nat) (ok : Bool) (zero : AV) (x : Opd)
  | call (f : Pa) (args : List Opd)
  | callv (f : Opd) (args : List Opd)
  | inv (tbl : List (Nat × Pa)) (x : Opd) (args : List Opd)
  | usd (x : Opd)
  | ustr (e : Nat) (x n : Opd)
  | mnz (e : Nat) (n : Opd)
  | ixb (x c : Opd)
  | bad

structure AI where
  d : Option Pa
  g : Option (Pa × Bool)
  o : AOp

/-- In a region that draws each operation has a class: 0 it neither reads memory nor turns it, 1 it reads (lo: how many of class 3 must stand ahead of it), 2 it makes one new block, 3 it does more. -/
structure DI where
  cls : Nat
  lo : Nat

inductive AC where
  | skip
  | ops (l : List AI)
  | draw (nA : Nat) (l : List (AI × DI))
  | seq (a b : AC)
  | cond (o : Opd) (a b : AC)
  | block (id : Nat) (c : AC)
  | loop (c : AC)
  | exit (id : Nat)
  | ret
  | bad

inductive ARes where
  | tmp (p : Pa)
  | cell (p : Pa) (agg : Bool) (n : Nat)

/-- A function: its code and its results; or what it tells of its arguments alone, by a contract. -/
inductive AF where
  | mk (body : AC) (res : List ARes)
  | prim (g : List AV → Option AV)

inductive Ex where
  | norm
  | exit (id : Nat)
  | ret

/-- What stands in a slot that was not written: no value. -/
abbrev un : AV := .tu []

section
variable {R : Type}

def ev (fr : Tr AV) : Opd → AV
  | .t p => Tr.get un fr p
  | .c v => v
noncomputable def evK (fr : Tr AV) (o : Opd) (k : AV → Option R) : Option R := Opd.casesOn o (fun p => getK un p fr k) (fun v => k v)
theorem evK_eq (fr : Tr AV) (o : Opd) (k : AV → Option R) : evK fr o k = k (ev fr o) := by cases o <;> simp [evK, ev, getK_eq]

noncomputable def evsK (fr : Tr AV) (l : List Opd) : (List AV → Option R) → Option R :=
  List.rec (fun k => k []) (fun o _ ih k => evK fr o fun v => ih fun vs => k (v :: vs)) l
theorem evsK_eq (fr : Tr AV) : ∀ (l : List Opd) (k : List AV → Option R), evsK fr l k = k (l.map (ev fr))
  | [], _ => rfl
  | o :: l, k => by
    show evK fr o (fun v => evsK fr l fun vs => k (v :: vs)) = _
    rw [evK_eq, evsK_eq]; rfl

noncomputable def evoK (fr : Tr AV) (o : Option Opd) (k : Option AV → Option R) : Option R := Option.casesOn o (k none) (fun o => evK fr o fun v => k (some v))
theorem evoK_eq (fr : Tr AV) (o : Option Opd) (k : Option AV → Option R) : evoK fr o k = k (o.map (ev fr)) := by cases o <;> simp [evoK, evK_eq]

/-! A value taken apart. -/
noncomputable def vB (v : AV) (f : Bool → Option R) : Option R :=
  AV.casesOn v none f (fun _ _ => none) (fun _ _ => none) (fun _ _ => none) none (fun _ _ _ _ _ => none) none (fun _ _ _ => none) none (fun _ _ => none) none (fun _ => none) (fun _ => none) (fun _ _ _ => none) none
noncomputable def vI (v : AV) (f : IntKind → Int → Option R) : Option R :=
  AV.casesOn v none (fun _ => none) f (fun _ _ => none) (fun _ _ => none) none (fun _ _ _ _ _ => none) none (fun _ _ _ => none) none (fun _ _ => none) none (fun _ => none) (fun _ => none) (fun _ _ _ => none) none
noncomputable def vS (v : AV) (f : Nat → Nat → Option R) : Option R :=
  AV.casesOn v none (fun _ => none) (fun _ _ => none) f (fun _ _ => none) none (fun _ _ _ _ _ => none) none (fun _ _ _ => none) none (fun _ _ => none) none (fun _ => none) (fun _ => none) (fun _ _ _ => none) none
noncomputable def vP (v : AV) (nil : Option R) (f : Pa → Nat → Option R) : Option R :=
  AV.casesOn v none (fun _ => none) (fun _ _ => none) (fun _ _ => none) f nil (fun _ _ _ _ _ => none) none (fun _ _ _ => none) none (fun _ _ => none) none (fun _ => none) (fun _ => none) (fun _ _ _ => none) none
noncomputable def vL (v : AV) (nil : Option R) (f : Pa → Nat → Nat → Option Nat → Nat → Option R) : Option R :=
  AV.casesOn v none (fun _ => none) (fun _ _ => none) (fun _ _ => none) (fun _ _ => none) none f nil (fun _ _ _ => none) none (fun _ _ => none) none (fun _ => none) (fun _ => none) (fun _ _ _ => none) none
noncomputable def vF (v : AV) (nil : Option R) (f : Fn → List AV → List AV → Option R) : Option R :=
  AV.casesOn v none (fun _ => none) (fun _ _ => none) (fun _ _ => none) (fun _ _ => none) none (fun _ _ _ _ _ => none) none f nil (fun _ _ => none) none (fun _ => none) (fun _ => none) (fun _ _ _ => none) none
noncomputable def vE (v : AV) (nil : Option R) (f : Nat → AV → Option R) : Option R :=
  AV.casesOn v none (fun _ => none) (fun _ _ => none) (fun _ _ => none) (fun _ _ => none) none (fun _ _ _ _ _ => none) none (fun _ _ _ => none) none f nil (fun _ => none) (fun _ => none) (fun _ _ _ => none) none
noncomputable def vA (v : AV) (f : List AV → Option R) : Option R :=
  AV.casesOn v none (fun _ => none) (fun _ _ => none) (fun _ _ => none) (fun _ _ => none) none (fun _ _ _ _ _ => none) none (fun _ _ _ => none) none (fun _ _ => none) none f (fun _ => none) (fun _ _ _ => none) none
noncomputable def vT (v : AV) (f : List AV → Option R) : Option R :=
  AV.casesOn v none (fun _ => none) (fun _ _ => none) (fun _ _ => none) (fun _ _ => none) none (fun _ _ _ _ _ => none) none (fun _ _ _ => none) none (fun _ _ => none) none (fun _ => none) f (fun _ _ _ => none) none
/-- A number from nought on. -/
noncomputable def iN (n : Int) (f : Nat → Option R) : Option R := Int.casesOn n f (fun _ => none)
/-- A value that is a number from nought on. -/
noncomputable def vN (v : AV) (f : Nat → Option R) : Option R := vI v fun _ n => iN n f
/-- A block of cells. -/
noncomputable def bC (b : Blk) (f : Bool → Nat → Nat → Nat → Tr AV → Option R) : Option R := Blk.casesOn b none f (fun _ _ _ => none)
noncomputable def bI (b : Blk) (f : Nat → Nat → Nat → Option R) : Option R := Blk.casesOn b none (fun _ _ _ _ _ => none) f

/-! Numbers. -/
noncomputable def kix (k : IntKind) : Nat := IntKind.casesOn k 0 1 2 3 4 5 6 7
theorem kix_inj {a b : IntKind} (h : Nat.beq (kix a) (kix b) = true) : a = b := by
  cases a <;> cases b <;> first | rfl | (simp [kix] at h)
noncomputable def hiN (k : IntKind) : Nat := IntKind.casesOn k 128 32768 2147483648 9223372036854775808 256 65536 4294967296 18446744073709551616
noncomputable def loN (k : IntKind) : Nat := IntKind.casesOn k 128 32768 2147483648 9223372036854775808 0 0 0 0
noncomputable def moN (k : IntKind) : Nat := IntKind.casesOn k 256 65536 4294967296 18446744073709551616 256 65536 4294967296 18446744073709551616
noncomputable def bitsN (k : IntKind) : Nat := IntKind.casesOn k 8 16 32 64 8 16 32 64

noncomputable def inR (k : IntKind) (n : Int) : Bool := Int.casesOn n (fun m => Nat.blt m (hiN k)) (fun m => Nat.blt m (loN k))
/-- A number's remainder by the kind's modulus. -/
noncomputable def remN (k : IntKind) (n : Int) : Nat := Int.casesOn n (fun m => Nat.mod m (moN k)) (fun m => Nat.sub (Nat.sub (moN k) 1) (Nat.mod m (moN k)))
noncomputable def wrapM (k : IntKind) (m : Nat) : Int := Bool.casesOn (Nat.blt m (hiN k)) (Int.negSucc (Nat.sub (Nat.sub (moN k) 1) m)) (Int.ofNat m)
noncomputable def wrapK (k : IntKind) (n : Int) (c : Int → Option R) : Option R :=
  Bool.casesOn (inR k n) (forceI (wrapM k (remN k n)) c) (forceI n c)

noncomputable def iEq (a b : Int) : Bool :=
  Int.casesOn a (fun a => Int.casesOn b (fun b => Nat.beq a b) (fun _ => false)) (fun a => Int.casesOn b (fun _ => false) (fun b => Nat.beq a b))
noncomputable def iLt (a b : Int) : Bool :=
  Int.casesOn a (fun a => Int.casesOn b (fun b => Nat.blt a b) (fun _ => false)) (fun a => Int.casesOn b (fun _ => true) (fun b => Nat.blt b a))

noncomputable def boolK (x : Bool) (c : AV → Option R) : Option R := Bool.casesOn x (c (.b false)) (c (.b true))
noncomputable def notK (x : Bool) (c : AV → Option R) : Option R := Bool.casesOn x (c (.b true)) (c (.b false))
noncomputable def guardK (x : Bool) (c : Option R) : Option R := Bool.casesOn x none c
noncomputable def intK (k : IntKind) (n : Int) (c : AV → Option R) : Option R := wrapK k n fun n => c (.i k n)
noncomputable def natV (k : IntKind) (n : Nat) (c : AV → Option R) : Option R := forceN n fun n => c (.i k (.ofNat n))

abbrev IOp (R : Type) := IntKind → Int → Int → (AV → Option R) → Option R
noncomputable def iNone : IOp R := fun _ _ _ _ => none
noncomputable def iAdd : IOp R := fun k a b c => intK k (Int.add a b) c
noncomputable def iSub : IOp R := fun k a b c => intK k (Int.sub a b) c
noncomputable def iMul : IOp R := fun k a b c => intK k (Int.mul a b) c
noncomputable def iQuo : IOp R := fun k a b c => Bool.casesOn (iEq b (.ofNat 0)) (intK k (Int.tdiv a b) c) none
noncomputable def iRem : IOp R := fun k a b c => Bool.casesOn (iEq b (.ofNat 0)) (forceI (Int.tmod a b) fun n => c (.i k n)) none
noncomputable def andNN (a b : Int) (k : IntKind) (c : AV → Option R) : Option R :=
  Int.casesOn a (fun a => Int.casesOn b (fun b => natV k (Nat.land a b) c) (fun b => natV k (Nat.xor a (Nat.land a b)) c))
    (fun a => Int.casesOn b (fun b => natV k (Nat.xor b (Nat.land b a)) c) (fun _ => none))
noncomputable def iAnd : IOp R := fun k a b c => guardK (inR k a) (guardK (inR k b) (andNN a b k c))
noncomputable def iOr : IOp R := fun k a b c => guardK (inR k a) (guardK (inR k b) (iN a fun a => iN b fun b => natV k (Nat.lor a b) c))
noncomputable def iXor : IOp R := fun k a b c => guardK (inR k a) (guardK (inR k b) (iN a fun a => iN b fun b => natV k (Nat.xor a b) c))
noncomputable def iAndNot : IOp R := fun k a b c => guardK (inR k a) (guardK (inR k b) (iN a fun a => iN b fun b => natV k (Nat.xor a (Nat.land a b)) c))
noncomputable def iEql : IOp R := fun _ a b c => boolK (iEq a b) c
noncomputable def iNeq : IOp R := fun _ a b c => notK (iEq a b) c
noncomputable def iLss : IOp R := fun _ a b c => boolK (iLt a b) c
noncomputable def iLeq : IOp R := fun _ a b c => notK (iLt b a) c
noncomputable def iGtr : IOp R := fun _ a b c => boolK (iLt b a) c
noncomputable def iGeq : IOp R := fun _ a b c => notK (iLt a b) c
noncomputable def minN (a b : Nat) : Nat := Bool.casesOn (Nat.ble a b) b a
noncomputable def iShl : IOp R := fun k a b c => iN b fun m => intK k (Int.mul a (.ofNat (Nat.pow 2 (minN m (bitsN k))))) c
noncomputable def iShr : IOp R := fun k a b c => iN b fun m => forceI (Int.fdiv a (.ofNat (Nat.pow 2 (minN m (bitsN k))))) fun n => c (.i k n)

/-- What an operation is at numbers; may the kinds differ? -/
noncomputable def iTab (op : BinOp) : IOp R :=
  match op with
  | .add => iAdd | .sub => iSub | .mul => iMul | .quo => iQuo | .rem => iRem | .and => iAnd | .or => iOr | .xor => iXor | .andNot => iAndNot | .shl => iShl | .shr => iShr
  | .eql => iEql | .neq => iNeq | .lss => iLss | .leq => iLeq | .gtr => iGtr | .geq => iGeq
noncomputable def iShift (op : BinOp) : Bool :=
  match op with
  | .shl => true | .shr => true | _ => false

/-! Strings. -/
noncomputable def cutS (n l m : Nat) : Nat := Nat.div n (Nat.pow 256 (Nat.sub l m))
noncomputable def lt2 (a b l1 l2 : Nat) : Bool := Bool.casesOn (Nat.blt a b) (Bool.casesOn (Nat.beq a b) false (Nat.blt l1 l2)) true
noncomputable def sLt (l1 n1 l2 n2 : Nat) : Bool := lt2 (cutS n1 l1 (minN l1 l2)) (cutS n2 l2 (minN l1 l2)) l1 l2
noncomputable def sEq (l1 n1 l2 n2 : Nat) : Bool := Bool.casesOn (Nat.beq l1 l2) false (Nat.beq n1 n2)
noncomputable def byteAt (l n i : Nat) : Nat := Nat.mod (Nat.div n (Nat.pow 256 (Nat.sub (Nat.sub l i) 1))) 256
noncomputable def strV (l n : Nat) (c : AV → Option R) : Option R := forceN l fun l => forceN n fun n => c (.s l n)

/-- More than any string here may have: 2^62. -/
def sMax : Nat := 4611686018427387904

abbrev SOp (R : Type) := Nat → Nat → Nat → Nat → (AV → Option R) → Option R
noncomputable def sNone : SOp R := fun _ _ _ _ _ => none
noncomputable def sAdd : SOp R := fun l1 n1 l2 n2 c => guardK (Nat.ble (Nat.add l1 l2) sMax) (strV (Nat.add l1 l2) (Nat.add (Nat.mul n1 (Nat.pow 256 l2)) n2) c)
noncomputable def sEql : SOp R := fun l1 n1 l2 n2 c => boolK (sEq l1 n1 l2 n2) c
noncomputable def sNeq : SOp R := fun l1 n1 l2 n2 c => notK (sEq l1 n1 l2 n2) c
noncomputable def sLss : SOp R := fun l1 n1 l2 n2 c => boolK (sLt l1 n1 l2 n2) c
noncomputable def sLeq : SOp R := fun l1 n1 l2 n2 c => notK (sLt l2 n2 l1 n1) c
noncomputable def sGtr : SOp R := fun l1 n1 l2 n2 c => boolK (sLt l2 n2 l1 n1) c
noncomputable def sGeq : SOp R := fun l1 n1 l2 n2 c => notK (sLt l1 n1 l2 n2) c
noncomputable def sTab (op : BinOp) : SOp R :=
  match op with
  | .add => sAdd | .eql => sEql | .neq => sNeq | .lss => sLss | .leq => sLeq | .gtr => sGtr | .geq => sGeq | _ => sNone

/-! '=='. -/
noncomputable def bEq (x y : Bool) : Bool := Bool.casesOn x (Bool.casesOn y true false) y
noncomputable def eqCellK (kind : Nat) (x y : AV) (c : Bool → Option R) : Option R :=
  match kind with
  | 0 => vB x fun x => vB y fun y => forceB (bEq x y) c
  | 1 => vI x fun k a => vI y fun k' b => guardK (Nat.beq (kix k) (kix k')) (forceB (iEq a b) c)
  | 2 => vS x fun l1 n1 => vS y fun l2 n2 => forceB (sEq l1 n1 l2 n2) c
  | _ => none

noncomputable def eqCellsK (ks : List Nat) : List AV → List AV → (Bool → Option R) → Option R :=
  List.rec (fun xs ys c => List.casesOn xs (List.casesOn ys (c true) (fun _ _ => none)) (fun _ _ => none))
    (fun kind _ ih xs ys c => List.casesOn xs none (fun x xs => List.casesOn ys none (fun y ys => eqCellK kind x y fun r => ih xs ys fun s => c (Bool.casesOn r false s)))) ks

abbrev EOp (R : Type) := AV → AV → (Bool → Option R) → Option R
noncomputable def eNo : EOp R := fun _ _ _ => none
noncomputable def eBool : EOp R := fun x y c => eqCellK 0 x y c
noncomputable def ePtr : EOp R := fun x y c => vP x (vP y (c true) (fun _ _ => c false)) fun a o => vP y (c false) fun b o' => guardK (a.same b) (forceB (Nat.beq o o') c)
noncomputable def eSlice : EOp R := fun x y c => vL x (vL y (c true) (fun _ _ _ _ _ => c false)) fun _ _ _ _ _ => vL y (c false) (fun _ _ _ _ _ => none)
noncomputable def eFunc : EOp R := fun x y c => vF x (vF y (c true) (fun _ _ _ => c false)) fun _ _ _ => vF y (c false) (fun _ _ _ => none)
noncomputable def eIface (lit : Bool) : EOp R := fun x y c => vE x (vE y (guardK lit (c true)) (fun _ _ => c false)) fun _ _ => vE y (c false) (fun _ _ => none)
noncomputable def eFlat (ks : List Nat) : EOp R := fun x y c => vA x fun xs => vA y fun ys => eqCellsK ks xs ys c
noncomputable def eTab (ek : EK) : EOp R := EK.casesOn ek eNo eBool ePtr eSlice eFunc eIface eFlat

noncomputable def binE (op : BinOp) (ek : EK) (x y : AV) (c : AV → Option R) : Option R :=
  match op with
  | .eql => eTab ek x y fun r => boolK r c
  | .neq => eTab ek x y fun r => notK r c
  | _ => none
abbrev BOp (R : Type) := BinOp → EK → AV → AV → (AV → Option R) → Option R
noncomputable def binI (k : IntKind) (a : Int) : BOp R := fun op _ _ y c => vI y fun k' b => Bool.casesOn (iShift op) (guardK (Nat.beq (kix k) (kix k')) (iTab op k a b c)) (iTab op k a b c)
noncomputable def binS (l n : Nat) : BOp R := fun op _ _ y c => vS y fun l' n' => sTab op l n l' n' c
/-! A number that is not known: of which the rest by a number, and the side of nought that it lies on, are. -/
noncomputable def ltTab (op : BinOp) (c : AV → Option R) : Option R :=
  match op with
  | .lss => c (.b true) | .leq => c (.b true) | .neq => c (.b true) | .gtr => c (.b false) | .geq => c (.b false) | .eql => c (.b false) | _ => none
noncomputable def gtTab (op : BinOp) (c : AV → Option R) : Option R :=
  match op with
  | .lss => c (.b false) | .leq => c (.b false) | .neq => c (.b true) | .gtr => c (.b true) | .geq => c (.b true) | .eql => c (.b false) | _ => none
noncomputable def geTab (op : BinOp) (c : AV → Option R) : Option R :=
  match op with
  | .lss => c (.b false) | .geq => c (.b true) | _ => none
/-- The mark of a number of which the rest from nought on is known, and no sign. -/
def EU : Nat := 18446744073709551616
noncomputable def remM2 (r s : Nat) (c : AV → Option R) : Option R := Bool.casesOn (Nat.beq s 1) (c (.i .i64 (.ofNat r))) (Nat.casesOn r (c (.i .i64 (.ofNat 0))) fun m => c (.i .i64 (.negSucc m)))
noncomputable def remM (r s : Nat) (c : AV → Option R) : Option R := Bool.casesOn (Nat.beq s EU) (remM2 r s c) none
noncomputable def cmpM (s : Nat) (op : BinOp) (b : Nat) (c : AV → Option R) : Option R :=
  Nat.casesOn s (guardK (Nat.beq b 0) (geTab op c)) fun s' => Nat.casesOn s' (ltTab op c) fun _ => Bool.casesOn (Nat.beq s EU) (guardK (Nat.blt b s) (gtTab op c)) none
noncomputable def binM (n r s : Nat) : BOp R := fun op _ _ y c => vI y fun k b => guardK (Nat.beq (kix k) 3) (iN b fun b =>
  match op with
  | .rem => guardK (Nat.beq n b) (Nat.casesOn b none fun _ => remM r s c)
  | op => cmpM s op b c)
noncomputable def binK (op : BinOp) (ek : EK) (x y : AV) (c : AV → Option R) : Option R :=
  @AV.casesOn (fun _ => BOp R) x binE (fun _ => binE) binI binS (fun _ _ => binE) binE (fun _ _ _ _ _ => binE) binE (fun _ _ _ => binE) binE (fun _ _ => binE) binE (fun _ => binE) (fun _ => binE) binM binE op ek x y c

/-- A value that one cell may hold, and that is known. -/
noncomputable def oneC (v : AV) : Bool :=
  AV.casesOn v false (fun _ => true) (fun _ _ => true) (fun _ _ => true) (fun _ _ => true) true (fun _ _ _ _ _ => true) true (fun _ _ _ => true) true (fun _ _ => true) true (fun _ => false) (fun _ => false) (fun _ _ _ => true) true
noncomputable def oneCs (l : List AV) : Bool := List.rec true (fun v _ ih => Bool.casesOn (oneC v) false ih) l

/-- A value's cells, handed on: not of one that is not known. -/
noncomputable def cellsK (v : AV) (c : List AV → Option R) : Option R :=
  Bool.casesOn (oneC v) (vA v c) (c [v])

/-- Parts laid over cells. -/
def lay : List AV → Nat → List AV → List AV
  | cs, 0, l => l ++ cs.drop l.length
  | [], _ + 1, l => l
  | c :: cs, n + 1, l => c :: lay cs n l
noncomputable def lay0K (l : List AV) : List AV → (List AV → Option R) → Option R :=
  List.rec (fun cs k => k cs) (fun v _ ih cs k => List.casesOn cs (ih [] fun r => k (v :: r)) (fun _ cs => ih cs fun r => k (v :: r))) l
noncomputable def layK (l : List AV) (n : Nat) : List AV → (List AV → Option R) → Option R :=
  Nat.rec (lay0K l) (fun _ ih cs k => List.casesOn cs (k l) (fun c cs => ih cs fun r => k (c :: r))) n
noncomputable def lenK (l : List AV) : Nat := List.rec 0 (fun _ _ ih => Nat.succ ih) l

noncomputable def fill1K (off n : Nat) (cs l : List AV) (k : List AV → Option R) : Option R :=
  guardK (Nat.beq (lenK l) n) (guardK (Nat.ble (Nat.add off n) (lenK cs)) (layK l off cs k))
noncomputable def fillK (fr : Tr AV) (parts : List (Nat × Nat × Opd)) : List AV → (List AV → Option R) → Option R :=
  List.rec (fun cs k => k cs) (fun p _ ih cs k => evK fr p.2.2 fun v => cellsK v fun l => fill1K p.1 p.2.1 cs l fun cs => ih cs k) parts

/-! Memory. -/
noncomputable def load1K (agg : Bool) (n off size : Nat) (c : Tr AV) (k : AV → Option R) : Option R :=
  guardK (Nat.ble (Nat.add off n) size) (Bool.casesOn agg (getK AV.u (toPa off) c k) (getCellsK n off c fun l => k (.ag l)))
noncomputable def loadK (agg : Bool) (n : Nat) (a : Pa) (off : Nat) (H : Heap) (k : AV → Option R) : Option R :=
  H.getK a fun b => bC b fun _ _ _ size c => load1K agg n off size c k

noncomputable def store1K (l : List AV) (n off : Nat) (fz size : Nat) (c : Tr AV) (k : Tr AV → Option R) : Option R :=
  guardK (Nat.ble (Nat.add off n) size) (guardK (Nat.ble fz off) (guardK (oneCs l) (setCellsK l off c k)))
noncomputable def storeK (l : List AV) (n : Nat) (a : Pa) (off : Nat) (H : Heap) (k : Heap → Option R) : Option R :=
  H.getK a fun b => bC b fun ro fz e size c => Bool.casesOn ro (store1K l n off fz size c fun c => H.putK a (.cells false fz e size c) k) none

noncomputable def newK (e : Nat) (l : List AV) (H : Heap) (k : Pa → Heap → Option R) : Option R :=
  setCellsK l 0 .leaf fun c => forceN (lenK l) fun n => H.allocK (.cells false 0 e n c) k

noncomputable def rangeCK (n : Nat) (a : Pa) (off : Nat) (H : Heap) (k : List AV → Option R) : Option R :=
  H.getK a fun b => bC b fun _ _ _ size c => guardK (Nat.ble (Nat.add off n) size) (getCellsK n off c k)

/-- A string's bytes as cells. -/
noncomputable def bytesUpK (len n : Nat) (f : Nat) : (List AV → Option R) → Option R :=
  Nat.rec (fun k => k []) (fun j ih k => forceN (byteAt len n (Nat.sub (Nat.sub len j) 1)) fun x => ih fun l => k (.i .u8 (.ofNat x) :: l)) f

/-- Cells that are bytes, as a string. -/
noncomputable def byteOf (v : AV) (k : Nat → Option R) : Option R := vI v fun kd n => guardK (Nat.beq (kix kd) 4) (iN n fun x => guardK (Nat.blt x 256) (k x))
noncomputable def packK (l : List AV) : Nat → Nat → (Nat → Nat → Option R) → Option R :=
  List.rec (fun m n k => k m n) (fun v _ ih m n k => byteOf v fun x => forceN (Nat.add (Nat.mul n 256) x) fun n => forceN (Nat.succ m) fun m => ih m n k) l

/-- The most room that is asked for in one piece: 2^47 bytes. -/
def roomN : Nat := 140737488351232

/-- What is appended: cells. -/
noncomputable def srcL (sz : Nat) (H : Heap) (k : Nat → List AV → Option R) (b : Pa) (off len : Nat) (_ : Option Nat) (sz' : Nat) : Option R :=
  guardK (Nat.beq sz sz') (rangeCK (Nat.mul len sz) b off H fun l => k len l)
noncomputable def srcS (sz : Nat) (k : Nat → List AV → Option R) (len n : Nat) : Option R := guardK (Nat.beq sz 1) (bytesUpK len n len fun l => k len l)
noncomputable def isS (v : AV) : Bool :=
  AV.casesOn v false (fun _ => false) (fun _ _ => false) (fun _ _ => true) (fun _ _ => false) false (fun _ _ _ _ _ => false) false (fun _ _ _ => false) false (fun _ _ => false) false (fun _ => false) (fun _ => false) (fun _ _ _ => false) false
noncomputable def srcK (sz : Nat) (y : AV) (H : Heap) (k : Nat → List AV → Option R) : Option R :=
  Bool.casesOn (isS y) (vL y (k 0 []) (srcL sz H k)) (vS y (srcS sz k))

abbrev HK (R : Type) := AV → Heap → Option R
/-- A new block for what there was and what is appended. -/
noncomputable def grow2K (e sz at_ need fz : Nat) (a : Pa) (ys : List AV) (H : Heap) (k : HK R) (c : Tr AV) : Option R :=
  setCellsK ys at_ c fun c => forceN (Nat.mul need sz) fun size => H.putK a .dead fun H => H.allocK (.cells false fz e size c) fun id H => k (.sl id 0 need none sz) H
noncomputable def growK (e sz bytes len off need fz : Nat) (a : Pa) (ys : List AV) (H : Heap) (c : Tr AV) (k : HK R) : Option R :=
  guardK (Nat.ble (Nat.mul need bytes) roomN) (Nat.casesOn off (grow2K e sz (Nat.mul len sz) need fz a ys H k c)
    (fun off' => getCellsK (Nat.mul len sz) (Nat.succ off') c fun xs => setCellsK xs 0 .leaf fun c => forceN (Nat.sub fz (Nat.succ off')) fun fz => grow2K 0 sz (Nat.mul len sz) need fz a ys H k c))
noncomputable def appOpen (eo sz bytes len off need : Nat) (a : Pa) (ys : List AV) (H : Heap) (k : HK R) (ro : Bool) (fz e size : Nat) (c : Tr AV) : Option R :=
  Bool.casesOn ro (forceN (Nat.add off (Nat.mul len sz)) fun at_ => guardK (Nat.ble fz at_) (Bool.casesOn (Nat.ble (Nat.add off (Nat.mul need sz)) size)
    (forceN (Bool.casesOn (Nat.beq e eo) 0 eo) fun e => growK e sz bytes len off need fz a ys H c k)
    (setCellsK ys at_ c fun c => H.putK a (.cells false fz e size c) fun H => k (.sl a off need none sz) H))) none
noncomputable def appNew (e sz bytes len off need : Nat) (a : Pa) (ys : List AV) (H : Heap) (k : HK R) : Option R :=
  guardK (Nat.ble (Nat.mul need bytes) roomN) (rangeCK (Nat.mul len sz) a off H fun xs => newK e (xs ++ ys) H fun id H => k (.sl id 0 need none sz) H)
noncomputable def appFits (sz n len off need : Nat) (cp : Nat) (a : Pa) (ys : List AV) (H : Heap) (k : HK R) : Option R :=
  forceN (Nat.add off (Nat.mul len sz)) fun at_ => storeK ys (Nat.mul n sz) a at_ H fun H => k (.sl a off need (some cp) sz) H
noncomputable def appShut (e sz bytes n len off need : Nat) (a : Pa) (ys : List AV) (H : Heap) (k : HK R) (cp : Nat) : Option R :=
  Bool.casesOn (Nat.ble need cp) (appNew e sz bytes len off need a ys H k) (appFits sz n len off need cp a ys H k)
noncomputable def appSl (e sz bytes n : Nat) (ys : List AV) (H : Heap) (k : HK R) (a : Pa) (off len : Nat) (cap : Option Nat) (sz' : Nat) : Option R :=
  guardK (Nat.beq sz sz') (forceN (Nat.add len n) fun need => Option.casesOn cap (H.getK a fun b => bC b (appOpen e sz bytes len off need a ys H k)) (appShut e sz bytes n len off need a ys H k))
noncomputable def appNil (e sz bytes n : Nat) (ys : List AV) (H : Heap) (k : HK R) : Option R :=
  guardK (Nat.ble (Nat.mul n bytes) roomN) (newK e ys H fun id H => k (.sl id 0 n none sz) H)
noncomputable def append2K (e sz bytes : Nat) (x : AV) (H : Heap) (k : HK R) (n : Nat) (ys : List AV) : Option R :=
  Nat.casesOn n (vL x (k .ns H) (fun a off len cap sz => k (.sl a off len cap sz) H)) fun n' => guardK (oneCs ys) (vL x (appNil e sz bytes (Nat.succ n') ys H k) (appSl e sz bytes (Nat.succ n') ys H k))
noncomputable def appendK (e sz bytes : Nat) (x y : AV) (H : Heap) (k : HK R) : Option R := srcK sz y H (append2K e sz bytes x H k)

noncomputable def copy2K (sz : Nat) (a : Pa) (off m : Nat) (ys : List AV) (H : Heap) (k : HK R) : Option R :=
  Nat.casesOn m (k (.i .i64 (.ofNat 0)) H) fun _ => storeK (ys.take (Nat.mul m sz)) (Nat.mul m sz) a off H fun H => k (.i .i64 (.ofNat m)) H
noncomputable def copySl (sz : Nat) (y : AV) (H : Heap) (k : HK R) (a : Pa) (off len : Nat) (_ : Option Nat) (sz' : Nat) : Option R :=
  guardK (Nat.beq sz sz') (srcK sz y H fun n ys => forceN (minN n len) fun m => copy2K sz a off m ys H k)
noncomputable def copyK (sz : Nat) (x y : AV) (H : Heap) (k : HK R) : Option R := vL x (srcK sz y H fun _ _ => k (.i .i64 (.ofNat 0)) H) (copySl sz y H k)

/-! A rune at a place. -/
noncomputable def contAt (l n i : Nat) : Bool := Bool.casesOn (Nat.blt i l) false (Nat.beq (Nat.div (byteAt l n i) 64) 2)
noncomputable def validN (c : Nat) : Bool := Nat.blt c 55296 || (Nat.ble 57344 c && Nat.ble c 1114111)
noncomputable def dec4 (l n i b0 : Nat) (k : Nat → Nat → Option R) : Option R :=
  forceN (Nat.mod b0 8 * 262144 + Nat.mod (byteAt l n (i + 1)) 64 * 4096 + Nat.mod (byteAt l n (i + 2)) 64 * 64 + Nat.mod (byteAt l n (i + 3)) 64) fun c =>
    Bool.casesOn (Nat.ble 65536 c && validN c) (k 65533 1) (k c 4)
noncomputable def dec3 (l n i b0 : Nat) (k : Nat → Nat → Option R) : Option R :=
  forceN (Nat.mod b0 16 * 4096 + Nat.mod (byteAt l n (i + 1)) 64 * 64 + Nat.mod (byteAt l n (i + 2)) 64) fun c => Bool.casesOn (Nat.ble 2048 c && validN c) (k 65533 1) (k c 3)
noncomputable def dec2 (l n i b0 : Nat) (k : Nat → Nat → Option R) : Option R :=
  forceN (Nat.mod b0 32 * 64 + Nat.mod (byteAt l n (i + 1)) 64) fun c => Bool.casesOn (Nat.ble 128 c) (k 65533 1) (k c 2)
noncomputable def decN (l n i b0 : Nat) (k : Nat → Nat → Option R) : Option R :=
  Bool.casesOn (Nat.beq (Nat.div b0 32) 6 && contAt l n (i + 1))
    (Bool.casesOn (Nat.beq (Nat.div b0 16) 14 && contAt l n (i + 1) && contAt l n (i + 2))
      (Bool.casesOn (Nat.beq (Nat.div b0 8) 30 && contAt l n (i + 1) && contAt l n (i + 2) && contAt l n (i + 3)) (k 65533 1) (dec4 l n i b0 k))
      (dec3 l n i b0 k))
    (dec2 l n i b0 k)
noncomputable def decK (l n i : Nat) (k : Nat → Nat → Option R) : Option R :=
  forceN (byteAt l n i) fun b0 => Bool.casesOn (Nat.blt b0 128) (decN l n i b0 k) (k b0 1)

/-- A rune's bytes: how many, as a number. -/
noncomputable def runeN (r : Int) : Nat := Int.casesOn r (fun m => Bool.casesOn (validN m) 65533 m) (fun _ => 65533)
noncomputable def enc4 (c : Nat) : Nat := ((((240 + c / 262144) * 256 + (128 + c / 4096 % 64)) * 256 + (128 + c / 64 % 64)) * 256 + (128 + c % 64))
noncomputable def enc3 (c : Nat) : Nat := (((224 + c / 4096) * 256 + (128 + c / 64 % 64)) * 256 + (128 + c % 64))
noncomputable def enc2 (c : Nat) : Nat := ((192 + c / 64) * 256 + (128 + c % 64))
noncomputable def encN (c : Nat) (k : Nat → Nat → Option R) : Option R :=
  Bool.casesOn (Nat.blt c 2048) (Bool.casesOn (Nat.blt c 65536) (forceN (enc4 c) fun n => k 4 n) (forceN (enc3 c) fun n => k 3 n)) (forceN (enc2 c) fun n => k 2 n)
noncomputable def encK (r : Int) (k : Nat → Nat → Option R) : Option R :=
  forceN (runeN r) fun c => Bool.casesOn (Nat.blt c 128) (encN c k) (k 1 c)

/-- The runes of a string as cells, from a place on. -/
noncomputable def runesK (l n : Nat) (f : Nat) : Nat → (List AV → Option R) → Option R :=
  Nat.rec (fun _ k => k []) (fun _ ih i k => Bool.casesOn (Nat.blt i l) (k []) (decK l n i fun c w => forceN (Nat.add i w) fun i => ih i fun r => k (.i .i32 (.ofNat c) :: r))) f

noncomputable def unrunesK (l : List AV) : Nat → Nat → (Nat → Nat → Option R) → Option R :=
  List.rec (fun m n k => k m n) (fun v _ ih m n k => vI v fun kd x => guardK (Nat.beq (kix kd) 2) (encK x fun w b => forceN (Nat.add (Nat.mul n (Nat.pow 256 w)) b) fun n => forceN (Nat.add m w) fun m => ih m n k)) l

noncomputable def idxByteK (len n c : Nat) (f : Nat) : Nat → (AV → Option R) → Option R :=
  Nat.rec (fun _ k => k (.i .i64 (.negSucc 0))) (fun _ ih i k => Bool.casesOn (Nat.beq (byteAt len n i) c) (forceN (Nat.succ i) fun i => ih i k) (k (.i .i64 (.ofNat i)))) f

/-! Slicing. -/
noncomputable def bndK (o : Option AV) (d : Nat) (k : Nat → Option R) : Option R := Option.casesOn o (k d) (fun v => vN v k)

noncomputable def subS (n len l h : Nat) : Nat := Nat.mod (Nat.div n (Nat.pow 256 (Nat.sub len h))) (Nat.pow 256 (Nat.sub h l))
noncomputable def sliceSK (x : AV) (lo hi : Option AV) (k : AV → Option R) : Option R :=
  vS x fun len n => bndK hi len fun h => bndK lo 0 fun l => guardK (Nat.ble l h) (guardK (Nat.ble h len) (strV (Nat.sub h l) (subS n len l h) k))

noncomputable def sliceNil (lo hi mx : Option AV) (k : AV → Option R) : Option R :=
  bndK mx 0 fun m => bndK hi 0 fun h => bndK lo 0 fun l => guardK (Nat.beq m 0) (guardK (Nat.beq h 0) (guardK (Nat.beq l 0) (k .ns)))
noncomputable def sliceOpen (sz len l h : Nat) (a : Pa) (off : Nat) (cap : Option Nat) (k : AV → Option R) : Option R :=
  Option.casesOn cap (guardK (Nat.ble h len) (k (.sl a off (Nat.sub h l) none sz))) (fun cp => guardK (Nat.ble h cp) (forceN (Nat.sub cp l) fun cp => k (.sl a off (Nat.sub h l) (some cp) sz)))
noncomputable def sliceShut (sz len l h : Nat) (a : Pa) (off : Nat) (cap : Option Nat) (m : Nat) (k : AV → Option R) : Option R :=
  guardK (Nat.ble h m) (guardK (Nat.ble m (Option.casesOn cap len (fun cp => cp))) (forceN (Nat.sub m l) fun cp => k (.sl a off (Nat.sub h l) (some cp) sz)))
noncomputable def sliceSl (sz : Nat) (lo hi mx : Option AV) (k : AV → Option R) (a : Pa) (off len : Nat) (cap : Option Nat) (sz' : Nat) : Option R :=
  guardK (Nat.beq sz sz') (bndK hi len fun h => bndK lo 0 fun l => guardK (Nat.ble l h) (forceN (Nat.add off (Nat.mul l sz)) fun off =>
    Option.casesOn mx (sliceOpen sz len l h a off cap k) (fun v => vN v fun m => sliceShut sz len l h a off cap m k)))
noncomputable def sliceLK (sz : Nat) (x : AV) (lo hi mx : Option AV) (k : AV → Option R) : Option R := vL x (sliceNil lo hi mx k) (sliceSl sz lo hi mx k)

noncomputable def sliceA2 (n sz off : Nat) (a : Pa) (lo hi mx : Option AV) (k : AV → Option R) : Option R :=
  bndK mx n fun m => bndK hi n fun h => bndK lo 0 fun l => guardK (Nat.ble l h) (guardK (Nat.ble h m) (guardK (Nat.ble m n)
    (forceN (Nat.add off (Nat.mul l sz)) fun off => forceN (Nat.sub m l) fun cp => k (.sl a off (Nat.sub h l) (some cp) sz))))
noncomputable def sliceAK (n sz : Nat) (x : AV) (lo hi mx : Option AV) (H : Heap) (k : AV → Option R) : Option R :=
  vP x none fun a off => H.getK a fun b => bC b fun _ _ _ size _ => guardK (Nat.ble (Nat.add off (Nat.mul n sz)) size) (sliceA2 n sz off a lo hi mx k)

noncomputable def dropK (n : Nat) : List AV → (List AV → Option R) → Option R :=
  Nat.rec (fun l k => k l) (fun _ ih l k => List.casesOn l (k []) (fun _ l => ih l k)) n
noncomputable def takeK (n : Nat) : List AV → (List AV → Option R) → Option R :=
  Nat.rec (fun _ k => k []) (fun _ ih l k => List.casesOn l (k []) (fun v l => ih l fun r => k (v :: r))) n
noncomputable def fldK (agg : Bool) (off n : Nat) (l : List AV) (k : AV → Option R) : Option R :=
  dropK off l fun r => Bool.casesOn agg (List.casesOn r none (fun v _ => k v)) (guardK (Nat.ble n (lenK r)) (takeK n r fun l => k (.ag l)))

noncomputable def lookK (t : Nat) (tbl : List (Nat × Pa)) (k : Pa → Option R) : Option R :=
  List.rec none (fun x _ ih => Bool.casesOn (Nat.beq x.1 t) ih (k x.2)) tbl

noncomputable def repK (zs : List AV) (n : Nat) : List AV := Nat.rec [] (fun _ ih => zs ++ ih) n

/-- What is called: a function, arguments, memory. -/
abbrev CallK (R : Type) := Pa → List AV → Heap → HK R → Option R
abbrev XOp (R : Type) := CallK R → Tr AV → Heap → HK R → Option R

/-- A function value that is called. -/
noncomputable def fnF (f : Fn) (k : Nat → Option R) : Option R := Fn.casesOn f k (fun _ => none) (fun _ _ => none) (fun _ _ _ _ => none) (fun _ => none)
noncomputable def callvK (call : CallK R) (f : AV) (args : List AV) (H : Heap) (k : HK R) : Option R :=
  vF f none fun g first caps => fnF g fun g => call (toPa g) (first ++ (args ++ caps)) H k

/-- The operations that make one new block of cells: its type, its cells, what is told. -/
noncomputable def mkNew (e : Nat) (zs : List AV) (_ : Tr AV) (k : Nat → List AV → (Pa → AV) → Option R) : Option R := k e zs fun id => .p id 0
noncomputable def mkBox (e : Nat) (x : Opd) (fr : Tr AV) (k : Nat → List AV → (Pa → AV) → Option R) : Option R := evK fr x fun v => cellsK v fun l => k e l fun id => .p id 0
noncomputable def mkBsl (e sz len : Nat) (zs : List AV) (ps : List (Nat × Nat × Opd)) (fr : Tr AV) (k : Nat → List AV → (Pa → AV) → Option R) : Option R :=
  fillK fr ps zs fun l => k e l fun id => .sl id 0 len (some len) sz
noncomputable def made (H : Heap) (k : HK R) (e : Nat) (l : List AV) (f : Pa → AV) : Option R := newK e l H fun id H => k (f id) H

noncomputable def xMv (x : Opd) : XOp R := fun _ fr H k => evK fr x fun v => k v H
noncomputable def xPick (c a b : Opd) : XOp R := fun _ fr H k => evK fr c fun c => vB c fun t => Bool.casesOn t (evK fr b fun v => k v H) (evK fr a fun v => k v H)
noncomputable def xNew (e : Nat) (zs : List AV) : XOp R := fun _ fr H k => mkNew e zs fr (made H k)
noncomputable def xBox (e : Nat) (x : Opd) : XOp R := fun _ fr H k => mkBox e x fr (made H k)
noncomputable def xBuild (zs : List AV) (ps : List (Nat × Nat × Opd)) : XOp R := fun _ fr H k => fillK fr ps zs fun l => k (.ag l) H
noncomputable def xBsl (e sz len : Nat) (zs : List AV) (ps : List (Nat × Nat × Opd)) : XOp R := fun _ fr H k => mkBsl e sz len zs ps fr (made H k)
noncomputable def xLd (agg : Bool) (n : Nat) (x : Opd) : XOp R := fun _ fr H k => evK fr x fun v => vP v none fun a off => loadK agg n a off H fun v => k v H
noncomputable def xSt (n : Nat) (x y : Opd) : XOp R := fun _ fr H k => evK fr x fun v => evK fr y fun y => vP v none fun a off => cellsK y fun l => guardK (Nat.beq (lenK l) n) (storeK l n a off H fun H => k un H)
noncomputable def okPtr (v : AV) : Bool :=
  AV.casesOn v false (fun _ => false) (fun _ _ => false) (fun _ _ => false) (fun _ _ => true) false (fun _ _ _ _ _ => false) false (fun f _ _ => Fn.casesOn f (fun _ => true) (fun _ => false) (fun _ _ => false) (fun _ _ _ _ => false) (fun _ => false)) false (fun _ _ => true) false (fun _ => false) (fun _ => false) (fun _ _ _ => false) false
noncomputable def xNilck (x : Opd) : XOp R := fun _ fr H k => evK fr x fun v => guardK (okPtr v) (k v H)
noncomputable def xBin (op : BinOp) (ek : EK) (x y : Opd) : XOp R := fun _ fr H k => evK fr x fun x => evK fr y fun y => binK op ek x y fun v => k v H
noncomputable def xNot (x : Opd) : XOp R := fun _ fr H k => evK fr x fun v => vB v fun t => notK t fun v => k v H
noncomputable def xNeg (x : Opd) : XOp R := fun _ fr H k => evK fr x fun v => vI v fun kd n => intK kd (Int.sub (.ofNat 0) n) fun v => k v H
noncomputable def cplN (kd : IntKind) (n : Nat) (k : AV → Option R) : Option R :=
  Bool.casesOn (Nat.beq (loN kd) 0) (k (.i kd (.negSucc n))) (natV kd (Nat.sub (Nat.sub (moN kd) 1) n) k)
noncomputable def xCpl (x : Opd) : XOp R := fun _ fr H k => evK fr x fun v => vI v fun kd n => guardK (inR kd n) (iN n fun n => cplN kd n fun v => k v H)
noncomputable def xCvi (kd : IntKind) (x : Opd) : XOp R := fun _ fr H k => evK fr x fun v => vI v fun _ n => intK kd n fun v => k v H
noncomputable def xCvs (x : Opd) : XOp R := fun _ fr H k => evK fr x fun v => guardK (isS v) (k v H)
noncomputable def xI2s (x : Opd) : XOp R := fun _ fr H k => evK fr x fun v => vI v fun _ n => encK n fun w b => k (.s w b) H
noncomputable def xS2b (e : Nat) (x : Opd) : XOp R := fun _ fr H k => evK fr x fun v => vS v fun len n => guardK (Nat.ble len roomN) (bytesUpK len n len fun l => newK e l H fun id H => k (.sl id 0 len none 1) H)
noncomputable def xB2s (x : Opd) : XOp R := fun _ fr H k => evK fr x fun v => vL v (k (.s 0 0) H) fun a off len _ sz => guardK (Nat.beq sz 1) (rangeCK len a off H fun l => packK l 0 0 fun m n => k (.s m n) H)
noncomputable def xS2r (e : Nat) (x : Opd) : XOp R := fun _ fr H k => evK fr x fun v => vS v fun len n => guardK (Nat.ble len roomN) (runesK len n len 0 fun l => forceN (lenK l) fun m => newK e l H fun id H => k (.sl id 0 m none 1) H)
noncomputable def xR2s (x : Opd) : XOp R := fun _ fr H k => evK fr x fun v => vL v (k (.s 0 0) H) fun a off len _ sz => guardK (Nat.beq sz 1) (rangeCK len a off H fun l => unrunesK l 0 0 fun m n => k (.s m n) H)
noncomputable def xP2u (x : Opd) : XOp R := fun _ fr H k => evK fr x fun v => vP v (k .np H) fun a off => H.getK a fun b => bC b fun _ _ _ size _ => guardK (Nat.blt off size) (k (.p a off) H)
noncomputable def xU2p (e s : Nat) (x : Opd) : XOp R := fun _ fr H k => evK fr x fun v => vP v (k .np H) fun a off => H.getK a fun b => bC b fun _ _ e' size _ => guardK (Nat.beq e e') (guardK (Nat.beq off 0) (guardK (Nat.ble s size) (k (.p a off) H)))
noncomputable def xMkif (t : Nat) (x : Opd) : XOp R := fun _ fr H k => evK fr x fun v => cellsK v fun _ => k (.ifc t v) H
noncomputable def xMkfn (f : Fn) (first caps : List Opd) : XOp R := fun _ fr H k => evsK fr first fun first => evsK fr caps fun caps => k (.fn f first caps) H
noncomputable def xSls (x : Opd) (lo hi : Option Opd) : XOp R := fun _ fr H k => evK fr x fun x => evoK fr lo fun lo => evoK fr hi fun hi => sliceSK x lo hi fun v => k v H
noncomputable def xSll (sz : Nat) (x : Opd) (lo hi mx : Option Opd) : XOp R := fun _ fr H k => evK fr x fun x => evoK fr lo fun lo => evoK fr hi fun hi => evoK fr mx fun mx => sliceLK sz x lo hi mx fun v => k v H
noncomputable def xSla (n sz : Nat) (x : Opd) (lo hi mx : Option Opd) : XOp R := fun _ fr H k => evK fr x fun x => evoK fr lo fun lo => evoK fr hi fun hi => evoK fr mx fun mx => sliceAK n sz x lo hi mx H fun v => k v H
noncomputable def xFa (off : Nat) (x : Opd) : XOp R := fun _ fr H k => evK fr x fun v => vP v none fun a o => forceN (Nat.add o off) fun o => k (.p a o) H
noncomputable def xFld (agg : Bool) (off n : Nat) (x : Opd) : XOp R := fun _ fr H k => evK fr x fun v => vA v fun l => fldK agg off n l fun v => k v H
noncomputable def xIxa (sz : Nat) (x i : Opd) : XOp R := fun _ fr H k => evK fr x fun x => evK fr i fun i => vN i fun i => vL x none fun a off len _ sz' => guardK (Nat.beq sz sz') (guardK (Nat.blt i len) (forceN (Nat.add off (Nat.mul i sz)) fun o => k (.p a o) H))
noncomputable def xIxp (n sz : Nat) (x i : Opd) : XOp R := fun _ fr H k => evK fr x fun x => evK fr i fun i => vN i fun i => vP x none fun a off => guardK (Nat.blt i n) (forceN (Nat.add off (Nat.mul i sz)) fun o => k (.p a o) H)
noncomputable def xIxs (x i : Opd) : XOp R := fun _ fr H k => evK fr x fun x => evK fr i fun i => vN i fun i => vS x fun len n => guardK (Nat.blt i len) (natV .u8 (byteAt len n i) fun v => k v H)
noncomputable def xIxg (agg : Bool) (n sz : Nat) (x i : Opd) : XOp R := fun _ fr H k => evK fr x fun x => evK fr i fun i => vN i fun i => vA x fun l => guardK (Nat.blt i n) (fldK agg (Nat.mul i sz) sz l fun v => k v H)
noncomputable def xExt (n : Nat) (x : Opd) : XOp R := fun _ fr H k => evK fr x fun v => vT v fun l => dropK n l fun r => List.casesOn r none (fun v _ => k v H)
noncomputable def xLen (str : Bool) (x : Opd) : XOp R := fun _ fr H k => evK fr x fun v => Bool.casesOn str (vL v (k (.i .i64 (.ofNat 0)) H) fun _ _ len _ _ => k (.i .i64 (.ofNat len)) H) (vS v fun len _ => k (.i .i64 (.ofNat len)) H)
noncomputable def xLenc (n : Nat) : XOp R := fun _ _ H k => k (.i .i64 (.ofNat n)) H
noncomputable def xCap (x : Opd) : XOp R := fun _ fr H k => evK fr x fun v => vL v (k (.i .i64 (.ofNat 0)) H) fun _ _ _ c _ => Option.casesOn c none fun c => k (.i .i64 (.ofNat c)) H
noncomputable def xApp (e sz bytes : Nat) (x y : Opd) : XOp R := fun _ fr H k => evK fr x fun x => evK fr y fun y => appendK e sz bytes x y H k
noncomputable def xCpy (sz : Nat) (x y : Opd) : XOp R := fun _ fr H k => evK fr x fun x => evK fr y fun y => copyK sz x y H k
noncomputable def mmB (isMax : Bool) (a b : Int) : Bool := Bool.casesOn isMax (iLt b a) (iLt a b)
noncomputable def xMm (isMax : Bool) (x y : Opd) : XOp R := fun _ fr H k => evK fr x fun x => evK fr y fun y => vI x fun kd a => vI y fun kd' b => guardK (Nat.beq (kix kd) (kix kd')) (Bool.casesOn (mmB isMax a b) (k (.i kd a) H) (k (.i kd b) H))
noncomputable def xMks (e sz bytes : Nat) (zs : List AV) (l c : Opd) : XOp R := fun _ fr H k => evK fr l fun l => evK fr c fun c => vI l fun kl l => vI c fun kc c => guardK (Nat.beq (kix kl) 3) (guardK (Nat.beq (kix kc) 3) (iN l fun l => iN c fun c =>
  guardK (Nat.ble l c) (guardK (Nat.ble (Nat.mul c bytes) roomN) (guardK (Nat.ble c sMax) (newK e (repK zs c) H fun id H => k (.sl id 0 l (some c) sz) H)))))
noncomputable def xRng (x : Opd) : XOp R := fun _ fr H k => evK fr x fun v => vS v fun len n => H.allocK (.iter len n 0) fun id H => k (.p id 0) H
noncomputable def nxt2 (a : Pa) (H : Heap) (k : HK R) (len n pos : Nat) : Option R :=
  Bool.casesOn (Nat.blt pos len) (k (.tu [.b false]) H) (decK len n pos fun c w => forceN (Nat.add pos w) fun pos' => H.putK a (.iter len n pos') fun H => k (.tu [.b true, .i .i64 (.ofNat pos), .i .i32 (.ofNat c)]) H)
noncomputable def xNxt (x : Opd) : XOp R := fun _ fr H k => evK fr x fun v => vP v none fun a off => guardK (Nat.beq off 0) (H.getK a fun b => bI b (nxt2 a H k))
noncomputable def xTas (t : Nat) (ok : Bool) (zero : AV) (x : Opd) : XOp R := fun _ fr H k => evK fr x fun v => vE v (guardK ok (k (.tu [zero, .b false]) H)) fun t' v =>
  Bool.casesOn (Nat.beq t t') (guardK ok (k (.tu [zero, .b false]) H)) (Bool.casesOn ok (k v H) (k (.tu [v, .b true]) H))
noncomputable def xCall (f : Pa) (args : List Opd) : XOp R := fun call fr H k => evsK fr args fun args => call f args H k
noncomputable def xCallv (f : Opd) (args : List Opd) : XOp R := fun call fr H k => evK fr f fun f => evsK fr args fun args => callvK call f args H k
noncomputable def xInv (tbl : List (Nat × Pa)) (x : Opd) (args : List Opd) : XOp R := fun call fr H k => evK fr x fun x => evsK fr args fun args => vE x none fun t v => lookK t tbl fun f => call f (v :: args) H k
noncomputable def usd2 (a : Pa) (off len : Nat) (cap : Option Nat) (_ : Nat) : Option AV :=
  Nat.casesOn len (Option.casesOn cap none fun c => Nat.casesOn c none fun _ => some (.p a off)) fun _ => some (.p a off)
noncomputable def xUsd (x : Opd) : XOp R := fun _ fr H k => evK fr x fun v => vL v (k .np H) fun a off len cap sz => Option.casesOn (usd2 a off len cap sz) none fun v => k v H
noncomputable def maxN (a b : Nat) : Nat := Bool.casesOn (Nat.ble a b) a b
noncomputable def ustr2 (e : Nat) (a : Pa) (n : Nat) (H : Heap) (k : HK R) (ro : Bool) (fz e' size : Nat) (c : Tr AV) : Option R :=
  Bool.casesOn ro (guardK (Nat.beq e e') (guardK (Nat.ble n size) (getCellsK n 0 c fun l => packK l 0 0 fun m s => H.putK a (.cells true fz e' size c) fun H => k (.s m s) H))) none
noncomputable def xUstr (e : Nat) (x n : Opd) : XOp R := fun _ fr H k => evK fr x fun x => evK fr n fun n => vI n fun kd n => guardK (Nat.beq (kix kd) 3) (iN n fun n => Nat.casesOn n (vP x (k (.s 0 0) H) (fun _ _ => k (.s 0 0) H)) fun n' =>
  vP x none fun a off => guardK (Nat.beq off 0) (guardK (Nat.ble n' roomN) (H.getK a fun b => bC b (ustr2 e a (Nat.succ n') H k))))
noncomputable def xMnz (e : Nat) (n : Opd) : XOp R := fun _ fr H k => evK fr n fun n => vI n fun kd n => guardK (Nat.beq (kix kd) 3) (iN n fun n => guardK (Nat.ble n roomN) (newK e (repK [.u] n) H fun id H => k (.sl id 0 n none 1) H))
noncomputable def xIxb (x c : Opd) : XOp R := fun _ fr H k => evK fr x fun x => evK fr c fun c => vS x fun len n => byteOf c fun c => idxByteK len n c len 0 fun v => k v H
noncomputable def xBad : XOp R := fun _ _ _ _ => none

noncomputable def xopK (o : AOp) : XOp R :=
  @AOp.casesOn (fun _ => XOp R) o xMv xPick xNew xBox xBuild xBsl xLd xSt xNilck xBin xNot xNeg xCpl xCvi xCvs xI2s xS2b xB2s xS2r xR2s xP2u xU2p xMkif xMkfn xSls xSll xSla xFa xFld xIxa xIxp xIxs xIxg xExt xLen xLenc xCap xApp xCpy xMm xMks xRng xNxt xTas xCall xCallv xInv xUsd xUstr xMnz xIxb xBad

noncomputable def putK (d : Option Pa) (v : AV) (fr : Tr AV) (k : Tr AV → Option R) : Option R :=
  Option.casesOn d (k fr) (fun p => setK un v p fr k)
def put (d : Option Pa) (v : AV) (fr : Tr AV) : Tr AV := match d with | none => fr | some p => Tr.set un v fr p
theorem putK_eq (d : Option Pa) (v : AV) (fr : Tr AV) (k : Tr AV → Option R) : putK d v fr k = k (put d v fr) := by
  cases d <;> simp [putK, put, setK_eq]

/-- Is an operation to be done? A slot that was not written says no. -/
noncomputable def wantV (v : AV) (want : Bool) (k : Bool → Option R) : Option R :=
  AV.casesOn v none (fun x => k (bEq x want)) (fun _ _ => none) (fun _ _ => none) (fun _ _ => none) none (fun _ _ _ _ _ => none) none (fun _ _ _ => none) none (fun _ _ => none) none (fun _ => none) (fun _ => k false) (fun _ _ _ => none) none
noncomputable def wantK (g : Option (Pa × Bool)) (fr : Tr AV) (k : Bool → Option R) : Option R :=
  Option.casesOn g (k true) (fun x => getK un x.1 fr fun v => wantV v x.2 k)

noncomputable def ai2 (d : Option Pa) (o : AOp) (call : CallK R) (fr : Tr AV) (H : Heap) (k : Tr AV → Heap → Option R) (w : Bool) : Option R :=
  Bool.casesOn w (putK d un fr fun fr => k fr H) (xopK o call fr H fun v H => putK d v fr fun fr => k fr H)
noncomputable def aiK (call : CallK R) (ai : AI) (fr : Tr AV) (H : Heap) (k : Tr AV → Heap → Option R) : Option R :=
  AI.casesOn ai fun d g o => wantK g fr (ai2 d o call fr H k)

noncomputable def opsK (call : CallK R) (l : List AI) : Tr AV → Heap → (Tr AV → Heap → Option R) → Option R :=
  List.rec (fun fr H k => k fr H) (fun ai _ ih fr H k => aiK call ai fr H fun fr H => ih fr H k) l
end

/-! Are two values one? Of those that hold others: no. -/
noncomputable def oB (x : Option Bool) : Bool := Option.casesOn x false (fun b => b)
noncomputable def capEq (c c' : Option Nat) : Bool := Option.casesOn c (Option.casesOn c' true (fun _ => false)) (fun c => Option.casesOn c' false (fun c' => Nat.beq c c'))
noncomputable def avEq1 (x y : AV) : Bool :=
  AV.casesOn x false (fun b => oB (vB y fun b' => some (bEq b b'))) (fun k a => oB (vI y fun k' b => some (Bool.casesOn (Nat.beq (kix k) (kix k')) false (iEq a b)))) (fun l n => oB (vS y fun l' n' => some (sEq l n l' n')))
    (fun a o => oB (vP y none fun b o' => some (Bool.casesOn (a.same b) false (Nat.beq o o')))) (oB (vP y (some true) fun _ _ => none))
    (fun a o l c z => oB (vL y none fun b o' l' c' z' => some (Bool.casesOn (a.same b) false (Bool.casesOn (Nat.beq o o') false (Bool.casesOn (Nat.beq l l') false (Bool.casesOn (Nat.beq z z') false (capEq c c')))))))
    (oB (vL y (some true) fun _ _ _ _ _ => none)) (fun _ _ _ => false) (oB (vF y (some true) fun _ _ _ => none)) (fun _ _ => false) (oB (vE y (some true) fun _ _ => none)) (fun _ => false) (fun _ => false) (fun _ _ _ => false) false
noncomputable def avEqs (xs : List AV) : List AV → Bool :=
  List.rec (fun ys => List.casesOn ys true (fun _ _ => false)) (fun x _ ih ys => List.casesOn ys false (fun y ys => Bool.casesOn (avEq1 x y) false (ih ys))) xs
noncomputable def avEq (x y : AV) : Bool := Bool.casesOn (oneC x) (oB (vA x fun xs => vA y fun ys => some (avEqs xs ys))) (avEq1 x y)

/-- Calls, whatever comes behind them. -/
abbrev Call1 := ∀ R : Type, CallK R

section
/-- What a reading operation tells in another memory: the same? -/
noncomputable def noCall : CallK (AV × Heap) := fun _ _ _ _ => none
noncomputable def optB (x : Option (AV × Heap)) (f : AV → Bool) : Bool := Option.casesOn x false (fun p => Prod.casesOn p fun v _ => f v)
noncomputable def sameIn (o : AOp) (fr : Tr AV) (v : AV) (H : Heap) : Bool := optB (xopK o noCall fr H fun v' H' => some (v', H')) (avEq v)
/-- In each of the memories, by their numbers from behind: the first one is number n; those with a number below lo are passed over. -/
noncomputable def sameAll (o : AOp) (fr : Tr AV) (v : AV) (lo : Nat) (Gs : List Heap) : Nat → Bool :=
  List.rec (fun _ => true) (fun G _ ih n => Bool.casesOn (Nat.ble lo n) true (Bool.casesOn (sameIn o fr v G) false (ih (Nat.pred n)))) Gs

variable {R : Type}
abbrev DK (R : Type) := Tr AV → Heap → List Heap → Nat → List Pa → Option R
/-- An operation's value and memory, told at once. -/
noncomputable def dirK (o : AOp) (call : Call1) (fr : Tr AV) (H : Heap) (k : HK R) : Option R :=
  Option.casesOn (xopK o (call (AV × Heap)) fr H fun v H => some (v, H)) none (fun p => Prod.casesOn p k)
/-- The new block of one that makes one, under an id that was kept for it. -/
noncomputable def made2 (fr : Tr AV) (H : Heap) (Gs : List Heap) (n : Nat) (ids : List Pa) (d : Option Pa) (k : DK R) (e : Nat) (l : List AV) (f : Pa → AV) : Option R :=
  List.casesOn ids none fun id ids => setCellsK l 0 .leaf fun c => forceN (lenK l) fun m => H.putK id (.cells false 0 e m c) fun H => putK d (f id) fr fun fr => k fr H Gs n ids
noncomputable def mkK (o : AOp) (fr : Tr AV) (k : Nat → List AV → (Pa → AV) → Option R) : Option R :=
  match o with
  | .new e zs => mkNew e zs fr k
  | .box e x => mkBox e x fr k
  | .bsl e sz len zs ps => mkBsl e sz len zs ps fr k
  | _ => none
noncomputable def dPure (o : AOp) (d : Option Pa) (call : Call1) (fr : Tr AV) (H : Heap) (Gs : List Heap) (n : Nat) (ids : List Pa) (k : DK R) : Option R :=
  dirK o call fr H fun v _ => putK d v fr fun fr => k fr H Gs n ids
noncomputable def dRead (o : AOp) (lo : Nat) (d : Option Pa) (call : Call1) (fr : Tr AV) (H : Heap) (Gs : List Heap) (n : Nat) (ids : List Pa) (k : DK R) : Option R :=
  dirK o call fr H fun v _ => guardK (sameAll o fr v lo Gs n) (putK d v fr fun fr => k fr H Gs n ids)
noncomputable def dMake (o : AOp) (d : Option Pa) (fr : Tr AV) (H : Heap) (Gs : List Heap) (n : Nat) (ids : List Pa) (k : DK R) : Option R := mkK o fr (made2 fr H Gs n ids d k)
noncomputable def dHeavy (o : AOp) (d : Option Pa) (call : Call1) (fr : Tr AV) (H : Heap) (Gs : List Heap) (n : Nat) (ids : List Pa) (k : DK R) : Option R :=
  dirK o call fr H fun v H => putK d v fr fun fr => forceN (Nat.succ n) fun n => k fr H (H :: Gs) n ids
noncomputable def dYes (cls lo : Nat) (o : AOp) (d : Option Pa) (call : Call1) (fr : Tr AV) (H : Heap) (Gs : List Heap) (n : Nat) (ids : List Pa) (k : DK R) : Option R :=
  match cls with
  | 0 => dPure o d call fr H Gs n ids k
  | 1 => dRead o lo d call fr H Gs n ids k
  | 2 => dMake o d fr H Gs n ids k
  | _ => dHeavy o d call fr H Gs n ids k
noncomputable def dNo (cls : Nat) (d : Option Pa) (fr : Tr AV) (H : Heap) (Gs : List Heap) (n : Nat) (ids : List Pa) (k : DK R) : Option R :=
  putK d un fr fun fr => match cls with
  | 0 => k fr H Gs n ids
  | 1 => k fr H Gs n ids
  | 2 => List.casesOn ids none fun _ ids => k fr H Gs n ids
  | _ => forceN (Nat.succ n) fun n => k fr H (H :: Gs) n ids
noncomputable def dOne (call : Call1) (x : AI × DI) (fr : Tr AV) (H : Heap) (Gs : List Heap) (n : Nat) (ids : List Pa) (k : DK R) : Option R :=
  AI.casesOn x.1 fun d g o => DI.casesOn x.2 fun cls lo => wantK g fr fun w => Bool.casesOn w (dNo cls d fr H Gs n ids k) (dYes cls lo o d call fr H Gs n ids k)
/-- A region that draws, in an order that puts each operation as late as may be ahead of those of class 3 that hang on it: Gs: memory as it stood behind each of class 3, the last one first; n: how many there were. -/
noncomputable def drawK (call : Call1) (l : List (AI × DI)) : Tr AV → Heap → List Heap → Nat → List Pa → (Tr AV → Heap → Option R) → Option R :=
  List.rec (fun fr H _ _ _ k => k fr H) (fun x _ ih fr H Gs n ids k => dOne call x fr H Gs n ids fun fr H Gs n ids => ih fr H Gs n ids k) l
/-- Ids that are kept. -/
noncomputable def keepK (nA : Nat) : Pa → (List Pa → Pa → Option R) → Option R :=
  Nat.rec (fun p k => k [] p) (fun _ ih p k => succK p fun q => ih q fun l r => k (p :: l) r) nA
noncomputable def draw0K (call : Call1) (nA : Nat) (l : List (AI × DI)) (fr : Tr AV) (H : Heap) (k : Tr AV → Heap → Option R) : Option R :=
  Heap.casesOn H fun nx t => keepK nA nx fun ids nx => drawK call l fr ⟨nx, t⟩ [⟨nx, t⟩] 0 ids k

/-- The results. -/
noncomputable def resCell (agg : Bool) (n : Nat) (v : AV) (H : Heap) (k : AV → Option R) : Option R := vP v none fun a off => loadK agg n a off H k
noncomputable def resK (l : List ARes) (fr : Tr AV) (H : Heap) : (List AV → Option R) → Option R :=
  List.rec (fun k => k []) (fun r _ ih k => ARes.casesOn r (fun p => getK un p fr fun v => ih fun vs => k (v :: vs)) (fun p agg n => getK un p fr fun v => resCell agg n v H fun v => ih fun vs => k (v :: vs))) l

/-- The frame that a call begins with. -/
noncomputable def argsK (l : List AV) : Nat → Tr AV → (Tr AV → Option R) → Option R :=
  List.rec (fun _ t k => k t) (fun v _ ih i t k => setK un v (toPa i) t fun t => forceN (Nat.succ i) fun i => ih i t k) l

abbrev XK (R : Type) := Ex → Tr AV → Heap → Option R
abbrev Run1 := ∀ R : Type, AC → Tr AV → Heap → XK R → Option R
noncomputable def oneRes (l : List AV) (H : Heap) (k : HK R) : Option R := List.casesOn l (k un H) (fun v l' => List.casesOn l' (k v H) (fun _ _ => k (.tu l) H))
noncomputable def leaveK (res : List ARes) (k : HK R) (e : Ex) (fr : Tr AV) (H : Heap) : Option R :=
  Ex.casesOn e (resK res fr H fun l => oneRes l H k) (fun _ => none) (resK res fr H fun l => oneRes l H k)
noncomputable def callK (Φ : Tr AF) (run : Run1) : Call1 := fun R f args H k =>
  getK (AF.mk .bad []) f Φ fun af => AF.casesOn af (fun body res => argsK args 0 .leaf fun fr => run R body fr H (leaveK res k)) (fun g => Option.casesOn (g args) none fun v => k v H)

abbrev RunC := Tr AF → Run1 → ∀ R : Type, Tr AV → Heap → XK R → Option R
noncomputable def cSkip : RunC := fun _ _ _ fr H k => k .norm fr H
noncomputable def cOps (l : List AI) : RunC := fun Φ run R fr H k => opsK (callK Φ run R) l fr H fun fr H => k .norm fr H
noncomputable def cDraw (nA : Nat) (l : List (AI × DI)) : RunC := fun Φ run _ fr H k => draw0K (callK Φ run) nA l fr H fun fr H => k .norm fr H
noncomputable def thenK (run : Run1) (b : AC) (k : XK R) (e : Ex) (fr : Tr AV) (H : Heap) : Option R := Ex.casesOn e (run R b fr H k) (fun id => k (.exit id) fr H) (k .ret fr H)
noncomputable def cSeq (a b : AC) : RunC := fun _ run R fr H k => run R a fr H (thenK run b k)
noncomputable def cCond (o : Opd) (a b : AC) : RunC := fun _ run R fr H k => evK fr o fun v => vB v fun t => Bool.casesOn t (run R b fr H k) (run R a fr H k)
noncomputable def blockK (id : Nat) (k : XK R) (e : Ex) (fr : Tr AV) (H : Heap) : Option R :=
  Ex.casesOn e (k .norm fr H) (fun id' => Bool.casesOn (Nat.beq id id') (k (.exit id') fr H) (k .norm fr H)) (k .ret fr H)
noncomputable def cBlock (id : Nat) (c : AC) : RunC := fun _ run R fr H k => run R c fr H (blockK id k)
noncomputable def cLoop (c : AC) : RunC := fun _ run R fr H k => run R c fr H (thenK run (.loop c) k)
noncomputable def cExit (id : Nat) : RunC := fun _ _ _ fr H k => k (.exit id) fr H
noncomputable def cRet : RunC := fun _ _ _ fr H k => k .ret fr H
noncomputable def cBad : RunC := fun _ _ _ _ _ _ => none
noncomputable def runC (c : AC) : RunC := @AC.casesOn (fun _ => RunC) c cSkip cOps cDraw cSeq cCond cBlock cLoop cExit cRet cBad

noncomputable def runK (Φ : Tr AF) (f : Nat) : Run1 := Nat.rec (fun _ _ _ _ _ => none) (fun _ ih R c => runC c Φ ih R) f

/-- A function called. -/
noncomputable def goK (Φ : Tr AF) (fuel : Nat) (f : Pa) (args : List AV) (H : Heap) (k : HK R) : Option R := callK Φ (runK Φ fuel) R f args H k
end
end Go.Vai
