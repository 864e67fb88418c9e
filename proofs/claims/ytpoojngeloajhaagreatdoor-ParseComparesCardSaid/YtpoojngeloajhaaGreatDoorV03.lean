/- VAI, part C: the model's code turned into abstract code. -/
import Derived.Test.YtpoojngeloajhaaGreatDoorV02
import Derived.Orders
namespace Go.Vai

noncomputable def ofConst1 : Value → Option AV
  | .bool b => some (.b b)
  | .int k n => some (.i k n)
  | .string s => some (.s s.size (pk s.data.toList))
  | .pointer none => some .np
  | .slice none 0 0 => some .ns
  | .nilFunc => some .nf
  | .nilIface => some .ni
  | .map none => some .nm
  | _ => none
noncomputable def ofConst : Value → Option AV
  | .agg cs => (cs.toList.mapM ofConst1).map .ag
  | v => ofConst1 v

noncomputable def compOpd (P : Program) : Operand → Option Opd
  | .tmp t => some (.t (toPa t))
  | .const v => (ofConst v).map .c
  | .global g => if g < P.globals.size then some (.c (.p (toPa g) 0)) else none
  | .func f => some (.c (.fn (.func f) [] []))

noncomputable def compOpds (P : Program) (l : Array Operand) : Option (List Opd) := l.toList.mapM (compOpd P)
noncomputable def compOpdo (P : Program) : Option Operand → Option (Option Opd)
  | none => some none
  | some o => (compOpd P o).map some

def szOf (P : Program) (t : TypeId) : Option Nat := (P.info? t).map (·.size)
def byOf (P : Program) (t : TypeId) : Option Nat := (P.info? t).map (·.bytes)
noncomputable def zeroOf (P : Program) (t : TypeId) : Option (List AV) := ((P.info? t).bind (·.zero)).bind fun v => v.cells.toList.mapM ofConst1
def aggOf (P : Program) (t : TypeId) : Option Bool := (P.underlying t).map fun d => match d with | .struct _ => true | .array _ _ => true | _ => false

def flatKind (P : Program) (f : Field) : Option Nat :=
  if f.name = "_" then none else
  match P.underlying f.type with
  | some .bool => some 0
  | some (.int _) => some 1
  | some .string => some 2
  | _ => none

def isConst : Operand → Bool
  | .const _ => true
  | _ => false

def compEK (P : Program) (t : TypeId) (x y : Operand) : EK :=
  match P.underlying t with
  | some .bool => .bool
  | some (.pointer e) => match szOf P e with | some (_ + 1) => .ptr | _ => .no
  | some (.slice _) => .slice
  | some (.func ..) => .func
  | some (.interface _) => .iface (isConst x || isConst y)
  | some (.struct fs) => if P.stoodInHeld t then .no else
    match fs.toList.mapM (flatKind P) with
    | some ks => if (fs.toList.map (·.offset)) = List.range fs.size then .flat ks else .no
    | none => .no
  | _ => .no

noncomputable def compParts (P : Program) (place : Nat → Option (Nat × Nat)) (ps : List (Nat × Operand)) : Option (List (Nat × Nat × Opd)) :=
  ps.mapM fun p => (place p.1).bind fun q => (compOpd P p.2).map fun x => (q.1, q.2, x)

noncomputable def compConv (P : Program) (src dst : TypeId) (x : Opd) : Option AOp :=
  match P.underlying src, P.underlying dst with
  | some (.int _), some (.int k) => some (.cvi k x)
  | some (.int _), some .string => some (.i2s x)
  | some .string, some .string => some (.cvs x)
  | some .string, some (.slice e) => match P.underlying e, szOf P e with
    | some (.int .u8), some 1 => some (.s2b e x)
    | some (.int .i32), some 1 => some (.s2r e x)
    | _, _ => none
  | some (.slice e), some .string => match P.underlying e, szOf P e with
    | some (.int .u8), some 1 => some (.b2s x)
    | some (.int .i32), some 1 => some (.r2s x)
    | _, _ => none
  | some (.pointer t), some .unsafePointer => match szOf P t with
    | some (_ + 1) => some (.p2u x)
    | _ => none
  | some .unsafePointer, some (.pointer u) => match szOf P u with
    | some (n + 1) => if u = 0 then none else some (.u2p u (n + 1) x)
    | _ => none
  | _, _ => none

/-- A method that is called through an interface: a value's own of a type that is no pointer, or a pointer's own. -/
noncomputable def invRow (P : Program) (name : String) (t : Nat) : Option (Nat × Pa) :=
  (P.info? t).bind fun i => (i.methods.find? (·.name == name)).bind fun m => if m.path = #[] then
    match m.func, P.underlying t with
    | some (_, false), some (.pointer _) => none
    | some (f, false), some _ => some (t, toPa f)
    | some (f, true), some (.pointer _) => some (t, toPa f)
    | _, _ => none
  else none
noncomputable def invTbl (P : Program) (name : String) : List (Nat × Pa) := (List.range P.types.size).filterMap (invRow P name)

noncomputable def compCall (P : Program) (c : Call) : Option AOp :=
  match c.callee with
  | .value (.func f) => (compOpds P c.args).bind fun args => match P.funcs[f]? with
    | some fn => if fn.name = "runtime.NumGoroutine" then none else
      match fn.body with
      | some _ => some (.call (toPa f) args)
      | none =>
        if fn.origin ≠ "" then none
        else if fn.name = "internal/abi.NoEscape" then (match args with | [x] => some (.mv x) | _ => none)
        else if fn.name = "internal/bytealg.MakeNoZero" then (match args, fn.resultTypes.toList with
          | [n], [t] => match P.underlying t with | some (.slice e) => some (.mnz e n) | _ => none
          | _, _ => none)
        else if fn.name = "internal/bytealg.IndexByteString" then (match args with | [x, y] => some (.ixb x y) | _ => none)
        else none
    | none => none
  | .value f => (compOpd P f).bind fun f => (compOpds P c.args).map fun args => .callv f args
  | .invoke recv name => (compOpd P recv).bind fun x => (compOpds P c.args).map fun args => .inv (invTbl P name) x args
  | .builtin b => (compOpds P c.args).bind fun args => match b, args, c.argTypes.toList with
    | .len, [x], [t] => match P.underlying t with
      | some .string => some (.len true x)
      | some (.slice _) => some (.len false x)
      | some (.array n _) => some (.lenc n)
      | some (.pointer a) => match P.underlying a with | some (.array n _) => some (.lenc n) | _ => none
      | _ => none
    | .cap, [x], [t] => match P.underlying t with
      | some (.slice _) => some (.cap x)
      | _ => none
    | .append, [x, y], [t, u] => match P.underlying t, P.underlying u with
      | some (.slice _), some (.int _) => none
      | some (.slice e), some _ => match szOf P e, byOf P e, zeroOf P e with
        | some (n + 1), some (b + 1), some zs => if zs.length = n + 1 then some (.app e (n + 1) (b + 1) x y) else none
        | _, _, _ => none
      | _, _ => none
    | .copy, [x, y], [t, _] => match P.underlying t with
      | some (.slice e) => match szOf P e with
        | some (n + 1) => some (.cpy (n + 1) x y)
        | _ => none
      | _ => none
    | .min, [x, y], _ => some (.mm false x y)
    | .max, [x, y], _ => some (.mm true x y)
    | .unsafeSliceData, [x], _ => some (.usd x)
    | .unsafeString, [x, n], [t, _] => match P.underlying t with
      | some (.pointer e) => match P.underlying e, szOf P e with
        | some (.int .u8), some 1 => if e = 0 then none else some (.ustr e x n)
        | _, _ => none
      | _ => none
    | _, _, _ => none

noncomputable def compOp (P : Program) (o : Oper) : Option AOp :=
  match o.op with
  | .move x => (compOpd P x).map .mv
  | .assign x => (compOpd P x).map .mv
  | .pick c a b => (compOpd P c).bind fun c => (compOpd P a).bind fun a => (compOpd P b).map fun b => .pick c a b
  | .alloc e => (zeroOf P e).map fun zs => .new e zs
  | .box e x => (compOpd P x).map fun x => .box e x
  | .build t ps => match P.underlying t with
    | some (.struct fs) => if fs.toList.all (fun f => (szOf P f.type).isSome) then (zeroOf P t).bind fun zs => (compParts P (fun i => (fs[i]?).bind fun f => (szOf P f.type).map fun n => (f.offset, n)) ps.toList).map fun ps => .build zs ps else none
    | some (.array _ e) => (zeroOf P t).bind fun zs => (szOf P e).bind fun n => (compParts P (fun i => some (i * n, n)) ps.toList).map fun ps => .build zs ps
    | _ => none
  | .buildSlice t len ps => match P.underlying t with
    | some (.slice e) => match zeroOf P e, szOf P e with
      | some zs, some (n + 1) => if len * (n + 1) ≤ 2 ^ 24 ∧ zs.length = n + 1 then (compParts P (fun i => some (i * (n + 1), n + 1)) ps.toList).map fun ps => .bsl e (n + 1) len (repK zs len) ps else none
      | _, _ => none
    | _ => none
  | .load t a => (compOpd P a).bind fun a => (aggOf P t).bind fun g => (szOf P t).bind fun n => if g || n = 1 then some (.ld g n a) else none
  | .store t a v => (compOpd P a).bind fun a => (compOpd P v).bind fun v => (szOf P t).map fun n => .st n a v
  | .nilCheck x => (compOpd P x).map .nilck
  | .binOp op t x y _ => (compOpd P x).bind fun x' => (compOpd P y).map fun y' => .bin op (match op with | .eql => compEK P t x y | .neq => compEK P t x y | _ => .no) x' y'
  | .unOp op _ x => (compOpd P x).bind fun x => match op with
    | .not => some (.not x)
    | .neg => some (.neg x)
    | .xor => some (.cpl x)
    | _ => none
  | .convert s d x => (compOpd P x).bind fun x => compConv P s d x
  | .makeInterface t x => match P.underlying t with
    | some (.interface _) => none
    | some _ => (compOpd P x).map fun x => .mkif t x
    | none => none
  | .makeFunc fn first caps => (compOpds P first).bind fun first => (compOpds P caps).map fun caps => .mkfn fn first caps
  | .makeSlice t l c => match P.underlying t with
    | some (.slice e) => match zeroOf P e, szOf P e, byOf P e with
      | some zs, some (n + 1), some (b + 1) => if zs.length = n + 1 then (compOpd P l).bind fun l => (compOpd P c).map fun c => .mks e (n + 1) (b + 1) zs l c else none
      | _, _, _ => none
    | _ => none
  | .slice t x lo hi mx => if mx.isSome && hi.isNone then none else (compOpd P x).bind fun x => (compOpdo P lo).bind fun lo => (compOpdo P hi).bind fun hi => (compOpdo P mx).bind fun mx => match P.underlying t with
    | some (.array n e) => match szOf P e with | some (m + 1) => some (.sla n (m + 1) x lo hi mx) | _ => none
    | some .string => match mx with | none => some (.sls x lo hi) | some _ => none
    | some (.slice e) => match szOf P e with | some (m + 1) => some (.sll (m + 1) x lo hi mx) | _ => none
    | _ => none
  | .fieldAddr s x f => match P.underlying s with
    | some (.struct fs) => match fs[f]? with
      | some fd => match szOf P fd.type with | some (_ + 1) => (compOpd P x).map fun x => .fa fd.offset x | _ => none
      | none => none
    | _ => none
  | .field t x f => match P.underlying t with
    | some (.struct fs) => match fs[f]? with
      | some fd => (aggOf P fd.type).bind fun g => (szOf P fd.type).bind fun n => (compOpd P x).map fun x => .fld g fd.offset n x
      | none => none
    | _ => none
  | .indexAddr t x i => (compOpd P x).bind fun x => (compOpd P i).bind fun i => match P.underlying t with
    | some (.array n e) => (szOf P e).map fun m => .ixp n m x i
    | some (.slice e) => (szOf P e).map fun m => .ixa m x i
    | _ => none
  | .index t x i => (compOpd P x).bind fun x => (compOpd P i).bind fun i => match P.underlying t with
    | some .string => some (.ixs x i)
    | some (.array n e) => (aggOf P e).bind fun g => (szOf P e).map fun m => .ixg g n m x i
    | _ => none
  | .range t x => match P.underlying t with
    | some .string => (compOpd P x).map .rng
    | _ => none
  | .next it isString => if isString then (compOpd P it).map .nxt else none
  | .typeAssert x _ t ok => match P.underlying t with
    | some (.interface _) => none
    | some _ => match (P.info? t).bind (·.zero) with
      | some z => (ofConst z).bind fun z => (compOpd P x).map fun x => .tas t ok z x
      | none => none
    | none => none
  | .extract x n => (compOpd P x).map fun x => .ext n x
  | .call c => compCall P c
  | _ => none

noncomputable def compDst (n : Nat) : Option Tmp → Option (Option Pa)
  | none => some none
  | some d => if d < n then some (some (toPa d)) else none

/-- One operation: where it is not covered: one that stops the run. -/
noncomputable def compAI (P : Program) (n : Nat) (ops : Array Oper) (o : Oper) : Option AI :=
  (compDst n o.dst).bind fun d => match o.guard with
  | none => some ⟨d, none, (compOp P o).getD .bad⟩
  | some (j, want) => match (ops[j]?).bind (·.dst) with
    | some t => if t < n then some ⟨d, some (toPa t, want), (compOp P o).getD .bad⟩ else none
    | none => none

/-- The operands of an operation. -/
def AOp.opds : AOp → List Opd
  | .mv x => [x] | .pick c a b => [c, a, b] | .new _ _ => [] | .box _ x => [x] | .build _ ps => ps.map (·.2.2) | .bsl _ _ _ _ ps => ps.map (·.2.2)
  | .ld _ _ x => [x] | .st _ x v => [x, v] | .nilck x => [x] | .bin _ _ x y => [x, y] | .not x => [x] | .neg x => [x] | .cpl x => [x] | .cvi _ x => [x] | .cvs x => [x] | .i2s x => [x]
  | .s2b _ x => [x] | .b2s x => [x] | .s2r _ x => [x] | .r2s x => [x] | .p2u x => [x] | .u2p _ _ x => [x] | .mkif _ x => [x] | .mkfn _ f c => f ++ c
  | .sls x lo hi => x :: (lo.toList ++ hi.toList) | .sll _ x lo hi mx => x :: (lo.toList ++ hi.toList ++ mx.toList) | .sla _ _ x lo hi mx => x :: (lo.toList ++ hi.toList ++ mx.toList)
  | .fa _ x => [x] | .fld _ _ _ x => [x] | .ixa _ x i => [x, i] | .ixp _ _ x i => [x, i] | .ixs x i => [x, i] | .ixg _ _ _ x i => [x, i] | .ext _ x => [x] | .len _ x => [x] | .lenc _ => [] | .cap x => [x]
  | .app _ _ _ x y => [x, y] | .cpy _ x y => [x, y] | .mm _ x y => [x, y] | .mks _ _ _ _ l c => [l, c] | .rng x => [x] | .nxt x => [x] | .tas _ _ _ x => [x] | .call _ as => as | .callv f as => f :: as | .inv _ x as => x :: as
  | .usd x => [x] | .ustr _ x n => [x, n] | .mnz _ n => [n] | .ixb x c => [x, c] | .bad => []

/-- An operation's class in a region that draws. -/
noncomputable def clsOf (o : AOp) : Nat :=
  match o with
  | .mv _ => 0 | .pick .. => 0 | .build .. => 0 | .nilck _ => 0 | .bin .. => 0 | .not _ => 0 | .neg _ => 0 | .cpl _ => 0 | .cvi .. => 0 | .cvs _ => 0 | .i2s _ => 0
  | .mkif .. => 0 | .mkfn .. => 0 | .sls .. => 0 | .sll .. => 0 | .fa .. => 0 | .fld .. => 0 | .ixa .. => 0 | .ixp .. => 0 | .ixs .. => 0 | .ixg .. => 0 | .ext .. => 0
  | .len .. => 0 | .lenc _ => 0 | .cap _ => 0 | .mm .. => 0 | .tas .. => 0 | .usd _ => 0 | .ixb .. => 0 | .bad => 0
  | .ld .. => 1 | .sla .. => 1 | .b2s _ => 1 | .r2s _ => 1 | .p2u _ => 1 | .u2p .. => 1
  | .new .. => 2 | .box .. => 2 | .bsl .. => 2
  | _ => 3

/-- The order in which a region that draws is run: those of class 3 in the text's order, ahead of each all that it hangs on; then the rest. -/
def lateOrder (b : Array Nat) (hs : List Nat) (n : Nat) : List Nat :=
  let all := List.range n
  let step := fun (acc : List Nat) (h : Nat) => acc ++ (all.filter fun i => !acc.contains i && (i == h || (b.getD h 0).testBit i))
  let acc := hs.foldl step []
  acc ++ all.filter fun i => !acc.contains i

/-- Is what an operation hangs on closed? Each that it has an edge to; each that it hangs on it has an edge to, or hangs on through one that it has an edge to. -/
def closeOk (b : Array Nat) (ops : Array Oper) (n : Nat) : Bool :=
  (List.range n).all fun j => (ops[j]?).elim false fun o =>
    (o.after.toList.all fun e => !Region.binds .any e || (Nat.blt e.on n && (b.getD j 0).testBit e.on)) &&
    (List.range n).all fun i => !(b.getD j 0).testBit i || o.after.toList.any fun e => Region.binds .any e && (e.on == i || (b.getD e.on 0).testBit i)
/-- Are two operations ordered, where the one writes a slot that the other one names? -/
def slotsOk (b : Array Nat) (ops : Array Oper) (n : Nat) : Bool :=
  (List.range n).all fun i => match (ops[i]?).bind (·.dst) with
    | none => true
    | some d => (List.range n).all fun j => i == j || ((ops[j]?).elim true fun o => !(o.dst == some d || (o.looksAt ops).contains d)) || (b.getD i 0).testBit j || (b.getD j 0).testBit i
/-- May a region be run in this order? Each is there once; all that one hangs on stands ahead of it; all that stands ahead of one of class 3 it hangs on. -/
def orderOk (b : Array Nat) (heavy : Nat → Bool) (n : Nat) (l : List Nat) : Bool :=
  l.length == n && (List.range n).all (fun i => l.contains i) &&
  (List.range n).all fun p => Nat.blt (l.getD p 0) n && (List.range n).all fun q =>
    (!(l.getD p 0 == l.getD q 0) || p == q) && (!(b.getD (l.getD p 0) 0).testBit (l.getD q 0) || Nat.blt q p) && (!(heavy (l.getD p 0) && Nat.blt q p) || (b.getD (l.getD p 0) 0).testBit (l.getD q 0))
/-- How many of class 3 there are among the first ones. -/
def cntH (heavy : Nat → Bool) (l : List Nat) (m : Nat) : Nat := ((l.take m).filter heavy).length
/-- How many of class 3 must stand ahead. -/
def loAt (b : Array Nat) (heavy : Nat → Bool) (l : List Nat) (n i : Nat) : Nat :=
  (List.range n).foldl (fun m q => if heavy (l.getD q 0) && (b.getD i 0).testBit (l.getD q 0) then cntH heavy l (q + 1) else m) 0

noncomputable def clsAt (l : List AI) (i : Nat) : Nat := (l[i]?).elim 0 fun a => clsOf a.o
noncomputable def heavyAt (l : List AI) (i : Nat) : Bool := clsAt l i == 3
noncomputable def drawOrd (ops : Array Oper) (l : List AI) : List Nat := lateOrder (Region.before ops) ((List.range l.length).filter (heavyAt l)) l.length
noncomputable def drawOk (P : Program) (ops : Array Oper) (l : List AI) (ord : List Nat) : Bool :=
  (P.follows .mixedOrders || !Region.departs ops) && closeOk (Region.before ops) ops l.length && slotsOk (Region.before ops) ops l.length && orderOk (Region.before ops) (heavyAt l) l.length ord
/-- Is it an operation that makes one new block of its own? -/
def makes : Op → Bool
  | .alloc _ => true
  | .box .. => true
  | .buildSlice .. => true
  | _ => false
/-- Does an operation look at no slot that its text does not name? -/
noncomputable def looksOk (ops : Array Oper) (i : Nat) (a : AI) : Bool :=
  (ops[i]?).elim false fun o => (!(clsOf a.o == 2) || makes o.op) && (AOp.opds a.o).all fun x => Opd.casesOn x (fun p => (o.looksAt ops).any fun t => p.same (toPa t)) (fun _ => true)
noncomputable def drawRow (ops : Array Oper) (l : List AI) (ord : List Nat) (i : Nat) : Option (AI × DI) :=
  (l[i]?).bind fun a => if looksOk ops i a then some (a, ⟨clsOf a.o, loAt (Region.before ops) (heavyAt l) ord l.length i⟩) else none
noncomputable def compDraw (P : Program) (ops : Array Oper) (l : List AI) : Option AC :=
  if drawOk P ops l (drawOrd ops l) then ((drawOrd ops l).mapM (drawRow ops l (drawOrd ops l))).map fun xs => .draw ((List.range l.length).filter fun i => clsAt l i == 2).length xs
  else none

noncomputable def compC (P : Program) (n : Nat) : Code → Option AC
  | .skip => some .skip
  | .region _ ops draw => (ops.toList.mapM (compAI P n ops)).bind fun l => if draw then compDraw P ops l else some (.ops l)
  | .seq a b => (compC P n a).bind fun a => (compC P n b).map fun b => .seq a b
  | .cond o a b => (compOpd P o).bind fun o => (compC P n a).bind fun a => (compC P n b).map fun b => .cond o a b
  | .block id c => (compC P n c).map fun c => .block id c
  | .loop c => (compC P n c).map .loop
  | .exit id => some (.exit id)
  | .ret => some .ret
  | .label _ => some .skip
  | _ => some .bad

noncomputable def compRes (P : Program) : ResultVar → Option ARes
  | .tmp t => some (.tmp (toPa t))
  | .cell a t => (aggOf P t).bind fun g => (szOf P t).bind fun n => if g || n = 1 then some (.cell (toPa a) g n) else none

noncomputable def compF (P : Program) (f : Func) : Option AF :=
  if f.name = "runtime.NumGoroutine" then none else f.body.bind fun c => (compC P f.ntmps c).bind fun c => (f.results.toList.mapM (compRes P)).map fun rs => .mk c rs
end Go.Vai
