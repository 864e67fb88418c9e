/- VAI, part A: paths, tries, abstract values, abstract memory: data and the small functions on them, each in a plain form (for proofs) and in a form that the kernel runs fast. -/
import Derived.Calls
namespace Go.Vai

/-- A number as a path: h = 0, l p = 2 p + 1, r p = 2 p + 2. -/
inductive Pa where
  | h
  | l (p : Pa)
  | r (p : Pa)
  deriving DecidableEq

inductive Tr (α : Type) where
  | leaf
  | node (l : Tr α) (x : α) (r : Tr α)

def Pa.toN : Pa → Nat
  | .h => 0
  | .l p => 2 * p.toN + 1
  | .r p => 2 * p.toN + 2

theorem Pa.toN_inj : ∀ {p q : Pa}, p.toN = q.toN → p = q
  | .h, .h, _ => rfl
  | .h, .l _, e => by simp [Pa.toN] at e
  | .h, .r _, e => by simp [Pa.toN] at e
  | .l _, .h, e => by simp [Pa.toN] at e
  | .r _, .h, e => by simp [Pa.toN] at e
  | .l p, .l q, e => by rw [Pa.toN_inj (p := p) (q := q) (by simp only [Pa.toN] at e; omega)]
  | .r p, .r q, e => by rw [Pa.toN_inj (p := p) (q := q) (by simp only [Pa.toN] at e; omega)]
  | .l p, .r q, e => by simp only [Pa.toN] at e; omega
  | .r p, .l q, e => by simp only [Pa.toN] at e; omega

section
variable {α : Type} (d : α)
def Tr.get : Tr α → Pa → α
  | .leaf, _ => d
  | .node _ x _, .h => x
  | .node l _ _, .l p => Tr.get l p
  | .node _ _ r, .r p => Tr.get r p

def Tr.set (v : α) : Tr α → Pa → Tr α
  | .leaf, .h => .node .leaf v .leaf
  | .node l _ r, .h => .node l v r
  | .leaf, .l p => .node (Tr.set v .leaf p) d .leaf
  | .node l x r, .l p => .node (Tr.set v l p) x r
  | .leaf, .r p => .node .leaf d (Tr.set v .leaf p)
  | .node l x r, .r p => .node l x (Tr.set v r p)

theorem Tr.get_leaf (p : Pa) : Tr.get d .leaf p = d := by cases p <;> rfl

theorem Tr.get_set_same (v : α) : ∀ (p : Pa) (t : Tr α), Tr.get d (Tr.set d v t p) p = v
  | .h, .leaf => rfl
  | .h, .node _ _ _ => rfl
  | .l p, .leaf => Tr.get_set_same v p .leaf
  | .l p, .node l _ _ => Tr.get_set_same v p l
  | .r p, .leaf => Tr.get_set_same v p .leaf
  | .r p, .node _ _ r => Tr.get_set_same v p r

theorem Tr.get_set_ne (v : α) : ∀ (p q : Pa) (t : Tr α), p ≠ q → Tr.get d (Tr.set d v t p) q = Tr.get d t q
  | .h, .h, _, h => (h rfl).elim
  | .h, .l q, .leaf, _ => by simp [Tr.set, Tr.get]
  | .h, .r q, .leaf, _ => by simp [Tr.set, Tr.get]
  | .h, .l q, .node _ _ _, _ => rfl
  | .h, .r q, .node _ _ _, _ => rfl
  | .l p, .h, .leaf, _ => by simp [Tr.set, Tr.get]
  | .l p, .h, .node _ _ _, _ => rfl
  | .r p, .h, .leaf, _ => by simp [Tr.set, Tr.get]
  | .r p, .h, .node _ _ _, _ => rfl
  | .l p, .l q, .leaf, h => by
    have := Tr.get_set_ne v p q .leaf (fun e => h (by rw [e]))
    simp [Tr.set, Tr.get, this]
  | .l p, .l q, .node l _ _, h => by
    have := Tr.get_set_ne v p q l (fun e => h (by rw [e]))
    simp [Tr.set, Tr.get, this]
  | .r p, .r q, .leaf, h => by
    have := Tr.get_set_ne v p q .leaf (fun e => h (by rw [e]))
    simp [Tr.set, Tr.get, this]
  | .r p, .r q, .node _ _ r, h => by
    have := Tr.get_set_ne v p q r (fun e => h (by rw [e]))
    simp [Tr.set, Tr.get, this]
  | .l p, .r q, .leaf, _ => by simp [Tr.set, Tr.get]
  | .l p, .r q, .node _ _ _, _ => rfl
  | .r p, .l q, .leaf, _ => by simp [Tr.set, Tr.get]
  | .r p, .l q, .node _ _ _, _ => rfl

theorem Tr.get_set (v : α) (p q : Pa) (t : Tr α) : Tr.get d (Tr.set d v t p) q = if p = q then v else Tr.get d t q := by
  by_cases h : p = q
  · subst h; simp [Tr.get_set_same]
  · simp [h, Tr.get_set_ne d v p q t h]

/-- The same two, for the kernel: what is found, or the tree that is made, is handed on. -/
noncomputable def getK {β : Type} (p : Pa) : Tr α → (α → β) → β :=
  Pa.rec (fun t k => Tr.casesOn t (k d) (fun _ x _ => k x))
    (fun _ ih t k => Tr.casesOn t (k d) (fun l _ _ => ih l k))
    (fun _ ih t k => Tr.casesOn t (k d) (fun _ _ r => ih r k)) p

noncomputable def setK {β : Type} (v : α) (p : Pa) : Tr α → (Tr α → β) → β :=
  Pa.rec (fun t k => Tr.casesOn t (k (.node .leaf v .leaf)) (fun l _ r => k (.node l v r)))
    (fun _ ih t k => Tr.casesOn t (ih .leaf (fun l => k (.node l d .leaf))) (fun l x r => ih l (fun l => k (.node l x r))))
    (fun _ ih t k => Tr.casesOn t (ih .leaf (fun r => k (.node .leaf d r))) (fun l x r => ih r (fun r => k (.node l x r)))) p

theorem getK_eq {β : Type} : ∀ (p : Pa) (t : Tr α) (k : α → β), getK d p t k = k (Tr.get d t p)
  | .h, .leaf, _ => rfl
  | .h, .node _ _ _, _ => rfl
  | .l _, .leaf, _ => rfl
  | .r _, .leaf, _ => rfl
  | .l p, .node l _ _, k => getK_eq p l k
  | .r p, .node _ _ r, k => getK_eq p r k

theorem setK_eq {β : Type} (v : α) : ∀ (p : Pa) (t : Tr α) (k : Tr α → β), setK d v p t k = k (Tr.set d v t p)
  | .h, .leaf, _ => rfl
  | .h, .node _ _ _, _ => rfl
  | .l p, .leaf, k => setK_eq v p .leaf (fun l => k (.node l d .leaf))
  | .r p, .leaf, k => setK_eq v p .leaf (fun r => k (.node .leaf d r))
  | .l p, .node l x r, k => setK_eq v p l (fun l => k (.node l x r))
  | .r p, .node l x r, k => setK_eq v p r (fun r => k (.node l x r))
end

/-- A number's path. -/
noncomputable def toPaF (f : Nat) : Nat → Pa :=
  Nat.rec (fun _ => .h) (fun _ ih n => Nat.casesOn n .h (fun j => Bool.casesOn (Nat.beq (Nat.mod j 2) 0) (.r (ih (Nat.div j 2))) (.l (ih (Nat.div j 2))))) f

noncomputable def toPa (n : Nat) : Pa := toPaF n n

theorem toPaF_toN : ∀ (f n : Nat), n ≤ f → (toPaF f n).toN = n
  | 0, 0, _ => rfl
  | f + 1, 0, _ => rfl
  | f + 1, j + 1, h => by
    have ih := toPaF_toN f (j / 2) (by omega)
    have e : toPaF (f + 1) (j + 1) = Bool.casesOn (Nat.beq (Nat.mod j 2) 0) (Pa.r (toPaF f (j / 2))) (Pa.l (toPaF f (j / 2))) := rfl
    rw [e]
    cases hb : Nat.beq (Nat.mod j 2) 0
    · have hne : Nat.mod j 2 ≠ 0 := Nat.ne_of_beq_eq_false hb
      have : j % 2 ≠ 0 := hne
      simp only [Pa.toN, ih]; omega
    · have he : Nat.mod j 2 = 0 := Nat.eq_of_beq_eq_true hb
      have : j % 2 = 0 := he
      simp only [Pa.toN, ih]; omega

theorem toN_toPa (n : Nat) : (toPa n).toN = n := toPaF_toN n n (Nat.le_refl n)
theorem toPa_inj {m n : Nat} (h : toPa m = toPa n) : m = n := by rw [← toN_toPa m, ← toN_toPa n, h]
theorem toPa_toN (p : Pa) : toPa p.toN = p := Pa.toN_inj (toN_toPa _)

def Pa.succ : Pa → Pa
  | .h => .l .h
  | .l p => .r p
  | .r p => .l p.succ

theorem Pa.toN_succ : ∀ p : Pa, p.succ.toN = p.toN + 1
  | .h => rfl
  | .l p => by simp only [Pa.succ, Pa.toN]
  | .r p => by simp only [Pa.succ, Pa.toN, Pa.toN_succ p]; omega

noncomputable def succK {β : Type} (p : Pa) : (Pa → β) → β :=
  Pa.rec (fun k => k (.l .h)) (fun p _ k => k (.r p)) (fun _ ih k => ih (fun q => k (.l q))) p

theorem succK_eq {β : Type} : ∀ (p : Pa) (k : Pa → β), succK p k = k p.succ
  | .h, _ => rfl
  | .l _, _ => rfl
  | .r p, k => succK_eq p (fun q => k (.l q))

/-- Are two paths one? -/
noncomputable def Pa.same (p : Pa) : Pa → Bool :=
  Pa.rec (fun q => Pa.casesOn q true (fun _ => false) (fun _ => false))
    (fun _ ih q => Pa.casesOn q false (fun q => ih q) (fun _ => false))
    (fun _ ih q => Pa.casesOn q false (fun _ => false) (fun q => ih q)) p

theorem Pa.same_eq : ∀ {p q : Pa}, p.same q = true → p = q
  | .h, .h, _ => rfl
  | .h, .l _, e => by cases e
  | .h, .r _, e => by cases e
  | .l _, .h, e => by cases e
  | .r _, .h, e => by cases e
  | .l p, .l q, e => by rw [Pa.same_eq (p := p) (q := q) e]
  | .r p, .r q, e => by rw [Pa.same_eq (p := p) (q := q) e]
  | .l _, .r _, e => by cases e
  | .r _, .l _, e => by cases e

/-- Abstract values. s: a string by its length and its bytes as one number; p: a cell's address; sl: a slice that is not nil (cap: its capacity, if known; sz: cells of an element); u: not known; mp: a number of kind int that is not known: its rest by n is r, and it lies below nought (s = 1), from nought on (s = 0), from s on (s > 1). -/
inductive AV where
  | u
  | b (x : Bool)
  | i (k : IntKind) (n : Int)
  | s (len n : Nat)
  | p (a : Pa) (off : Nat)
  | np
  | sl (a : Pa) (off len : Nat) (cap : Option Nat) (sz : Nat)
  | ns
  | fn (f : Fn) (first caps : List AV)
  | nf
  | ifc (t : Nat) (v : AV)
  | ni
  | ag (l : List AV)
  | tu (l : List AV)
  | mp (n r s : Nat)
  | nm

/-- Blocks. cells: may they be written (ro: no); below fz none is; the element's type; how many are known; what they hold. -/
inductive Blk where
  | dead
  | cells (ro : Bool) (fz : Nat) (e : Nat) (size : Nat) (c : Tr AV)
  | iter (len n pos : Nat)

structure Heap where
  next : Pa
  blks : Tr Blk

abbrev Heap.get (H : Heap) (p : Pa) : Blk := Tr.get .dead H.blks p
abbrev Heap.put (H : Heap) (p : Pa) (b : Blk) : Heap := ⟨H.next, Tr.set .dead b H.blks p⟩
abbrev Heap.alloc (H : Heap) (b : Blk) : Heap := ⟨H.next.succ, Tr.set .dead b H.blks H.next⟩

section
variable {β : Type}
noncomputable def Heap.getK (H : Heap) (p : Pa) (k : Blk → β) : β := Heap.casesOn H fun _ t => Vai.getK Blk.dead p t k
noncomputable def Heap.putK (H : Heap) (p : Pa) (b : Blk) (k : Heap → β) : β := Heap.casesOn H fun nx t => setK Blk.dead b p t fun t => k ⟨nx, t⟩
noncomputable def Heap.allocK (H : Heap) (b : Blk) (k : Pa → Heap → β) : β := Heap.casesOn H fun nx t => setK Blk.dead b nx t fun t => succK nx fun nx' => k nx ⟨nx', t⟩

theorem Heap.getK_eq (H : Heap) (p : Pa) (k : Blk → β) : H.getK p k = k (H.get p) := by cases H; exact Vai.getK_eq _ _ _ _
theorem Heap.putK_eq (H : Heap) (p : Pa) (b : Blk) (k : Heap → β) : H.putK p b k = k (H.put p b) := by
  cases H; simp only [Heap.putK, setK_eq]
theorem Heap.allocK_eq (H : Heap) (b : Blk) (k : Pa → Heap → β) : H.allocK b k = k H.next (H.alloc b) := by
  cases H; simp only [Heap.allocK, setK_eq, succK_eq]

/-- A number, reckoned. -/
noncomputable def forceN (n : Nat) (k : Nat → β) : β := Nat.casesOn n (k 0) (fun m => k (Nat.succ m))
theorem forceN_eq (n : Nat) (k : Nat → β) : forceN n k = k n := by cases n <;> rfl
noncomputable def forceI (n : Int) (k : Int → β) : β := Int.casesOn n (fun m => forceN m fun m => k (.ofNat m)) (fun m => forceN m fun m => k (.negSucc m))
theorem forceI_eq (n : Int) (k : Int → β) : forceI n k = k n := by cases n <;> simp [forceI, forceN_eq]
noncomputable def forceB (x : Bool) (k : Bool → β) : β := Bool.casesOn x (k false) (k true)
theorem forceB_eq (x : Bool) (k : Bool → β) : forceB x k = k x := by cases x <;> rfl

/-- Cells from a place on, laid and told. -/
noncomputable def setCells : List AV → Nat → Tr AV → Tr AV
  | [], _, t => t
  | v :: l, i, t => setCells l (i + 1) (Tr.set .u v t (toPa i))
noncomputable def setCellsK (l : List AV) : Nat → Tr AV → (Tr AV → β) → β :=
  List.rec (fun _ t k => k t) (fun v _ ih i t k => setK AV.u v (toPa i) t fun t => forceN (Nat.succ i) fun i => ih i t k) l
theorem setCellsK_eq : ∀ (l : List AV) (i : Nat) (t : Tr AV) (k : Tr AV → β), setCellsK l i t k = k (setCells l i t)
  | [], _, _, _ => rfl
  | v :: l, i, t, k => by
    show setK AV.u v (toPa i) t (fun t => forceN (Nat.succ i) fun i => setCellsK l i t k) = _
    rw [setK_eq, forceN_eq, setCellsK_eq]; rfl

noncomputable def getCells : Nat → Nat → Tr AV → List AV
  | 0, _, _ => []
  | n + 1, i, t => Tr.get .u t (toPa i) :: getCells n (i + 1) t
noncomputable def getCellsK (n : Nat) : Nat → Tr AV → (List AV → β) → β :=
  Nat.rec (fun _ _ k => k []) (fun _ ih i t k => Vai.getK AV.u (toPa i) t fun v => forceN (Nat.succ i) fun i => ih i t fun l => k (v :: l)) n
theorem getCellsK_eq : ∀ (n i : Nat) (t : Tr AV) (k : List AV → β), getCellsK n i t k = k (getCells n i t)
  | 0, _, _, _ => rfl
  | n + 1, i, t, k => by
    show Vai.getK AV.u (toPa i) t (fun v => forceN (Nat.succ i) fun i => getCellsK n i t fun l => k (v :: l)) = _
    rw [Vai.getK_eq, forceN_eq, getCellsK_eq]; rfl
end

theorem getCells_length : ∀ (n i : Nat) (t : Tr AV), (getCells n i t).length = n
  | 0, _, _ => rfl
  | n + 1, i, t => by simp [getCells, getCells_length n]

theorem getCells_get : ∀ (n i : Nat) (t : Tr AV) (j : Nat), j < n → (getCells n i t)[j]? = some (Tr.get .u t (toPa (i + j)))
  | 0, _, _, _, h => by omega
  | n + 1, i, t, 0, _ => by simp [getCells]
  | n + 1, i, t, j + 1, h => by
    have := getCells_get n (i + 1) t j (by omega)
    simp only [getCells, List.getElem?_cons_succ, this]
    congr 3; omega

theorem setCells_get : ∀ (l : List AV) (i : Nat) (t : Tr AV) (j : Nat), Tr.get .u (setCells l i t) (toPa j) = if i ≤ j ∧ j < i + l.length then (l[j - i]?).getD .u else Tr.get .u t (toPa j)
  | [], i, t, j => by simp [setCells]; intro h1 h2; omega
  | v :: l, i, t, j => by
    simp only [setCells]
    rw [setCells_get l (i + 1), Tr.get_set]
    by_cases h : j = i
    · subst h
      rw [if_neg (by omega), if_pos rfl, if_pos ⟨by omega, by simp⟩]
      simp
    · have hne : ¬ toPa i = toPa j := fun e => h (toPa_inj e).symm
      by_cases h2 : i + 1 ≤ j ∧ j < i + 1 + l.length
      · rw [if_pos h2, if_pos ⟨by omega, by simp; omega⟩]
        have : j - i = (j - (i + 1)) + 1 := by omega
        rw [this]; simp
      · rw [if_neg h2, if_neg hne, if_neg (by simp; omega)]

/-! Strings as numbers. -/
def pk (l : List UInt8) : Nat := l.foldl (fun n b => n * 256 + b.toNat) 0

theorem pk_foldl (l : List UInt8) : ∀ n : Nat, l.foldl (fun n b => n * 256 + b.toNat) n = n * 256 ^ l.length + pk l := by
  induction l with
  | nil => intro n; simp [pk]
  | cons b l ih =>
    intro n
    simp only [List.foldl_cons, List.length_cons, pk]
    rw [ih (n * 256 + b.toNat), ih (0 * 256 + b.toNat)]
    simp only [Nat.pow_succ, Nat.add_mul, Nat.zero_mul, Nat.zero_add]
    rw [Nat.mul_assoc, Nat.mul_comm 256 (256 ^ l.length)]
    omega

theorem pk_append (a b : List UInt8) : pk (a ++ b) = pk a * 256 ^ b.length + pk b := by
  unfold pk; rw [List.foldl_append]; exact pk_foldl b _

theorem pk_cons (x : UInt8) (l : List UInt8) : pk (x :: l) = x.toNat * 256 ^ l.length + pk l := by
  have := pk_append [x] l
  simpa [pk] using this

theorem pk_lt (l : List UInt8) : pk l < 256 ^ l.length := by
  induction l with
  | nil => simp [pk]
  | cons x l ih =>
    rw [pk_cons, List.length_cons, Nat.pow_succ]
    have hx : x.toNat < 256 := x.toNat_lt
    have : x.toNat * 256 ^ l.length + 256 ^ l.length ≤ 256 ^ l.length * 256 := by
      have : (x.toNat + 1) * 256 ^ l.length ≤ 256 * 256 ^ l.length := Nat.mul_le_mul_right _ (by omega)
      rw [Nat.add_mul, Nat.one_mul] at this; rw [Nat.mul_comm _ 256]; exact this
    omega

theorem pk_inj : ∀ {a b : List UInt8}, a.length = b.length → pk a = pk b → a = b
  | [], [], _, _ => rfl
  | [], _ :: _, h, _ => by simp at h
  | _ :: _, [], h, _ => by simp at h
  | x :: a, y :: b, h, e => by
    have hl : a.length = b.length := by simpa using h
    rw [pk_cons, pk_cons, hl] at e
    have ha := pk_lt a; have hb := pk_lt b
    rw [hl] at ha
    have hpos : 0 < 256 ^ b.length := Nat.pow_pos (by omega)
    have h1 : x.toNat = y.toNat := by
      have e1 : (x.toNat * 256 ^ b.length + pk a) / 256 ^ b.length = x.toNat := by
        rw [Nat.mul_comm, Nat.mul_add_div hpos, Nat.div_eq_of_lt ha, Nat.add_zero]
      have e2 : (y.toNat * 256 ^ b.length + pk b) / 256 ^ b.length = y.toNat := by
        rw [Nat.mul_comm, Nat.mul_add_div hpos, Nat.div_eq_of_lt hb, Nat.add_zero]
      rw [← e1, ← e2, e]
    have h2 : pk a = pk b := by rw [h1] at e; omega
    rw [UInt8.toNat_inj.mp h1, pk_inj hl h2]

end Go.Vai
