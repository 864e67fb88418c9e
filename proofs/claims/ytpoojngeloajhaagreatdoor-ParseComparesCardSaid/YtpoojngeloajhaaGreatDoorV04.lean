/- VAI, part D: abstract values and memory against the model's: the relation, and how it is kept by what happens in memory. -/
import Derived.Test.YtpoojngeloajhaaGreatDoorV03
import Derived.Laws.Sem
import Derived.Laws.World
import Derived.Laws.Cells
import Derived.Laws.Strings
import Derived.Below
namespace Go.Vai

/-- Where an abstract block lies: the model's block, the first cell's place in it, how many cells are known, how many cells the model's block has. -/
structure Inj where
  blk : Nat
  d : Nat
  n : Nat
  m : Nat

abbrev Emb := Pa → Option Inj
def Ext (ι ι' : Emb) : Prop := ∀ a j, ι a = some j → ι' a = some j
theorem Ext.refl (ι : Emb) : Ext ι ι := fun _ _ h => h
theorem Ext.trans {ι ι' ι'' : Emb} (h : Ext ι ι') (h' : Ext ι' ι'') : Ext ι ι'' := fun a j e => h' a j (h a j e)

/-- A string by length and number. -/
def SR (l n : Nat) (s : ByteArray) : Prop := s.data.toList.length = l ∧ pk s.data.toList = n

def PR (ι : Emb) (a : Pa) (o : Nat) (v : Value) : Prop := ∃ j, ι a = some j ∧ v = .pointer (some ⟨j.blk, j.d + o, none⟩)
def SlR (ι : Emb) (a : Pa) (o l : Nat) (c : Option Nat) (z : Nat) (v : Value) : Prop :=
  ∃ ad cp j, v = .slice (some ad) l cp ∧ ι a = some j ∧ l ≤ cp ∧ (∀ k, c = some k → cp = k ∧ o + k * z ≤ j.n) ∧ (c = none → j.n ≤ o + cp * z) ∧
    (cp = 0 ∨ ad = ⟨j.blk, j.d + o, none⟩) ∧ j.d + o + cp * z ≤ j.m ∧ o + l * z ≤ j.n

/-- A number that is not known: what is known of it. -/
def SymI (n r s : Nat) (a : Int) : Prop := (s = 1 ∧ ∃ m : Nat, a = .negSucc m ∧ (m + 1) % n = r) ∨ (s ≠ 1 ∧ s ≠ EU ∧ ∃ m : Nat, a = .ofNat m ∧ m % n = r ∧ s ≤ m) ∨ (s = EU ∧ a % (n : Int) = (r : Int))

mutual
def VR (ι : Emb) : AV → Value → Prop
  | .u, _ => True
  | .b x, v => v = .bool x
  | .i k n, v => v = .int k n
  | .s l n, v => ∃ s, v = .string s ∧ SR l n s
  | .p a o, v => PR ι a o v
  | .np, v => v = .pointer none
  | .sl a o l c z, v => SlR ι a o l c z v
  | .ns, v => v = .slice none 0 0
  | .fn f a c, v => ∃ a' c', v = .func f a' c' ∧ VRs ι a a'.toList ∧ VRs ι c c'.toList
  | .nf, v => v = .nilFunc
  | .ifc t x, v => ∃ y, v = .iface t y ∧ VR ι x y
  | .ni, v => v = .nilIface
  | .ag l, v => ∃ cs, v = .agg cs ∧ VRs ι l cs.toList
  | .tu l, v => ∃ cs, v = .tuple cs ∧ VRs ι l cs.toList
  | .mp n r s, v => ∃ a, v = .int .i64 a ∧ SymI n r s a
  | .nm, v => v = .map none
def VRs (ι : Emb) : List AV → List Value → Prop
  | [], ys => ys = []
  | x :: xs, ys => ∃ y ys', ys = y :: ys' ∧ VR ι x y ∧ VRs ι xs ys'
end

mutual
theorem VR_mono {ι ι' : Emb} (h : Ext ι ι') : ∀ (x : AV) (v : Value), VR ι x v → VR ι' x v
  | .u, _, _ => trivial
  | .b _, _, e => e
  | .i _ _, _, e => e
  | .s _ _, _, e => e
  | .p _ _, _, ⟨j, e, e'⟩ => ⟨j, h _ _ e, e'⟩
  | .np, _, e => e
  | .sl _ _ _ _ _, _, ⟨ad, cp, j, e, e', r⟩ => ⟨ad, cp, j, e, h _ _ e', r⟩
  | .ns, _, e => e
  | .fn _ a c, _, ⟨a', c', e, ha, hc⟩ => ⟨a', c', e, VRs_mono h a _ ha, VRs_mono h c _ hc⟩
  | .nf, _, e => e
  | .ifc _ x, _, ⟨y, e, hx⟩ => ⟨y, e, VR_mono h x y hx⟩
  | .ni, _, e => e
  | .ag l, _, ⟨cs, e, hl⟩ => ⟨cs, e, VRs_mono h l _ hl⟩
  | .tu l, _, ⟨cs, e, hl⟩ => ⟨cs, e, VRs_mono h l _ hl⟩
  | .mp _ _ _, _, e => e
  | .nm, _, e => e
theorem VRs_mono {ι ι' : Emb} (h : Ext ι ι') : ∀ (xs : List AV) (ys : List Value), VRs ι xs ys → VRs ι' xs ys
  | [], _, e => e
  | x :: xs, _, ⟨y, ys', e, hx, hxs⟩ => ⟨y, ys', e, VR_mono h x y hx, VRs_mono h xs ys' hxs⟩
end

theorem VRs_length {ι : Emb} : ∀ {xs : List AV} {ys : List Value}, VRs ι xs ys → ys.length = xs.length
  | [], _, e => by cases e; rfl
  | _ :: _, _, ⟨_, _, e, _, h⟩ => by subst e; simp [VRs_length h]

theorem VRs_get {ι : Emb} : ∀ {xs : List AV} {ys : List Value} (_ : VRs ι xs ys) (i : Nat) (x : AV), xs[i]? = some x → ∃ y, ys[i]? = some y ∧ VR ι x y
  | [], _, _, i, x, e => by simp at e
  | a :: _, _, ⟨y, _, e, h, _⟩, 0, x, hx => by subst e; simp at hx; subst hx; exact ⟨y, by simp, h⟩
  | _ :: _, _, ⟨_, _, e, _, h⟩, i + 1, x, hx => by subst e; simpa using VRs_get h i x (by simpa using hx)

theorem VRs_of {ι : Emb} : ∀ {xs : List AV} {ys : List Value}, ys.length = xs.length → (∀ (i : Nat) (x : AV) (y : Value), xs[i]? = some x → ys[i]? = some y → VR ι x y) → VRs ι xs ys
  | [], [], _, _ => rfl
  | [], _ :: _, h, _ => by simp at h
  | _ :: _, [], h, _ => by simp at h
  | x :: xs, y :: ys, h, f => ⟨y, ys, rfl, f 0 x y (by simp) (by simp), VRs_of (by simpa using h) fun i a b ha hb => f (i + 1) a b (by simpa using ha) (by simpa using hb)⟩

theorem VRs_append {ι : Emb} : ∀ {xs : List AV} {ys : List Value} {xs' : List AV} {ys' : List Value}, VRs ι xs ys → VRs ι xs' ys' → VRs ι (xs ++ xs') (ys ++ ys')
  | [], _, _, _, e, h => by cases e; exact h
  | _ :: _, _, _, _, ⟨y, ys₀, e, hx, hxs⟩, h => by subst e; exact ⟨y, ys₀ ++ _, rfl, hx, VRs_append hxs h⟩

theorem VRs_take {ι : Emb} {xs : List AV} {ys : List Value} (n : Nat) (h : VRs ι xs ys) : VRs ι (xs.take n) (ys.take n) := by
  have hl := VRs_length h
  refine VRs_of (by simp [hl]) fun i x y hx hy => ?_
  rw [List.getElem?_take] at hx hy
  split at hx
  · rename_i hi
    rw [if_pos hi] at hy
    obtain ⟨y', hy', hv⟩ := VRs_get h i x hx
    rw [hy'] at hy; cases hy; exact hv
  · cases hx
theorem VRs_drop {ι : Emb} {xs : List AV} {ys : List Value} (n : Nat) (h : VRs ι xs ys) : VRs ι (xs.drop n) (ys.drop n) := by
  have hl := VRs_length h
  refine VRs_of (by simp [hl]) fun i x y hx hy => ?_
  rw [List.getElem?_drop] at hx hy
  obtain ⟨y', hy', hv⟩ := VRs_get h _ x hx
  rw [hy'] at hy; cases hy; exact hv

/-- A block that may be written. -/
def Blk.wr : Blk → Bool
  | .cells ro .. => !ro
  | .iter .. => true
  | .dead => false
def Blk.alive : Blk → Bool
  | .dead => false
  | _ => true

/-- Blocks of the model's that are left alone (soft: as they were there; hard: none here lies over them), and ids that are kept for later. -/
structure Pr where
  soft : Nat → Prop
  hard : Nat → Prop
  res : Pa → Prop
instance : CoeFun Pr (fun _ => Nat → Prop) := ⟨fun p b => p.soft b ∨ p.hard b⟩

/-- A block of cells against the model's. -/
def CR (ι : Emb) (pr : Pr) (ro : Bool) (fz e size : Nat) (c : Tr AV) (j : Inj) (h : Array Obj) : Prop :=
  j.n = size ∧ ∃ cs e' f, h[j.blk]? = some (.cells cs e' f) ∧ (e ≠ 0 → e' = e ∧ j.d = 0) ∧ j.m = cs.size ∧ j.d + size ≤ j.m ∧
    (∀ i, i < size → ∃ v, cs[j.d + i]? = some v ∧ VR ι (c.get .u (toPa i)) v) ∧
    (ro = false → ¬ pr j.blk ∧ ∀ i, j.d + fz ≤ i → i < j.m → ¬ (f.1 ≤ i ∧ i < f.2))
def BR (ι : Emb) (pr : Pr) (b : Blk) (oj : Option Inj) (h : Array Obj) : Prop :=
  match b with
  | .dead => True
  | .cells ro fz e size c => ∃ j, oj = some j ∧ CR ι pr ro fz e size c j h ∧ ¬ pr.hard j.blk
  | .iter len n pos => ∃ j, oj = some j ∧ j.d = 0 ∧ ¬ pr j.blk ∧ ∃ s, h[j.blk]? = some (.stringIter s pos) ∧ SR len n s

/-- pr: blocks of the model's that are left alone; ng: how many package-level variables there are. -/
structure Rel (pr : Pr) (ng : Nat) (ι : Emb) (H : Heap) (h : Array Obj) : Prop where
  fresh : ∀ a, H.next.toN ≤ a.toN → ι a = none
  freshH : ∀ a, H.next.toN ≤ a.toN → H.get a = .dead
  dom : ∀ a, BR ι pr (H.get a) (ι a) h
  sep : ∀ a b j k, a ≠ b → (H.get a).wr = true → (H.get b).alive = true → ι a = some j → ι b = some k → j.blk ≠ k.blk
  lt : ∀ a j, ι a = some j → j.blk < h.size
  prot : ∀ b, pr b → b < h.size
  glob : ∀ g, g < ng → ∃ n m, ι (toPa g) = some ⟨g, 0, n, m⟩
  resv : ∀ a, pr.res a → ι a = none ∧ a.toN < H.next.toN

/-- What a step leaves as it was. -/
structure Fr (pr : Pr) (w w' : World) : Prop where
  os : w'.os = w.os
  tape : w'.tape = w.tape
  output : w'.output = w.output
  size : w.heap.size ≤ w'.heap.size
  keep : ∀ b, pr b → w'.heap[b]? = w.heap[b]?
theorem Fr.refl (pr : Pr) (w : World) : Fr pr w w := ⟨rfl, rfl, rfl, Nat.le_refl _, fun _ _ => rfl⟩
theorem Fr.trans {pr : Pr} {w w' w'' : World} (h : Fr pr w w') (h' : Fr pr w' w'') : Fr pr w w'' :=
  ⟨h'.os.trans h.os, h'.tape.trans h.tape, h'.output.trans h.output, Nat.le_trans h.size h'.size, fun b hb => (h'.keep b hb).trans (h.keep b hb)⟩

section
variable {pr : Pr} {ng : Nat} {ι : Emb} {H : Heap} {h : Array Obj}

theorem Heap.get_put (H : Heap) (a b : Pa) (x : Blk) : (H.put a x).get b = if a = b then x else H.get b := Tr.get_set _ _ _ _ _
theorem Heap.get_alloc (H : Heap) (b : Pa) (x : Blk) : (H.alloc x).get b = if H.next = b then x else H.get b := Tr.get_set _ _ _ _ _

theorem Rel.cells (R : Rel pr ng ι H h) {a : Pa} {ro : Bool} {fz e size : Nat} {c : Tr AV} (hb : H.get a = .cells ro fz e size c) :
    ∃ j, ι a = some j ∧ CR ι pr ro fz e size c j h := by
  have := R.dom a; rw [hb] at this
  obtain ⟨j, h1, h2, _⟩ := this
  exact ⟨j, h1, h2⟩
theorem Rel.soft (R : Rel pr ng ι H h) {a : Pa} {ro : Bool} {fz e size : Nat} {c : Tr AV} {j : Inj} (hb : H.get a = .cells ro fz e size c) (hj : ι a = some j) : ¬ pr.hard j.blk := by
  have := R.dom a; rw [hb] at this
  obtain ⟨j', h1, _, h2⟩ := this
  rw [hj] at h1; cases h1; exact h2

theorem CR.mono {ι' : Emb} (hx : Ext ι ι') {ro : Bool} {fz e size : Nat} {c : Tr AV} {j : Inj} {h h' : Array Obj} (r : CR ι pr ro fz e size c j h) (hh : h'[j.blk]? = h[j.blk]?) :
    CR ι' pr ro fz e size c j h' := by
  obtain ⟨h1, cs, e', f, h2, he, h3, h4, h5, h6⟩ := r
  exact ⟨h1, cs, e', f, hh.trans h2, he, h3, h4, fun i hi => let ⟨v, hv, hr⟩ := h5 i hi; ⟨v, hv, VR_mono hx _ _ hr⟩, h6⟩

theorem BR.mono {ι' : Emb} (hx : Ext ι ι') {b : Blk} {oj oj' : Option Inj} {h h' : Array Obj} (r : BR ι pr b oj h) (ho : ∀ j, oj = some j → oj' = some j)
    (hh : ∀ j, oj = some j → h'[j.blk]? = h[j.blk]?) : BR ι' pr b oj' h' := by
  cases b with
  | dead => trivial
  | cells ro fz e size c =>
    obtain ⟨j, hj, hc, hn⟩ := r
    exact ⟨j, ho j hj, hc.mono hx (hh j hj), hn⟩
  | iter len n pos =>
    obtain ⟨j, hj, h1, h2, s, h3, h4⟩ := r
    exact ⟨j, ho j hj, h1, h2, s, (hh j hj).trans h3, h4⟩

theorem CR.of (ι : Emb) (pr : Pr) (ro : Bool) (fz e e' : Nat) (l : List AV) (c : Tr AV) (j : Inj) (h : Array Obj) (cs : Array Value) (f : Nat × Nat)
    (hn : j.n = l.length) (hb : h[j.blk]? = some (.cells cs e' f)) (he : e ≠ 0 → e' = e ∧ j.d = 0) (hm : j.m = cs.size) (hd : j.d + l.length ≤ j.m)
    (hc : ∀ i x, l[i]? = some x → c.get .u (toPa i) = x) (hv : ∀ i x, l[i]? = some x → ∃ v, cs[j.d + i]? = some v ∧ VR ι x v)
    (hw : ro = false → ¬ pr j.blk ∧ ∀ i, j.d + fz ≤ i → i < j.m → ¬ (f.1 ≤ i ∧ i < f.2)) : CR ι pr ro fz e l.length c j h :=
  ⟨hn, cs, e', f, hb, he, hm, hd, fun i hi => by
    obtain ⟨v, h1, h2⟩ := hv i l[i] (by simp [hi])
    exact ⟨v, h1, by rw [hc i l[i] (by simp [hi])]; exact h2⟩, hw⟩

/-- An emb with one place more. -/
def Emb.add (ι : Emb) (a : Pa) (j : Inj) : Emb := fun b => if b = a then some j else ι b
theorem Ext.add {ι : Emb} {a : Pa} (j : Inj) (hn : ι a = none) : Ext ι (ι.add a j) := fun b k hb => by
  unfold Emb.add; split
  · rename_i e; subst e; rw [hn] at hb; cases hb
  · exact hb
theorem Emb.add_same (ι : Emb) (a : Pa) (j : Inj) : ι.add a j a = some j := by simp [Emb.add]
theorem Emb.add_ne (ι : Emb) {a b : Pa} (j : Inj) (h : b ≠ a) : ι.add a j b = ι b := by simp [Emb.add, h]

/-- A new abstract block x over a block of the model's that none holds: a new one, or one whose holder is gone. -/
theorem Rel.newOver (R : Rel pr ng ι H h) (x : Blk) (j : Inj) (h' : Array Obj) (hsize : h.size ≤ h'.size) (hlt : j.blk < h'.size)
    (hsame : ∀ b, b < h.size → b ≠ j.blk → h'[b]? = h[b]?)
    (hfree : ∀ a k, (H.get a).alive = true → ι a = some k → k.blk ≠ j.blk)
    (hx : BR (ι.add H.next j) pr x (some j) h') : Rel pr ng (ι.add H.next j) (H.alloc x) h' := by
  have hnone : ι H.next = none := R.fresh _ (Nat.le_refl _)
  have hext := Ext.add (ι := ι) j hnone
  have hnext : (H.alloc x).next.toN = H.next.toN + 1 := Pa.toN_succ _
  refine ⟨?_, ?_, ?_, ?_, ?_, ?_, ?_, ?_⟩
  · intro a ha
    rw [hnext] at ha
    rw [Emb.add_ne]
    · exact R.fresh a (by omega)
    · intro e; subst e; omega
  · intro a ha
    rw [hnext] at ha
    rw [Heap.get_alloc, if_neg (by intro e; subst e; omega)]
    exact R.freshH a (by omega)
  · intro a
    rw [Heap.get_alloc]
    by_cases e : H.next = a
    · subst e; rw [if_pos rfl, Emb.add_same]; exact hx
    · rw [if_neg e, Emb.add_ne _ _ (Ne.symm e)]
      cases hb : H.get a with
      | dead => trivial
      | _ =>
        have hd := R.dom a
        have hal : (H.get a).alive = true := by rw [hb]; rfl
        rw [hb] at hd
        exact hd.mono hext (fun j hj => hj) fun k hk => hsame _ (R.lt _ _ hk) (hfree a k hal hk)
  · intro a b k k' hab hwa hab' hka hkb
    rw [Heap.get_alloc] at hwa hab'
    by_cases ea : H.next = a
    · subst ea
      rw [if_neg hab] at hab'
      rw [Emb.add_same] at hka; cases hka
      rw [Emb.add_ne _ _ (Ne.symm hab)] at hkb
      exact fun e => hfree b k' hab' hkb e.symm
    · rw [if_neg ea] at hwa
      rw [Emb.add_ne _ _ (Ne.symm ea)] at hka
      by_cases eb : H.next = b
      · subst eb
        rw [Emb.add_same] at hkb; cases hkb
        refine hfree a k ?_ hka
        revert hwa; cases H.get a <;> simp [Blk.wr, Blk.alive]
      · rw [if_neg eb] at hab'
        rw [Emb.add_ne _ _ (Ne.symm eb)] at hkb
        exact R.sep a b k k' hab hwa hab' hka hkb
  · intro a k hk
    by_cases e : a = H.next
    · subst e; rw [Emb.add_same] at hk; cases hk; exact hlt
    · rw [Emb.add_ne _ _ e] at hk; exact Nat.lt_of_lt_of_le (R.lt a k hk) hsize
  · exact fun b hb => Nat.lt_of_lt_of_le (R.prot b hb) hsize
  · intro g hg
    obtain ⟨n, m, e⟩ := R.glob g hg
    exact ⟨n, m, hext _ _ e⟩
  · intro a ha
    obtain ⟨h1, h2⟩ := R.resv a ha
    rw [hnext, Emb.add_ne _ _ (fun e => by subst e; exact Nat.lt_irrefl _ h2)]
    exact ⟨h1, Nat.lt_succ_of_lt h2⟩

/-- A new block of the model's. -/
theorem Rel.push (R : Rel pr ng ι H h) (x : Blk) (o : Obj) (n m : Nat)
    (hx : BR (ι.add H.next ⟨h.size, 0, n, m⟩) pr x (some ⟨h.size, 0, n, m⟩) (h.push o)) : Rel pr ng (ι.add H.next ⟨h.size, 0, n, m⟩) (H.alloc x) (h.push o) :=
  R.newOver x _ _ (by simp) (by simp) (fun b hb _ => by simp [Array.getElem?_push, Nat.ne_of_lt hb])
    (fun a k _ hk => Nat.ne_of_lt (R.lt a k hk)) hx

theorem Rel.notProt (R : Rel pr ng ι H h) : ¬ pr h.size := fun hp => Nat.lt_irrefl _ (R.prot _ hp)
theorem Rel.notHard (R : Rel pr ng ι H h) : ¬ pr.hard h.size := fun hp => R.notProt (.inr hp)

/-- A block turned in place, of the model's and of the abstract ones. -/
theorem Rel.turn (R : Rel pr ng ι H h) {a : Pa} {j : Inj} (x : Blk) (o : Obj) (ha : ι a = some j) (hw : (H.get a).wr = true)
    (hx : BR ι pr x (some j) (h.setIfInBounds j.blk o)) : Rel pr ng ι (H.put a x) (h.setIfInBounds j.blk o) := by
  have hal : (H.get a).alive = true := by revert hw; cases H.get a <;> simp [Blk.wr, Blk.alive]
  have hlt : a.toN < H.next.toN := by
    rcases Nat.lt_or_ge a.toN H.next.toN with g | g
    · exact g
    · rw [R.fresh a g] at ha; cases ha
  refine ⟨R.fresh, ?_, ?_, ?_, ?_, ?_, R.glob, R.resv⟩
  · intro b hb
    have : (H.put a x).next.toN = H.next.toN := rfl
    rw [Heap.get_put, if_neg (by intro e; subst e; omega)]
    exact R.freshH b (by omega)
  · intro b
    rw [Heap.get_put]
    by_cases e : a = b
    · subst e; rw [if_pos rfl, ha]; exact hx
    · rw [if_neg e]
      cases hb : H.get b with
      | dead => trivial
      | _ =>
        have hd := R.dom b
        have hal' : (H.get b).alive = true := by rw [hb]; rfl
        rw [hb] at hd
        refine hd.mono (Ext.refl _) (fun _ e => e) fun k hk => ?_
        have hne := R.sep a b j k e hw hal' ha hk
        simp [hne]
  · intro b b' k k' hbb hwb halb hk hk'
    rw [Heap.get_put] at hwb halb
    by_cases e : a = b
    · subst e
      rw [if_neg hbb] at halb
      exact R.sep a b' k k' hbb hw halb hk hk'
    · rw [if_neg e] at hwb
      by_cases e' : a = b'
      · subst e'
        exact R.sep b a k k' hbb hwb hal hk hk'
      · rw [if_neg e'] at halb
        exact R.sep b b' k k' hbb hwb halb hk hk'
  · intro b k hk; rw [Array.size_setIfInBounds]; exact R.lt b k hk
  · intro b hb; rw [Array.size_setIfInBounds]; exact R.prot b hb

/-- A block that is let go. -/
theorem Rel.kill (R : Rel pr ng ι H h) {a : Pa} (hlt : a.toN < H.next.toN) : Rel pr ng ι (H.put a .dead) h := by
  refine ⟨R.fresh, ?_, ?_, ?_, R.lt, R.prot, R.glob, R.resv⟩
  · intro b hb
    have : (H.put a .dead).next.toN = H.next.toN := rfl
    rw [Heap.get_put, if_neg (by intro e; subst e; omega)]
    exact R.freshH b (by omega)
  · intro b
    rw [Heap.get_put]
    by_cases e : a = b
    · rw [if_pos e]; trivial
    · rw [if_neg e]; exact R.dom b
  · intro b b' k k' hbb hwb halb hk hk'
    rw [Heap.get_put] at hwb halb
    by_cases e : a = b
    · rw [if_pos e] at hwb; cases hwb
    · rw [if_neg e] at hwb
      by_cases e' : a = b'
      · rw [if_pos e'] at halb; cases halb
      · rw [if_neg e'] at halb; exact R.sep b b' k k' hbb hwb halb hk hk'

theorem Rel.lt_next (R : Rel pr ng ι H h) {a : Pa} {j : Inj} (ha : ι a = some j) : a.toN < H.next.toN := by
  rcases Nat.lt_or_ge a.toN H.next.toN with g | g
  · exact g
  · rw [R.fresh a g] at ha; cases ha
end
end Go.Vai
