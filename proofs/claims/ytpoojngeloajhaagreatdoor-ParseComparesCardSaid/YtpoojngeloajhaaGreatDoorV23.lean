/- VAI, part X: a region that draws: the facts of its order, and what the one run tells of each operation. -/
import Derived.Test.YtpoojngeloajhaaGreatDoorV22
namespace Go.Vai

theorem mapM_getL {α β : Type} {f : α → Option β} {l : List α} {ys : List β} (h : l.mapM f = some ys) (i : Nat) (y : β) (hy : ys[i]? = some y) : ∃ x, l[i]? = some x ∧ f x = some y := by
  obtain ⟨hl, hg⟩ := mapM_get h
  have hi : i < l.length := by rw [← hl]; exact lt_of_get hy
  have hx : l[i]? = some l[i] := List.getElem?_eq_getElem hi
  obtain ⟨y', h1, h2⟩ := hg i _ hx
  rw [h1] at hy; cases hy
  exact ⟨_, hx, h2⟩

/-- The facts of an order. -/
structure OrdOK (b : Array Nat) (ops : Array Oper) (heavy : Nat → Bool) (n : Nat) (l : List Nat) : Prop where
  edge : ∀ j o e, j < n → ops[j]? = some o → e ∈ o.after.toList → Region.binds .any e = true → e.on < n ∧ (b.getD j 0).testBit e.on = true
  close : ∀ j o i, j < n → ops[j]? = some o → i < n → (b.getD j 0).testBit i = true → ∃ e ∈ o.after.toList, Region.binds .any e = true ∧ (e.on = i ∨ (b.getD e.on 0).testBit i = true)
  slots : ∀ i j oi oj d, i < n → j < n → i ≠ j → ops[i]? = some oi → ops[j]? = some oj → oi.dst = some d → (oj.dst = some d ∨ d ∈ oj.looksAt ops) → (b.getD i 0).testBit j = true ∨ (b.getD j 0).testBit i = true
  len : l.length = n
  all : ∀ i, i < n → ∃ p, p < n ∧ l.getD p 0 = i
  lt : ∀ p, p < n → l.getD p 0 < n
  inj : ∀ p q, p < n → q < n → l.getD p 0 = l.getD q 0 → p = q
  ahead : ∀ p q, p < n → q < n → (b.getD (l.getD p 0) 0).testBit (l.getD q 0) = true → q < p
  heavy : ∀ p q, p < n → q < p → heavy (l.getD p 0) = true → (b.getD (l.getD p 0) 0).testBit (l.getD q 0) = true

theorem all_range {n : Nat} {f : Nat → Bool} (h : (List.range n).all f = true) (i : Nat) (hi : i < n) : f i = true := List.all_eq_true.mp h i (List.mem_range.mpr hi)

theorem ordOK_of {b : Array Nat} {ops : Array Oper} {heavy : Nat → Bool} {n : Nat} {l : List Nat} (h1 : closeOk b ops n = true) (h2 : slotsOk b ops n = true) (h3 : orderOk b heavy n l = true) : OrdOK b ops heavy n l := by
  unfold orderOk at h3
  rw [Bool.and_eq_true, Bool.and_eq_true] at h3
  obtain ⟨⟨h4, h5⟩, h6⟩ := h3
  have hlen : l.length = n := by simpa using h4
  have hrow : ∀ p, p < n → Nat.blt (l.getD p 0) n = true ∧ ∀ q, q < n → ((!(l.getD p 0 == l.getD q 0) || p == q) && (!(b.getD (l.getD p 0) 0).testBit (l.getD q 0) || Nat.blt q p) && (!(heavy (l.getD p 0) && Nat.blt q p) || (b.getD (l.getD p 0) 0).testBit (l.getD q 0))) = true := by
    intro p hp
    have := all_range h6 p hp
    rw [Bool.and_eq_true] at this
    exact ⟨this.1, fun q hq => all_range this.2 q hq⟩
  refine ⟨?_, ?_, ?_, hlen, ?_, ?_, ?_, ?_, ?_⟩
  · intro j o e hj ho he hb
    have := all_range h1 j hj
    rw [ho] at this
    rw [Option.elim_some, Bool.and_eq_true] at this
    have := List.all_eq_true.mp this.1 e he
    rw [hb] at this
    simp only [Bool.not_true, Bool.false_or, Bool.and_eq_true] at this
    exact ⟨Nat.blt_eq.mp this.1, this.2⟩
  · intro j o i hj ho hi hb
    have := all_range h1 j hj
    rw [ho] at this
    rw [Option.elim_some, Bool.and_eq_true] at this
    have := all_range this.2 i hi
    rw [hb] at this
    simp only [Bool.not_true, Bool.false_or] at this
    obtain ⟨e, he, hb2⟩ := List.any_eq_true.mp this
    rw [Bool.and_eq_true, Bool.or_eq_true, beq_iff_eq] at hb2
    exact ⟨e, he, hb2.1, hb2.2⟩
  · intro i j oi oj d hi hj hij hoi hoj hd hn
    have := all_range h2 i hi
    rw [hoi] at this
    simp only [Option.bind_some, hd] at this
    have := all_range this j hj
    rw [hoj] at this
    have hc : (!(oj.dst == some d || (oj.looksAt ops).contains d)) = false := by
      rw [Bool.not_eq_false', Bool.or_eq_true]
      rcases hn with hn | hn
      · left; rw [hn]; exact beq_self_eq_true _
      · right; exact List.contains_iff_mem.mpr hn
    have this : (((i == j || !(oj.dst == some d || (oj.looksAt ops).contains d)) || (b.getD i 0).testBit j) || (b.getD j 0).testBit i) = true := this
    rw [hc, beq_eq_false_iff_ne.mpr hij] at this
    simp only [Bool.or_false, Bool.false_or, Bool.or_eq_true] at this
    exact this
  · intro i hi
    have := all_range h5 i hi
    have hm := List.contains_iff_mem.mp this
    obtain ⟨p, hp, e⟩ := List.getElem_of_mem hm
    exact ⟨p, by rw [← hlen]; exact hp, by rw [List.getD_eq_getElem?_getD, List.getElem?_eq_getElem hp, e]; rfl⟩
  · intro p hp
    exact Nat.blt_eq.mp (hrow p hp).1
  · intro p q hp hq e
    have := (hrow p hp).2 q hq
    rw [Bool.and_eq_true, Bool.and_eq_true] at this
    have := this.1.1
    rw [e, beq_self_eq_true] at this
    simpa using this
  · intro p q hp hq e
    have := (hrow p hp).2 q hq
    rw [Bool.and_eq_true, Bool.and_eq_true] at this
    have := this.1.2
    rw [e] at this
    exact Nat.blt_eq.mp (by simpa using this)
  · intro p q hp hq e
    have := (hrow p hp).2 q (by omega)
    rw [Bool.and_eq_true, Bool.and_eq_true] at this
    have := this.2
    rw [e, Nat.blt_eq.mpr hq] at this
    simpa using this

theorem loAt_some (b : Array Nat) (heavy : Nat → Bool) (l : List Nat) (i : Nat) : ∀ n, loAt b heavy l n i = 0 ∨ ∃ q, q < n ∧ heavy (l.getD q 0) = true ∧ (b.getD i 0).testBit (l.getD q 0) = true ∧ loAt b heavy l n i = cntH heavy l (q + 1)
  | 0 => .inl rfl
  | n + 1 => by
    have e : loAt b heavy l (n + 1) i = (if heavy (l.getD n 0) && (b.getD i 0).testBit (l.getD n 0) then cntH heavy l (n + 1) else loAt b heavy l n i) := by
      unfold loAt
      rw [List.range_succ, List.foldl_append]
      rfl
    rw [e]
    by_cases c : (heavy (l.getD n 0) && (b.getD i 0).testBit (l.getD n 0)) = true
    · rw [if_pos c]
      rw [Bool.and_eq_true] at c
      exact .inr ⟨n, by omega, c.1, c.2, rfl⟩
    · rw [if_neg c]
      rcases loAt_some b heavy l i n with h | ⟨q, hq, h1, h2, h3⟩
      · exact .inl h
      · exact .inr ⟨q, by omega, h1, h2, h3⟩

theorem cntH_mono (heavy : Nat → Bool) (l : List Nat) {m n : Nat} (h : m ≤ n) : cntH heavy l m ≤ cntH heavy l n := by
  unfold cntH
  have : l.take m = (l.take n).take m := by rw [List.take_take, Nat.min_eq_left h]
  rw [this]
  generalize l.take n = k
  have : (k.filter heavy).length = ((k.take m).filter heavy).length + ((k.drop m).filter heavy).length := by
    rw [← List.length_append, ← List.filter_append, List.take_append_drop]
  omega

/-! The one run. -/
structure DSt where
  fr : Tr AV
  H : Heap
  Gs : List Heap
  n : Nat
  ids : List Pa

abbrev MkR := Nat × List AV × (Pa → AV)
noncomputable def mkPair (e : Nat) (l : List AV) (f : Pa → AV) : Option MkR := some (e, l, f)
def pairK (v : AV) (H : Heap) : Option (AV × Heap) := some (v, H)

/-- One operation of the one run. -/
structure DStep (call : Call1) (x : AI × DI) (s : DSt) (v : AV) (w : Bool) (s' : DSt) : Prop where
  want : wantB x.1.g s.fr = some w
  fr : s'.fr = put x.1.d v s.fr
  no : w = false → v = un ∧ s'.H = s.H
  pure : w = true → x.2.cls = 0 → ∃ H1, xopK x.1.o (call (AV × Heap)) s.fr s.H pairK = some (v, H1)
  read : w = true → x.2.cls = 1 → (∃ H1, xopK x.1.o (call (AV × Heap)) s.fr s.H pairK = some (v, H1)) ∧ sameAll x.1.o s.fr v x.2.lo s.Gs s.n = true
  make : w = true → x.2.cls = 2 → ∃ id e l f, mkK x.1.o s.fr mkPair = some (e, l, f) ∧ s.ids = id :: s'.ids ∧ v = f id ∧ s'.H = s.H.put id (.cells false 0 e l.length (setCells l 0 .leaf))
  heavy : w = true → x.2.cls = 3 → xopK x.1.o (call (AV × Heap)) s.fr s.H pairK = some (v, s'.H)
  light : x.2.cls = 0 ∨ x.2.cls = 1 → s'.H = s.H ∧ s'.Gs = s.Gs ∧ s'.n = s.n ∧ s'.ids = s.ids
  mid : x.2.cls = 2 → s'.Gs = s.Gs ∧ s'.n = s.n ∧ ∃ id, s.ids = id :: s'.ids
  hard : x.2.cls = 3 → s'.Gs = s'.H :: s.Gs ∧ s'.n = s.n + 1 ∧ s'.ids = s.ids

section
variable {R : Type}

theorem dirK_some {o : AOp} {call : Call1} {fr : Tr AV} {H : Heap} {k : HK R} {r : R} (h : dirK o call fr H k = some r) : ∃ v H', xopK o (call (AV × Heap)) fr H pairK = some (v, H') ∧ k v H' = some r := by
  unfold dirK at h
  cases e : xopK o (call (AV × Heap)) fr H pairK with
  | none =>
    have e' : xopK o (call (AV × Heap)) fr H (fun v H => some (v, H)) = none := e
    rw [e'] at h; cases h
  | some p =>
    have e' : xopK o (call (AV × Heap)) fr H (fun v H => some (v, H)) = some p := e
    rw [e'] at h
    exact ⟨p.1, p.2, rfl, h⟩

theorem cellsK_nat {R' : Type} {v : AV} {c : List AV → Option R} {r : R} (h : cellsK v c = some r) : ∃ l, c l = some r ∧ ∀ (c' : List AV → Option R'), cellsK v c' = c' l := by
  unfold cellsK at h
  cases ho : oneC v with
  | true => rw [ho] at h; exact ⟨[v], h, fun c' => by unfold cellsK; rw [ho]⟩
  | false =>
    rw [ho] at h
    obtain ⟨l, e, h1⟩ := vA_some h
    subst e
    exact ⟨l, h1, fun c' => by unfold cellsK; rw [ho]; rfl⟩

theorem fillK_nat {R' : Type} {fr : Tr AV} : ∀ {ps : List (Nat × Nat × Opd)} {cs : List AV} {c : List AV → Option R} {r : R}, fillK fr ps cs c = some r → ∃ l, c l = some r ∧ ∀ (c' : List AV → Option R'), fillK fr ps cs c' = c' l
  | [], cs, c, r, h => ⟨cs, h, fun _ => rfl⟩
  | p :: ps, cs, c, r, h => by
    have h : (evK fr p.2.2 fun v => cellsK v fun l => fill1K p.1 p.2.1 cs l fun cs => fillK fr ps cs c) = some r := h
    rw [evK_eq] at h
    obtain ⟨l, h1, h2⟩ := cellsK_nat (R' := R') h
    unfold fill1K at h1
    obtain ⟨g1, h3⟩ := guardK_some h1
    obtain ⟨g2, h4⟩ := guardK_some h3
    rw [layK_eq] at h4
    obtain ⟨l', h5, h6⟩ := fillK_nat (R' := R') h4
    refine ⟨l', h5, fun c' => ?_⟩
    show (evK fr p.2.2 fun v => cellsK v fun l => fill1K p.1 p.2.1 cs l fun cs => fillK fr ps cs c') = _
    rw [evK_eq, h2]
    unfold fill1K
    rw [g1, g2, layK_eq]
    exact h6 c'

theorem mkK_nat {o : AOp} {fr : Tr AV} {g : Nat → List AV → (Pa → AV) → Option R} {r : R} (h : mkK o fr g = some r) : ∃ e l f, mkK o fr mkPair = some (e, l, f) ∧ g e l f = some r := by
  cases o <;> first | (cases h; done) | skip
  case new e zs => exact ⟨_, _, _, rfl, h⟩
  case box e x =>
    have h : evK fr x (fun v => cellsK v fun l => g e l fun id => .p id 0) = some r := h
    rw [evK_eq] at h
    obtain ⟨l, h1, h2⟩ := cellsK_nat (R' := MkR) h
    refine ⟨_, _, _, ?_, h1⟩
    show evK fr x (fun v => cellsK v fun l => mkPair e l fun id => .p id 0) = _
    rw [evK_eq, h2]; rfl
  case bsl e sz len zs ps =>
    obtain ⟨l, h1, h2⟩ := fillK_nat (R' := MkR) h
    exact ⟨_, _, _, h2 _, h1⟩

theorem dOne_some {call : Call1} {x : AI × DI} {s : DSt} {k : DK R} {r : R} (hc : x.2.cls ≤ 3) (h : dOne call x s.fr s.H s.Gs s.n s.ids k = some r) : ∃ s' v w, DStep call x s v w s' ∧ k s'.fr s'.H s'.Gs s'.n s'.ids = some r := by
  obtain ⟨⟨d, g, o⟩, ⟨cls, lo⟩⟩ := x
  have h : wantK g s.fr (fun w => Bool.casesOn w (dNo cls d s.fr s.H s.Gs s.n s.ids k) (dYes cls lo o d call s.fr s.H s.Gs s.n s.ids k)) = some r := h
  rw [wantK_eq] at h
  obtain ⟨w, hw, h1⟩ := bind_some h
  clear h
  cases w with
  | false =>
    have h1 : dNo cls d s.fr s.H s.Gs s.n s.ids k = some r := h1
    unfold dNo at h1
    rw [putK_eq] at h1
    match cls, hc, h1 with
    | 0, _, h1 => exact ⟨⟨_, s.H, s.Gs, s.n, s.ids⟩, un, false, ⟨hw, rfl, fun _ => ⟨rfl, rfl⟩, fun e => (by cases e), fun e => (by cases e), fun e => (by cases e), fun e => (by cases e), fun _ => ⟨rfl, rfl, rfl, rfl⟩, fun e => (by cases e), fun e => (by cases e)⟩, h1⟩
    | 1, _, h1 => exact ⟨⟨_, s.H, s.Gs, s.n, s.ids⟩, un, false, ⟨hw, rfl, fun _ => ⟨rfl, rfl⟩, fun e => (by cases e), fun e => (by cases e), fun e => (by cases e), fun e => (by cases e), fun _ => ⟨rfl, rfl, rfl, rfl⟩, fun e => (by cases e), fun e => (by cases e)⟩, h1⟩
    | 2, _, h1 =>
      cases hi : s.ids with
      | nil => rw [hi] at h1; cases h1
      | cons id ids =>
        rw [hi] at h1
        exact ⟨⟨_, s.H, s.Gs, s.n, ids⟩, un, false, ⟨hw, rfl, fun _ => ⟨rfl, rfl⟩, fun e => (by cases e), fun e => (by cases e), fun e => (by cases e), fun e => (by cases e), fun e => (by rcases e with e | e <;> cases e), fun _ => ⟨rfl, rfl, id, hi⟩, fun e => (by cases e)⟩, h1⟩
    | 3, _, h1 =>
      have h1 : forceN (Nat.succ s.n) (fun n => k (put d un s.fr) s.H (s.H :: s.Gs) n s.ids) = some r := h1
      rw [forceN_eq] at h1
      exact ⟨⟨_, s.H, s.H :: s.Gs, s.n + 1, s.ids⟩, un, false, ⟨hw, rfl, fun _ => ⟨rfl, rfl⟩, fun e => (by cases e), fun e => (by cases e), fun e => (by cases e), fun e => (by cases e), fun e => (by rcases e with e | e <;> cases e), fun e => (by cases e), fun _ => ⟨rfl, rfl, rfl⟩⟩, h1⟩
    | n + 4, hc, _ => exact absurd hc (by simp)
  | true =>
    have h1 : dYes cls lo o d call s.fr s.H s.Gs s.n s.ids k = some r := h1
    unfold dYes at h1
    match cls, hc, h1 with
    | 0, _, h1 =>
      obtain ⟨v, H1, h2, h3⟩ := dirK_some h1
      have h3 : putK d v s.fr (fun fr => k fr s.H s.Gs s.n s.ids) = some r := h3
      rw [putK_eq] at h3
      exact ⟨⟨_, s.H, s.Gs, s.n, s.ids⟩, v, true, ⟨hw, rfl, fun e => (by cases e), fun _ _ => ⟨H1, h2⟩, fun _ e => (by cases e), fun _ e => (by cases e), fun _ e => (by cases e), fun _ => ⟨rfl, rfl, rfl, rfl⟩, fun e => (by cases e), fun e => (by cases e)⟩, h3⟩
    | 1, _, h1 =>
      obtain ⟨v, H1, h2, h3⟩ := dirK_some h1
      obtain ⟨g1, h3⟩ := guardK_some h3
      rw [putK_eq] at h3
      exact ⟨⟨_, s.H, s.Gs, s.n, s.ids⟩, v, true, ⟨hw, rfl, fun e => (by cases e), fun _ e => (by cases e), fun _ _ => ⟨⟨H1, h2⟩, g1⟩, fun _ e => (by cases e), fun _ e => (by cases e), fun _ => ⟨rfl, rfl, rfl, rfl⟩, fun e => (by cases e), fun e => (by cases e)⟩, h3⟩
    | 2, _, h1 =>
      obtain ⟨e, l, f, h2, h3⟩ := mkK_nat h1
      unfold made2 at h3
      cases hi : s.ids with
      | nil => rw [hi] at h3; cases h3
      | cons id ids =>
        rw [hi] at h3
        have h3 : setCellsK l 0 .leaf (fun c => forceN (lenK l) fun m => s.H.putK id (.cells false 0 e m c) fun H => putK d (f id) s.fr fun fr => k fr H s.Gs s.n ids) = some r := h3
        rw [setCellsK_eq, forceN_eq, Heap.putK_eq, putK_eq, lenK_eq] at h3
        exact ⟨⟨_, _, s.Gs, s.n, ids⟩, f id, true, ⟨hw, rfl, fun e => (by cases e), fun _ e => (by cases e), fun _ e => (by cases e), fun _ _ => ⟨id, e, l, f, h2, hi, rfl, rfl⟩, fun _ e => (by cases e), fun e => (by rcases e with e | e <;> cases e), fun _ => ⟨rfl, rfl, id, hi⟩, fun e => (by cases e)⟩, h3⟩
    | 3, _, h1 =>
      obtain ⟨v, H1, h2, h3⟩ := dirK_some h1
      have h3 : putK d v s.fr (fun fr => forceN (Nat.succ s.n) fun n => k fr H1 (H1 :: s.Gs) n s.ids) = some r := h3
      rw [putK_eq, forceN_eq] at h3
      exact ⟨⟨_, H1, H1 :: s.Gs, s.n + 1, s.ids⟩, v, true, ⟨hw, rfl, fun e => (by cases e), fun _ e => (by cases e), fun _ e => (by cases e), fun _ e => (by cases e), fun _ _ => h2, fun e => (by rcases e with e | e <;> cases e), fun e => (by cases e), fun _ => ⟨rfl, rfl, rfl⟩⟩, h3⟩
    | n + 4, hc, _ => exact absurd hc (by simp)

theorem draw_trace {call : Call1} {k : Tr AV → Heap → Option R} {r : R} : ∀ (xs : List (AI × DI)) (s : DSt), (∀ x ∈ xs, x.2.cls ≤ 3) → drawK call xs s.fr s.H s.Gs s.n s.ids k = some r →
    ∃ (S : Nat → DSt) (V : Nat → AV) (W : Nat → Bool), S 0 = s ∧ (∀ p x, xs[p]? = some x → DStep call x (S p) (V p) (W p) (S (p + 1))) ∧ k (S xs.length).fr (S xs.length).H = some r
  | [], s, _, h => ⟨fun _ => s, fun _ => un, fun _ => false, rfl, fun p x hx => by simp at hx, h⟩
  | x :: xs, s, hc, h => by
    have h : dOne call x s.fr s.H s.Gs s.n s.ids (fun fr H Gs n ids => drawK call xs fr H Gs n ids k) = some r := h
    obtain ⟨s1, v, w, h1, h2⟩ := dOne_some (hc x (List.mem_cons_self ..)) h
    obtain ⟨S, V, W, h3, h4, h5⟩ := draw_trace xs s1 (fun y hy => hc y (List.mem_cons_of_mem _ hy)) h2
    refine ⟨fun p => match p with | 0 => s | p + 1 => S p, fun p => match p with | 0 => v | p + 1 => V p, fun p => match p with | 0 => w | p + 1 => W p, rfl, fun p y hy => ?_, h5⟩
    cases p with
    | zero =>
      simp at hy
      subst hy
      show DStep call x s v w (S 0)
      rw [h3]; exact h1
    | succ p => exact h4 p y (by simpa using hy)
end
end Go.Vai
