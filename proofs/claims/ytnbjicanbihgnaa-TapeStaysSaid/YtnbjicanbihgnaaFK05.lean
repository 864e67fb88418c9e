/- A verified interpreter of the model's code, and what the functions of a tape tell by it: part 5 (Vaia, Vaib, Vaic, Vaid, Vaie, Vaif, Vaig, Vaih, Vaii, Vaij). No condition but those that each statement bears. -/
import Derived.Test.YtnbjicanbihgnaaFK04
import Derived.Below
import Derived.FnData
import Derived.Lib.LaidU8
import Derived.Lay
import Derived.MakeChecks
import Derived.LaidLaws
import Derived.Deep.DeepHandedRow
set_option linter.unusedVariables false
set_option linter.unusedSimpArgs false
set_option linter.unusedSectionVars false
set_option linter.constructorNameAsVariable false
set_option linter.unnecessarySimpa false
/- VAI, part a: a region that draws: its operations by their places in the one order. -/
namespace Go.Vai

/-- A region that draws, and its one run, by places. -/
structure Rg (P : Program) (call : Call1) (n : Nat) (ops : Array Oper) where
  I : Nat → Nat
  O : Nat → Oper
  X : Nat → AI × DI
  S : Nat → DSt
  V : Nat → AV
  W : Nat → Bool
  hang : Nat → Nat → Prop
  lt : ∀ p, p < ops.size → I p < ops.size
  op : ∀ p, p < ops.size → ops[I p]? = some (O p)
  pos : ∀ i, i < ops.size → ∃ p, p < ops.size ∧ I p = i
  inj : ∀ p q, p < ops.size → q < ops.size → I p = I q → p = q
  edge : ∀ p e, p < ops.size → e ∈ (O p).after.toList → Region.binds .any e = true → ∃ q, q < ops.size ∧ e.on = I q ∧ hang p q
  close : ∀ p q, p < ops.size → q < ops.size → hang p q → ∃ e ∈ (O p).after.toList, Region.binds .any e = true ∧ ∃ t, t < ops.size ∧ e.on = I t ∧ (t = q ∨ hang t q)
  slots : ∀ p q d, p < ops.size → q < ops.size → p ≠ q → (O p).dst = some d → ((O q).dst = some d ∨ d ∈ (O q).looksAt ops) → hang p q ∨ hang q p
  ahead : ∀ p q, p < ops.size → q < ops.size → hang p q → q < p
  heavy : ∀ p q, p < ops.size → q < p → (X p).2.cls = 3 → hang p q
  dst : ∀ p, p < ops.size → compDst n (O p).dst = some (X p).1.d
  comp : ∀ p, p < ops.size → (X p).1.o = (compOp P (O p)).getD .bad
  guard : ∀ p, p < ops.size → ((O p).guard = none ∧ (X p).1.g = none) ∨ ∃ j want t, (O p).guard = some (j, want) ∧ (ops[j]?).bind (·.dst) = some t ∧ t < n ∧ (X p).1.g = some (toPa t, want)
  cls : ∀ p, p < ops.size → (X p).2.cls = clsOf (X p).1.o
  cls3 : ∀ p, p < ops.size → (X p).2.cls ≤ 3
  makes : ∀ p, p < ops.size → (X p).2.cls = 2 → Vai.makes (O p).op = true
  looks : ∀ p x, p < ops.size → x ∈ (X p).1.o.opds → ∀ pa, x = .t pa → ∃ t ∈ (O p).looksAt ops, pa = toPa t
  step : ∀ p, p < ops.size → DStep call (X p) (S p) (V p) (W p) (S (p + 1))
  lo : ∀ p, p < ops.size → loOf (X p).2.lo = 0 ∨ ∃ q, q < ops.size ∧ (X q).2.cls = 3 ∧ hang p q ∧ loOf (X p).2.lo = (S (q + 1)).n
  home : ∀ p, p < ops.size → HM ≤ (X p).2.lo → isLd (O p).op = true ∧ ∀ m, m < p → (X m).2.cls = 2 → (S m).n = (S p).n → hang p m

theorem clsOf_le (o : AOp) : clsOf o ≤ 3 := by unfold clsOf; split <;> omega


section
variable {P : Program} {call : Call1} {n : Nat} {ops : Array Oper} (G : Rg P call n ops)

/-- Listed, by places. -/
def Rg.L (listed : Array Bool) (p : Nat) : Bool := listed.getD (G.I p) false
def Rg.d (p : Nat) : Option Pa := (G.X p).1.d
/-- An id that was kept for a place. -/
def Rg.id (p : Nat) : Pa := (G.S p).ids.headD .h
noncomputable def Rg.fr (listed : Array Bool) (m : Nat) : Tr AV := frL (G.L listed) G.d G.V (G.S 0).fr m

theorem Rg.fr_all : ∀ m, m ≤ ops.size → (G.S m).fr = frL (fun _ => true) G.d G.V (G.S 0).fr m
  | 0, _ => rfl
  | m + 1, h => by
    rw [(G.step m (by omega)).fr, Rg.fr_all m (by omega)]
    rfl

/-- What is listed is closed. -/
def Rg.Closed (listed : Array Bool) : Prop := ∀ p q, p < ops.size → q < ops.size → G.L listed p = true → G.hang p q → G.L listed q = true

theorem Rg.ready_hang {listed : Array Bool} (hc : G.Closed listed) {p : Nat} (hp : p < ops.size) (hr : G.I p ∈ Region.ready .any ops listed) {q : Nat} (hq : q < ops.size) (hh : G.hang p q) : G.L listed q = true := by
  obtain ⟨_, o, ho, hall⟩ := mem_ready.mp hr
  rw [G.op p hp] at ho; cases ho
  obtain ⟨e, he, hb, t, ht, h1, h2⟩ := G.close p q hp hq hh
  have := hall e (Array.mem_toList_iff.mp he) hb
  rw [h1] at this
  rcases h2 with h2 | h2
  · subst h2; exact this
  · exact hc t q ht hq this h2

/-- The slots that an operation names are, when it comes, as they were in the one run. -/
theorem Rg.slot {listed : Array Bool} (hc : G.Closed listed) {p : Nat} (hp : p < ops.size) (hr : G.I p ∈ Region.ready .any ops listed) (hn : G.L listed p = false) {t : Tmp} (ht : (G.O p).dst = some t ∨ t ∈ (G.O p).looksAt ops) :
    (∀ q, p ≤ q → q < ops.size → G.d q = some (toPa t) → G.L listed q = false) ∧ Tr.get un (G.fr listed ops.size) (toPa t) = Tr.get un (G.S p).fr (toPa t) := by
  have hd : ∀ q, q < ops.size → G.d q = some (toPa t) → (G.O q).dst = some t := by
    intro q hq e
    have h1 := G.dst q hq
    have e : (G.X q).1.d = some (toPa t) := e
    rw [e] at h1
    cases h2 : (G.O q).dst with
    | none => rw [h2] at h1; cases h1
    | some t' =>
      rw [h2] at h1
      obtain ⟨_, h3⟩ := ite_none h1
      have := toPa_inj (Option.some.inj h3)
      rw [this]
  have later : ∀ q, p ≤ q → q < ops.size → G.d q = some (toPa t) → G.L listed q = false := by
    intro q hpq hq e
    by_cases hqp : q = p
    · subst hqp; exact hn
    · rcases G.slots q p t hq hp hqp (hd q hq e) ht with h1 | h1
      · cases hL : G.L listed q with
        | false => rfl
        | true => have := hc q p hq hp hL h1; rw [hn] at this; cases this
      · have := G.ahead p q hp hq h1; omega
  refine ⟨later, ?_⟩
  have h1 : Tr.get un (G.fr listed ops.size) (toPa t) = Tr.get un (G.fr listed p) (toPa t) := by
    have := frL_cut (L := G.L listed) (d := G.d) (V := G.V) (fr0 := (G.S 0).fr) (q := toPa t) (m := p) (ops.size - p) (fun q h1 h2 h3 => later q h1 (by omega) h3)
    rw [show p + (ops.size - p) = ops.size by omega] at this
    exact this
  rw [h1, G.fr_all p (by omega)]
  refine frL_congr p fun q hq e => ?_
  have hqN : q < ops.size := by omega
  rcases G.slots q p t hqN hp (by omega) (hd q hqN e) ht with h2 | h2
  · have := G.ahead q p hqN hp h2; omega
  · exact G.ready_hang hc hp hr hqN h2

theorem Rg.L_set {listed : Array Bool} (hs : listed.size = ops.size) {p : Nat} (hp : p < ops.size) (q : Nat) (hq : q < ops.size) : G.L (listed.setIfInBounds (G.I p) true) q = (if q = p then true else G.L listed q) := by
  unfold Rg.L
  by_cases e : q = p
  · subst e
    rw [if_pos rfl]
    have : G.I q < listed.size := by rw [hs]; exact G.lt q hq
    simp [this]
  · rw [if_neg e]
    exact getD_set_ne false fun e' => e (G.inj p q hp hq e').symm

theorem Rg.closed_set {listed : Array Bool} (hs : listed.size = ops.size) (hc : G.Closed listed) {p : Nat} (hp : p < ops.size) (hr : G.I p ∈ Region.ready .any ops listed) : G.Closed (listed.setIfInBounds (G.I p) true) := by
  intro q t hq ht h1 h2
  rw [G.L_set hs hp _ hq] at h1
  rw [G.L_set hs hp _ ht]
  split
  · rfl
  · split at h1
    · rename_i e; subst e; exact G.ready_hang hc hp hr ht h2
    · exact hc q t hq ht h1 h2

/-- The frame behind an operation. -/
theorem Rg.fr_set {listed : Array Bool} (hs : listed.size = ops.size) (hc : G.Closed listed) {p : Nat} (hp : p < ops.size) (hr : G.I p ∈ Region.ready .any ops listed) (hn : G.L listed p = false) {ι : Emb} {a : Act} {v' : Value}
    (hfr : FR ι (G.fr listed ops.size) a) (hsz : n ≤ a.tmps.size) (hv : VR ι (G.V p) v') : FR ι (G.fr (listed.setIfInBounds (G.I p) true) ops.size) (a.put (G.O p).dst v') := by
  have hput : FR ι (put (G.d p) (G.V p) (G.fr listed ops.size)) (a.put (G.O p).dst v') := by
    have hd := G.dst p hp
    cases h2 : (G.O p).dst with
    | none =>
      rw [h2] at hd
      have : G.d p = none := (Option.some.inj hd).symm
      rw [this]
      exact hfr
    | some t =>
      rw [h2] at hd
      obtain ⟨h3, h4⟩ := ite_none hd
      have : G.d p = some (toPa t) := h4.symm
      rw [this]
      exact hfr.put (Nat.lt_of_lt_of_le h3 hsz) hv
  intro t
  have := hput t
  have e : Tr.get un (G.fr (listed.setIfInBounds (G.I p) true) ops.size) (toPa t) = Tr.get un (put (G.d p) (G.V p) (G.fr listed ops.size)) (toPa t) := by
    rw [put_get]
    by_cases hd : G.d p = some (toPa t)
    · rw [if_pos hd]
      have hdst : (G.O p).dst = some t := by
        have h1 := G.dst p hp
        have hd : (G.X p).1.d = some (toPa t) := hd
        rw [hd] at h1
        cases h2 : (G.O p).dst with
        | none => rw [h2] at h1; cases h1
        | some t' =>
          rw [h2] at h1
          obtain ⟨_, h3⟩ := ite_none h1
          rw [toPa_inj (Option.some.inj h3)]
      obtain ⟨later, _⟩ := G.slot hc hp hr hn (.inl hdst)
      have h1 : Tr.get un (G.fr (listed.setIfInBounds (G.I p) true) ops.size) (toPa t) = Tr.get un (G.fr (listed.setIfInBounds (G.I p) true) (p + 1)) (toPa t) := by
        have := frL_cut (L := G.L (listed.setIfInBounds (G.I p) true)) (d := G.d) (V := G.V) (fr0 := (G.S 0).fr) (q := toPa t) (m := p + 1) (ops.size - (p + 1)) (fun q h1 h2 h3 => by
          rw [G.L_set hs hp q (by omega), if_neg (by omega)]
          exact later q (by omega) (by omega) h3)
        rw [show p + 1 + (ops.size - (p + 1)) = ops.size by omega] at this
        exact this
      rw [h1]
      show Tr.get un (Bool.casesOn (G.L (listed.setIfInBounds (G.I p) true) p) (G.fr _ p) (put (G.d p) (G.V p) (G.fr _ p))) (toPa t) = _
      rw [G.L_set hs hp p hp, if_pos rfl]
      show Tr.get un (put (G.d p) (G.V p) (G.fr _ p)) (toPa t) = _
      rw [put_get, if_pos hd]
    · rw [if_neg hd]
      refine frL_congr _ fun q hq e => ?_
      rw [G.L_set hs hp q hq, if_neg (fun e' => hd (by rw [← e']; exact e))]
  rw [e]; exact this
end
end Go.Vai

/- VAI, part b: a region that draws: what holds whatever was done first. -/
namespace Go.Vai
section
variable {P : Program} {call : Call1} {n : Nat} {ops : Array Oper} (G : Rg P call n ops)

/-- A place whose block is there, and not yet in the one run's memory. -/
def Rg.wait (listed : Array Bool) (T p : Nat) : Prop := T ≤ p ∧ p < ops.size ∧ G.L listed p = true ∧ (G.X p).2.cls = 2 ∧ G.W p = true
def Rg.prD (pr : Pr) (listed : Array Bool) (T : Nat) (blk : Nat → Nat) : Pr :=
  ⟨pr.soft, fun b => pr.hard b ∨ ∃ p, G.wait listed T p ∧ blk p = b, fun x => pr.res x ∨ ∃ p, p < ops.size ∧ (G.X p).2.cls = 2 ∧ G.L listed p = false ∧ G.id p = x, pr.ds⟩

structure Rg.Inv (pr : Pr) (ι0 : Emb) (w0 : World) (listed : Array Bool) (T : Nat) (blk : Nat → Nat) (ι : Emb) (a : Act) (w : World) : Prop where
  size : listed.size = ops.size
  closed : G.Closed listed
  tle : T ≤ ops.size
  bound : T = 0 ∨ ∃ q, T = q + 1 ∧ (G.X q).2.cls = 3
  pre : ∀ p, p < T → G.L listed p = true
  nohv : ∀ p, T ≤ p → p < ops.size → (G.X p).2.cls = 3 → G.L listed p = false
  fr : FR ι (G.fr listed ops.size) a
  sz : n ≤ a.tmps.size
  nd : a.defers = pr.ds
  pend : ∀ p, G.wait listed T p → ∃ e l f, mkK (G.X p).1.o (G.S p).fr mkPair = some (e, l, f) ∧ Pend ι w.heap pr (G.id p) l e (blk p)
  inj : ∀ p q, G.wait listed T p → G.wait listed T q → blk p = blk q → p = q
  rel : Rel (G.prD pr listed T blk) P.globals.size ι (G.S T).H w.heap
  ext : Ext ι0 ι
  frm : Fr pr w0 w

theorem Rg.prD_pr (pr : Pr) (listed : Array Bool) (T : Nat) (blk : Nat → Nat) (b : Nat) (h : pr b) : G.prD pr listed T blk b := by
  rcases h with h | h
  · exact .inl h
  · exact .inr (.inl h)

/-- Where the operation of a place stands. -/
theorem Rg.Inv.at_ {G : Rg P call n ops} {pr : Pr} {ι0 ι : Emb} {w0 w : World} {listed : Array Bool} {T : Nat} {blk : Nat → Nat} {a : Act} (h : G.Inv pr ι0 w0 listed T blk ι a w) : At P (G.prD pr listed T blk) n ι (G.S T).H (G.fr listed ops.size) a w :=
  ⟨⟨h.rel, h.fr⟩, h.sz, h.nd⟩

theorem Rg.op_slots {listed : Array Bool} (hc : G.Closed listed) {p : Nat} (hp : p < ops.size) (hr : G.I p ∈ Region.ready .any ops listed) (hn : G.L listed p = false) :
    (∀ x ∈ (G.X p).1.o.opds, ev (G.fr listed ops.size) x = ev (G.S p).fr x) ∧ wantB (G.X p).1.g (G.fr listed ops.size) = wantB (G.X p).1.g (G.S p).fr := by
  refine ⟨fun x hx => ?_, ?_⟩
  · cases x with
    | c v => rfl
    | t pa =>
      obtain ⟨t, ht, e⟩ := G.looks p _ hp hx pa rfl
      subst e
      exact (G.slot hc hp hr hn (.inr ht)).2
  · rcases G.guard p hp with ⟨_, h2⟩ | ⟨j, want, t, h1, h2, h3, h4⟩
    · rw [h2]; rfl
    · rw [h4]
      refine wantB_congr ?_
      refine (G.slot hc hp hr hn (.inr ?_)).2
      unfold Oper.looksAt
      rw [h1]
      refine List.mem_append_right _ ?_
      show t ∈ ((ops[j]?).bind (·.dst)).toList
      rw [h2]; simp

/-- Is it wanted? As in the one run. -/
theorem Rg.Inv.wanted {G : Rg P call n ops} {pr : Pr} {ι0 ι : Emb} {w0 w : World} {listed : Array Bool} {T : Nat} {blk : Nat → Nat} {a : Act} (h : G.Inv pr ι0 w0 listed T blk ι a w) {p : Nat} (hp : p < ops.size)
    (hr : G.I p ∈ Region.ready .any ops listed) (hn : G.L listed p = false) : Region.wanted (G.O p) (yielded ops a.tmps) = G.W p := by
  have h1 : wantB (G.X p).1.g (G.fr listed ops.size) = some (G.W p) := by rw [(G.op_slots h.closed hp hr hn).2]; exact (G.step p hp).want
  have h2 : wantK (G.X p).1.g (G.fr listed ops.size) some = some (G.W p) := h1
  have := want_ok (ops := ops) h.at_ (G.guard p hp) h2
  exact Option.some.inj this

theorem Rg.Inv.place {G : Rg P call n ops} {pr : Pr} {ι0 ι : Emb} {w0 w : World} {listed : Array Bool} {T : Nat} {blk : Nat → Nat} {a : Act} (h : G.Inv pr ι0 w0 listed T blk ι a w) {p : Nat} (hn : G.L listed p = false) : T ≤ p := by
  rcases Nat.lt_or_ge p T with g | g
  · rw [h.pre p g] at hn; cases hn
  · exact g

theorem Rg.wait_set {listed : Array Bool} (hs : listed.size = ops.size) {p : Nat} (hp : p < ops.size) {T q : Nat} (hno : ¬ ((G.X p).2.cls = 2 ∧ G.W p = true)) : G.wait (listed.setIfInBounds (G.I p) true) T q ↔ G.wait listed T q := by
  unfold Rg.wait
  constructor
  · rintro ⟨h1, h2, h3, h4, h5⟩
    rw [G.L_set hs hp q h2] at h3
    by_cases e : q = p
    · subst e; exact (hno ⟨h4, h5⟩).elim
    · rw [if_neg e] at h3; exact ⟨h1, h2, h3, h4, h5⟩
  · rintro ⟨h1, h2, h3, h4, h5⟩
    refine ⟨h1, h2, ?_, h4, h5⟩
    rw [G.L_set hs hp q h2]
    split
    · rfl
    · exact h3

/-- An operation that leaves memory as it was. -/
theorem Rg.Inv.light {G : Rg P call n ops} {pr : Pr} {ι0 ι : Emb} {w0 w : World} {listed : Array Bool} {T : Nat} {blk : Nat → Nat} {a : Act} (h : G.Inv pr ι0 w0 listed T blk ι a w) {p : Nat} (hp : p < ops.size)
    (hr : G.I p ∈ Region.ready .any ops listed) (hn : G.L listed p = false) (hno : ¬ ((G.X p).2.cls = 2 ∧ G.W p = true)) (h3 : (G.X p).2.cls ≠ 3) {v' : Value} (hv : VR ι (G.V p) v') :
    G.Inv pr ι0 w0 (listed.setIfInBounds (G.I p) true) T blk ι (a.put (G.O p).dst v') w := by
  have hw : ∀ q, G.wait (listed.setIfInBounds (G.I p) true) T q ↔ G.wait listed T q := fun q => G.wait_set h.size hp hno
  refine ⟨by rw [Array.size_setIfInBounds]; exact h.size, G.closed_set h.size h.closed hp hr, h.tle, h.bound, fun q hq => ?_, fun q h1 h2 h4 => ?_, G.fr_set h.size h.closed hp hr hn h.fr h.sz hv, ?_, ?_, fun q hq => h.pend q ((hw q).mp hq), fun q t hq ht => h.inj q t ((hw q).mp hq) ((hw t).mp ht), ?_, h.ext, h.frm⟩
  · rw [G.L_set h.size hp q (Nat.lt_of_lt_of_le hq h.tle)]
    split
    · rfl
    · exact h.pre q hq
  · rw [G.L_set h.size hp q h2]
    split
    · rename_i e; subst e; exact (h3 h4).elim
    · exact h.nohv q h1 h2 h4
  · cases hd : (G.O p).dst with
    | none => exact h.sz
    | some d => show n ≤ (a.tmps.setIfInBounds d v').size; rw [Array.size_setIfInBounds]; exact h.sz
  · cases hd : (G.O p).dst with
    | none => exact h.nd
    | some d => exact h.nd
  · refine h.rel.weaken ?_ ?_ ?_
    · rintro b (q | q | ⟨q, h1, h2⟩)
      · exact .inl q
      · exact .inr (.inl q)
      · exact .inr (.inr ⟨q, (hw q).mp h1, h2⟩)
    · rintro b (q | ⟨q, h1, h2⟩)
      · exact .inl q
      · exact .inr ⟨q, (hw q).mp h1, h2⟩
    · rintro x (q | ⟨q, h1, h2, h4, h5⟩)
      · exact .inl q
      · refine .inr ⟨q, h1, h2, ?_, h5⟩
        rw [G.L_set h.size hp q h1] at h4
        split at h4
        · cases h4
        · exact h4

/-- The ids are kept apart. -/
structure Rg.Ids (pr : Pr) : Prop where
  inj : ∀ p q, p < ops.size → q < ops.size → (G.X p).2.cls = 2 → (G.X q).2.cls = 2 → G.id p = G.id q → p = q
  out : ∀ p, p < ops.size → (G.X p).2.cls = 2 → ¬ pr.res (G.id p)

/-- An operation that makes a block: it waits. -/
theorem Rg.Inv.make {G : Rg P call n ops} {pr : Pr} {ι0 ι : Emb} {w0 w : World} {listed : Array Bool} {T : Nat} {blk : Nat → Nat} {a : Act} (h : G.Inv pr ι0 w0 listed T blk ι a w) (hid : G.Ids pr) {p : Nat} (hp : p < ops.size)
    (hr : G.I p ∈ Region.ready .any ops listed) (hn : G.L listed p = false) (h2 : (G.X p).2.cls = 2) (hw : G.W p = true) {e : Nat} {l : List AV} {f : Pa → AV} (hmk : mkK (G.X p).1.o (G.S p).fr mkPair = some (e, l, f)) (hV : G.V p = f (G.id p))
    {cs : Array Value} {v' : Value} (hcs : cs.size = l.length) (hvs : VRs ι l cs.toList) (hv : ∀ (ι' : Emb) (id : Pa), ι' id = some ⟨w.heap.size, 0, l.length, l.length⟩ → VR ι' (f id) v') :
    G.Inv pr ι0 w0 (listed.setIfInBounds (G.I p) true) T (fun q => if q = p then w.heap.size else blk q) (ι.add (G.id p) ⟨w.heap.size, 0, l.length, l.length⟩) (a.put (G.O p).dst v') (w.alloc (.cells cs e)) := by
  have hres : (G.prD pr listed T blk).res (G.id p) := .inr ⟨p, hp, h2, hn, rfl⟩
  obtain ⟨hnone, hlt⟩ := h.rel.resv _ hres
  have hext := Ext.add (ι := ι) ⟨w.heap.size, 0, l.length, l.length⟩ hnone
  have hTp := h.place hn
  have hnot : ∀ q, G.wait listed T q → q ≠ p := fun q hq e => by subst e; obtain ⟨_, _, h5, _⟩ := hq; rw [hn] at h5; cases h5
  have hwait : ∀ q, G.wait (listed.setIfInBounds (G.I p) true) T q → q = p ∨ G.wait listed T q := by
    rintro q ⟨q1, q2, q3, q4, q5⟩
    rw [G.L_set h.size hp q q2] at q3
    by_cases e : q = p
    · exact .inl e
    · rw [if_neg e] at q3; exact .inr ⟨q1, q2, q3, q4, q5⟩
  have hblk : ∀ q, G.wait listed T q → blk q < w.heap.size := fun q hq => h.rel.prot _ (.inr (.inr ⟨q, hq, rfl⟩))
  have hnpr : ¬ pr w.heap.size := fun q => h.rel.notProt (G.prD_pr pr listed T blk _ q)
  refine ⟨by rw [Array.size_setIfInBounds]; exact h.size, G.closed_set h.size h.closed hp hr, h.tle, h.bound, fun q hq => ?_, fun q q1 q2 q4 => ?_, G.fr_set h.size h.closed hp hr hn (h.fr.mono hext) h.sz (by rw [hV]; exact hv _ _ (Emb.add_same _ _ _)), ?_, ?_, fun q hq => ?_, fun q t hq ht => ?_, ?_, h.ext.trans hext, h.frm.trans ?_⟩
  · rw [G.L_set h.size hp q (Nat.lt_of_lt_of_le hq h.tle)]
    split
    · rfl
    · exact h.pre q hq
  · rw [G.L_set h.size hp q q2]
    split
    · rename_i e'; subst e'; rw [h2] at q4; cases q4
    · exact h.nohv q q1 q2 q4
  · cases hd : (G.O p).dst with
    | none => exact h.sz
    | some d => show n ≤ (a.tmps.setIfInBounds d v').size; rw [Array.size_setIfInBounds]; exact h.sz
  · cases hd : (G.O p).dst with
    | none => exact h.nd
    | some d => exact h.nd
  · rcases hwait q hq with e' | hq'
    · subst e'
      refine ⟨e, l, f, hmk, by rw [if_pos rfl]; exact Emb.add_same _ _ _, ⟨cs, ?_, hcs, VRs_mono hext _ _ hvs⟩, fun q => ?_, fun q => ?_⟩
      · rw [if_pos rfl]; show (w.heap.push _)[w.heap.size]? = _; simp
      · rw [if_pos rfl] at q; exact hnpr (.inl q)
      · rw [if_pos rfl] at q; exact hnpr (.inr q)
    · obtain ⟨e1, l1, f1, hm1, hp1⟩ := h.pend q hq'
      refine ⟨e1, l1, f1, hm1, ?_⟩
      rw [if_neg (hnot q hq')]
      refine hp1.mono hext ?_
      show (w.heap.push _)[blk q]? = _
      have := hblk q hq'
      simp [Array.getElem?_push, Nat.ne_of_lt this]
  · intro e'
    rcases hwait q hq with e1 | hq' <;> rcases hwait t ht with e2 | ht'
    · rw [e1, e2]
    · subst e1
      simp only [if_pos, if_neg (hnot t ht')] at e'
      have := hblk t ht'; omega
    · subst e2
      simp only [if_pos, if_neg (hnot q hq')] at e'
      have := hblk q hq'; omega
    · simp only [if_neg (hnot q hq'), if_neg (hnot t ht')] at e'
      exact h.inj q t hq' ht' e'
  · refine h.rel.pend hnone hlt _ _ _ rfl ?_ ?_
    · rintro b (q | ⟨q, q1, q2⟩)
      · exact .inl (.inl q)
      · rcases hwait q q1 with e1 | q1'
        · subst e1; simp only [if_pos] at q2; exact .inr q2.symm
        · simp only [if_neg (hnot q q1')] at q2; exact .inl (.inr ⟨q, q1', q2⟩)
    · rintro x (q | ⟨q, q1, q2, q3, q4⟩)
      · refine ⟨.inl q, fun e' => ?_⟩
        subst e'; exact hid.out p hp h2 q
      · rw [G.L_set h.size hp q q1] at q3
        split at q3
        · cases q3
        · rename_i hqp
          exact ⟨.inr ⟨q, q1, q2, q3, q4⟩, fun e' => hqp (hid.inj q p q1 hp q2 h2 (q4.trans e'))⟩
  · exact Fr.pushed h.rel _ |>.weaken (fun b hb => G.prD_pr pr listed T blk b hb) |> fun F => ⟨rfl, rfl, rfl, F.size, F.keep⟩
end
end Go.Vai

/- VAI, part c: a region that draws: what does more; the end; all orders. -/
namespace Go.Vai
section
variable {P : Program} {call : Call1} {n : Nat} {ops : Array Oper}

/-- The one run's memory further on, where all that stands between is done. -/
theorem Rg.Inv.open_ {G : Rg P call n ops} {pr : Pr} {ι0 ι : Emb} {w0 w : World} {listed : Array Bool} {T : Nat} {blk : Nat → Nat} {a : Act} (h : G.Inv pr ι0 w0 listed T blk ι a w) :
    ∀ k, T + k ≤ ops.size → (∀ q, T ≤ q → q < T + k → G.L listed q = true) → Rel (G.prD pr listed (T + k) blk) P.globals.size ι (G.S (T + k)).H w.heap
  | 0, _, _ => h.rel
  | k + 1, hk, hl => by
    have R := h.open_ k (by omega) fun q h1 h2 => hl q h1 (by omega)
    have hm : T + k < ops.size := by omega
    have hL : G.L listed (T + k) = true := hl _ (by omega) (by omega)
    have h3 : (G.X (T + k)).2.cls ≠ 3 := fun e => by have := h.nohv (T + k) (by omega) hm e; rw [hL] at this; cases this
    have hst := G.step (T + k) hm
    have hc3 := G.cls3 (T + k) hm
    have up : ∀ q, G.wait listed (T + (k + 1)) q → G.wait listed (T + k) q := fun q ⟨q1, q2⟩ => ⟨by omega, q2⟩
    have stay : (G.S (T + (k + 1))).H = (G.S (T + k)).H → Rel (G.prD pr listed (T + (k + 1)) blk) P.globals.size ι (G.S (T + (k + 1))).H w.heap := by
      intro e
      rw [e]
      refine R.weaken ?_ ?_ fun _ q => q
      · rintro b (q | q | ⟨q, q1, q2⟩)
        · exact .inl q
        · exact .inr (.inl q)
        · exact .inr (.inr ⟨q, up q q1, q2⟩)
      · rintro b (q | ⟨q, q1, q2⟩)
        · exact .inl q
        · exact .inr ⟨q, up q q1, q2⟩
    by_cases h2 : (G.X (T + k)).2.cls = 2
    · cases hw : G.W (T + k) with
      | false => exact stay (hst.no hw).2
      | true =>
        have hwait : G.wait listed (T + k) (T + k) := ⟨Nat.le_refl _, hm, hL, h2, hw⟩
        have hwaitT : G.wait listed T (T + k) := ⟨by omega, hm, hL, h2, hw⟩
        obtain ⟨id, e, l, f, m1, m2, m3, m4⟩ := hst.make hw h2
        obtain ⟨e', l', f', m1', hp⟩ := h.pend _ hwaitT
        rw [m1] at m1'; cases m1'
        have hid : G.id (T + k) = id := by unfold Rg.id; rw [m2]; rfl
        have e1 : (G.S (T + (k + 1))).H = (G.S (T + k)).H.put (G.id (T + k)) (.cells false 0 e l.length (setCells l 0 .leaf)) := by rw [hid]; exact m4
        rw [e1]
        refine R.open_ hp (.inr ⟨_, hwait, rfl⟩) rfl rfl ?_ fun _ q => q
        rintro b (q | ⟨q, q1, q2⟩)
        · exact ⟨.inl q, fun e' => hp.hard (by rw [← e']; exact q)⟩
        · refine ⟨.inr ⟨q, up q q1, q2⟩, fun e' => ?_⟩
          have hq1 := q1.1
          have := h.inj q (T + k) ⟨by omega, q1.2⟩ hwaitT (q2.trans e')
          omega
    · exact stay (hst.light (by omega)).1

/-- An operation of class 3. -/
theorem Rg.Inv.heavy {G : Rg P call n ops} {pr : Pr} {ι0 ι ι' : Emb} {w0 w w' : World} {listed : Array Bool} {T : Nat} {blk : Nat → Nat} {a : Act} (h : G.Inv pr ι0 w0 listed T blk ι a w) {p : Nat} (hp : p < ops.size)
    (hr : G.I p ∈ Region.ready .any ops listed) (hn : G.L listed p = false) (h3 : (G.X p).2.cls = 3) {v' : Value} (hext : Ext ι ι') (hrel : Rel (G.prD pr listed p blk) P.globals.size ι' (G.S (p + 1)).H w'.heap) (hfr : Fr (G.prD pr listed p blk) w w') (hv : VR ι' (G.V p) v') :
    G.Inv pr ι0 w0 (listed.setIfInBounds (G.I p) true) (p + 1) blk ι' (a.put (G.O p).dst v') w' := by
  have hTp := h.place hn
  have hall : ∀ q, q < p → G.L listed q = true := fun q hq => G.ready_hang h.closed hp hr (by omega) (G.heavy p q hp hq h3)
  have hwait : ∀ q, G.wait (listed.setIfInBounds (G.I p) true) (p + 1) q → G.wait listed p q := by
    rintro q ⟨q1, q2, q3, q4, q5⟩
    rw [G.L_set h.size hp q q2, if_neg (by omega)] at q3
    exact ⟨by omega, q2, q3, q4, q5⟩
  have toT : ∀ q, G.wait listed p q → G.wait listed T q := fun q ⟨q1, q2⟩ => ⟨by omega, q2⟩
  refine ⟨by rw [Array.size_setIfInBounds]; exact h.size, G.closed_set h.size h.closed hp hr, by omega, .inr ⟨p, rfl, h3⟩, fun q hq => ?_, fun q q1 q2 q4 => ?_, G.fr_set h.size h.closed hp hr hn (h.fr.mono hext) h.sz hv, ?_, ?_, fun q hq => ?_, fun q t hq ht => h.inj q t (toT q (hwait q hq)) (toT t (hwait t ht)), ?_, h.ext.trans hext, h.frm.trans (hfr.weaken fun b hb => G.prD_pr pr listed p blk b hb)⟩
  · rw [G.L_set h.size hp q (by omega)]
    by_cases e : q = p
    · rw [if_pos e]
    · rw [if_neg e]; exact hall q (by omega)
  · rw [G.L_set h.size hp q q2, if_neg (by omega)]
    exact h.nohv q (by omega) q2 q4
  · cases hd : (G.O p).dst with
    | none => exact h.sz
    | some d => show n ≤ (a.tmps.setIfInBounds d v').size; rw [Array.size_setIfInBounds]; exact h.sz
  · cases hd : (G.O p).dst with
    | none => exact h.nd
    | some d => exact h.nd
  · obtain ⟨e, l, f, m1, hpd⟩ := h.pend q (toT q (hwait q hq))
    exact ⟨e, l, f, m1, hpd.mono hext (hfr.keep _ (.inr (.inr ⟨q, hwait q hq, rfl⟩)))⟩
  · refine hrel.weaken ?_ ?_ ?_
    · rintro b (q | q | ⟨q, q1, q2⟩)
      · exact .inl q
      · exact .inr (.inl q)
      · exact .inr (.inr ⟨q, hwait q q1, q2⟩)
    · rintro b (q | ⟨q, q1, q2⟩)
      · exact .inl q
      · exact .inr ⟨q, hwait q q1, q2⟩
    · rintro x (q | ⟨q, q1, q2, q3, q4⟩)
      · exact .inl q
      · refine .inr ⟨q, q1, q2, ?_, q4⟩
        rw [G.L_set h.size hp q q1] at q3
        split at q3
        · cases q3
        · exact q3
end
end Go.Vai

/- VAI, part d: the operations that turn no memory: what they leave. -/
namespace Go.Vai
section
variable {R : Type} {P : Program} {pr : Pr} {ng : Nat} {ι : Emb} {H : Heap} {fr : Tr AV} {a : Act} {w : World}
variable {k : HK R} {r : R} {call : CallK R}

theorem PureOK.simL {o : Oper} {s : Sem Value} (C : Ctx P pr ι H fr a w) (h : PureOK P ι w H k r s) (he : execOp a.eval o = (do pure (.value (← s)) : Sem Next)) : ∃ v, k v H = some r ∧ Sim P pr ι o a w v H := by
  obtain ⟨v, h1, h2⟩ := h.does C
  exact ⟨v, h1, h2.sim he⟩

theorem conv_light {s d : TypeId} {x : Operand} {x' : Opd} {q : AOp} (hc : compConv P s d x' = some q) (C : Ctx P pr ι H fr a w) (hx : compOpd P x = some x') (hcl : clsOf q ≤ 1) (h : xopK q call fr H k = some r) : PureOK P ι w H k r (convert s d (a.eval x)) := by
  unfold compConv at hc
  split at hc
  · rename_i h1 h2; cases hc; exact (ok_cvi (call := call) h1 h2 C hx h)
  · rename_i h1 h2; cases hc; exact (ok_i2s (call := call) h1 h2 C hx h)
  · rename_i h1 h2; cases hc; exact (ok_cvs (call := call) h1 h2 C hx h)
  · rename_i h1 h2
    split at hc
    · rename_i h3 h4; cases hc; exact absurd hcl (by simp [clsOf])
    · rename_i h3 h4; cases hc; exact absurd hcl (by simp [clsOf])
    · cases hc
  · rename_i h1 h2
    split at hc
    · rename_i h3 h4; cases hc; exact (ok_b2s (call := call) h1 h2 h3 C hx h)
    · rename_i h3 h4; cases hc; exact (ok_r2s (call := call) h1 h2 h3 C hx h)
    · cases hc
  · rename_i h1 h2
    split at hc
    · rename_i h3; cases hc; exact (ok_p2u (call := call) h1 h2 h3 C hx h)
    · cases hc
  · rename_i h1 h2
    split at hc
    · rename_i h3
      obtain ⟨h4, h5⟩ := ite_none'' hc
      cases h5
      exact (ok_u2p (call := call) h1 h2 h3 h4 C hx h)
    · cases hc
  · rename_i h1 h2
    split at hc
    · rename_i h3
      obtain ⟨h4, h5⟩ := ite_none hc
      subst h5
      exact absurd hcl (by simp [clsOf])
    · cases hc
  · cases hc

theorem not_call_light {o : Oper} {q : AOp} (hn : ∀ c, o.op ≠ .call c) (hc : compOp P o = some q) (C : Ctx P pr ι H fr a w) (hcl : clsOf q ≤ 1) (h : xopK q call fr H k = some r) : ∃ v, k v H = some r ∧ Sim P pr ι o a w v H := by
  unfold compOp at hc
  split at hc
  · rename_i x ho
    obtain ⟨x', hx, e⟩ := map_some hc; subst e
    exact (ok_mv (call := call) C hx h).simL C (by unfold execOp; rw [ho]; rfl)
  · rename_i x ho
    obtain ⟨x', hx, e⟩ := map_some hc; subst e
    exact (ok_mv (call := call) C hx h).simL C (by unfold execOp; rw [ho]; rfl)
  · rename_i c x y ho
    obtain ⟨c', hcc, hc⟩ := bind_some hc
    obtain ⟨x', hx, hc⟩ := bind_some hc
    obtain ⟨y', hy, e⟩ := map_some hc; subst e
    exact (ok_pick (call := call) C hcc hx hy h).simL C (by unfold execOp; rw [ho]; simp)
  · rename_i e ho
    obtain ⟨zs, hz, e'⟩ := map_some hc; subst e'
    exact absurd hcl (by simp [clsOf])
  · rename_i e x ho
    obtain ⟨x', hx, e'⟩ := map_some hc; subst e'
    exact absurd hcl (by simp [clsOf])
  · rename_i t ps ho
    split at hc
    · rename_i fs ht
      obtain ⟨hall, hc⟩ := ite_none' hc
      obtain ⟨zs, hz, hc⟩ := bind_some hc
      obtain ⟨ps', hp, e⟩ := map_some hc; subst e
      exact (ok_buildS (call := call) ht hz hp hall C h).simL C (by unfold execOp; rw [ho])
    · rename_i m el ht
      obtain ⟨zs, hz, hc⟩ := bind_some hc
      obtain ⟨n, hn', hc⟩ := bind_some hc
      obtain ⟨ps', hp, e⟩ := map_some hc; subst e
      exact (ok_buildA (call := call) ht hz hn' hp C h).simL C (by unfold execOp; rw [ho])
    · cases hc
  · rename_i t len ps ho
    split at hc
    · rename_i el ht
      split at hc
      · rename_i zs n hz hn'
        obtain ⟨⟨hlim, hzl⟩, hc⟩ := ite_none' hc
        obtain ⟨ps', hp, e⟩ := map_some hc; subst e
        exact absurd hcl (by simp [clsOf])
      · cases hc
    · cases hc
  · rename_i t x ho
    obtain ⟨x', hx, hc⟩ := bind_some hc
    obtain ⟨g, hg, hc⟩ := bind_some hc
    obtain ⟨n, hn', hc⟩ := bind_some hc
    obtain ⟨hgn, e⟩ := ite_none hc
    subst e
    exact (ok_ld (call := call) hg hn' (by simpa using hgn) C hx h).simL C (by unfold execOp; rw [ho])
  · rename_i t x y ho
    obtain ⟨x', hx, hc⟩ := bind_some hc
    obtain ⟨y', hy, hc⟩ := bind_some hc
    obtain ⟨n, hn', e⟩ := map_some hc; subst e
    exact absurd hcl (by simp [clsOf])
  · rename_i x ho
    obtain ⟨x', hx, e⟩ := map_some hc; subst e
    obtain ⟨v, h1, v', h2, h3⟩ := ok_nilck (call := call) C hx h ho
    refine ⟨v, h1, fun next Q hk => ?_⟩
    unfold Oper.wp
    rw [h3]
    exact hk ι v' w (Ext.refl _) C.rel (Fr.refl _ _) h2
  · rename_i op t x y c ho
    obtain ⟨x', hx, hc⟩ := bind_some hc
    obtain ⟨y', hy, e⟩ := map_some hc; subst e
    exact (ok_bin (call := call) C hx hy h).simL C (by unfold execOp; rw [ho])
  · rename_i op t x ho
    obtain ⟨x', hx, hc⟩ := bind_some hc
    split at hc
    · cases hc; exact (ok_not (call := call) C hx h).simL C (by unfold execOp; rw [ho])
    · cases hc; exact (ok_neg (call := call) C hx h).simL C (by unfold execOp; rw [ho])
    · cases hc; exact (ok_cpl (call := call) C hx h).simL C (by unfold execOp; rw [ho])
    · cases hc
  · rename_i s d x ho
    obtain ⟨x', hx, hc⟩ := bind_some hc
    exact (conv_light hc C hx hcl h).simL C (by unfold execOp; rw [ho])
  · rename_i t x ho
    split at hc
    · cases hc
    · rename_i d hnd ht
      obtain ⟨x', hx, e⟩ := map_some hc; subst e
      exact (ok_mkif (call := call) ht (fun ms e => hnd ms e) C hx h).simL C (by unfold execOp; rw [ho])
    · cases hc
  · rename_i f first caps ho
    obtain ⟨first', h1, hc⟩ := bind_some hc
    obtain ⟨caps', h2, e⟩ := map_some hc; subst e
    exact (ok_mkfn (call := call) C h1 h2 h).simL C (by unfold execOp; rw [ho])
  · rename_i t l c ho
    split at hc
    · rename_i el ht
      split at hc
      · rename_i zs n b hz hn' hb
        obtain ⟨hzl, hc⟩ := ite_none' hc
        obtain ⟨l', hl, hc⟩ := bind_some hc
        obtain ⟨c', hcc, e⟩ := map_some hc; subst e
        exact absurd hcl (by simp [clsOf])
      · cases hc
    · cases hc
  · rename_i t x lo hi mx ho
    obtain ⟨hmh, hc⟩ := ite_none'' hc
    have hmh : mx = none ∨ hi ≠ none := by
      cases mx <;> cases hi <;> simp at hmh ⊢
    obtain ⟨x', hx, hc⟩ := bind_some hc
    obtain ⟨lo', hlo, hc⟩ := bind_some hc
    obtain ⟨hi', hhi, hc⟩ := bind_some hc
    obtain ⟨mx', hmx, hc⟩ := bind_some hc
    split at hc
    · rename_i n el ht
      split at hc
      · rename_i m hm; cases hc; exact (ok_sla (call := call) ht hm hmh C hx hlo hhi hmx h).simL C (by unfold execOp; rw [ho])
      · cases hc
    · rename_i ht
      split at hc
      · cases hc
        have hmn := mapOpdo hmx rfl
        subst hmn
        exact (ok_sls (call := call) ht C hx hlo hhi h).simL C (by unfold execOp; rw [ho]; rfl)
      · cases hc
    · rename_i el ht
      split at hc
      · rename_i m hm; cases hc; exact (ok_sll (call := call) ht hm hmh C hx hlo hhi hmx h).simL C (by unfold execOp; rw [ho])
      · cases hc
    · cases hc
  · rename_i s x f ho
    split at hc
    · rename_i fs hs
      split at hc
      · rename_i fd hf
        split at hc
        · rename_i n hn'
          obtain ⟨x', hx, e⟩ := map_some hc; subst e
          exact (ok_fa (call := call) hs hf hn' C hx h).simL C (by unfold execOp; rw [ho])
        · cases hc
      · cases hc
    · cases hc
  · rename_i t x f ho
    split at hc
    · rename_i fs ht
      split at hc
      · rename_i fd hf
        obtain ⟨g, hg, hc⟩ := bind_some hc
        obtain ⟨n, hn', hc⟩ := bind_some hc
        obtain ⟨x', hx, e⟩ := map_some hc; subst e
        exact (ok_fld (call := call) ht hf hg hn' C hx h).simL C (by unfold execOp; rw [ho])
      · cases hc
    · cases hc
  · rename_i t x i ho
    obtain ⟨x', hx, hc⟩ := bind_some hc
    obtain ⟨i', hi, hc⟩ := bind_some hc
    split at hc
    · rename_i n el ht
      obtain ⟨m, hm, e⟩ := map_some hc; subst e
      exact (ok_ixp (call := call) ht hm C hx hi h).simL C (by unfold execOp; rw [ho])
    · rename_i el ht
      obtain ⟨m, hm, e⟩ := map_some hc; subst e
      exact (ok_ixa (call := call) ht hm C hx hi h).simL C (by unfold execOp; rw [ho])
    · cases hc
  · rename_i t x i ho
    obtain ⟨x', hx, hc⟩ := bind_some hc
    obtain ⟨i', hi, hc⟩ := bind_some hc
    split at hc
    · rename_i ht; cases hc; exact (ok_ixs (call := call) ht C hx hi h).simL C (by unfold execOp; rw [ho])
    · rename_i n el ht
      obtain ⟨g, hg, hc⟩ := bind_some hc
      obtain ⟨m, hm, e⟩ := map_some hc; subst e
      exact (ok_ixg (call := call) ht hg hm C hx hi h).simL C (by unfold execOp; rw [ho])
    · cases hc
  · rename_i t x ho
    split at hc
    · rename_i ht
      obtain ⟨x', hx, e⟩ := map_some hc; subst e
      exact absurd hcl (by simp [clsOf])
    · cases hc
  · rename_i x isS ho
    obtain ⟨e, hc⟩ := ite_none' hc
    subst e
    obtain ⟨x', hx, e⟩ := map_some hc; subst e
    exact absurd hcl (by simp [clsOf])
  · rename_i x xt t ok ho
    split at hc
    · cases hc
    · rename_i d hnd ht
      split at hc
      · rename_i z hz
        obtain ⟨zero, hzc, hc⟩ := bind_some hc
        obtain ⟨x', hx, e⟩ := map_some hc; subst e
        exact (ok_tas (call := call) ht (fun ms e => hnd ms e) hz hzc C hx h).simL C (by unfold execOp; rw [ho])
      · cases hc
    · cases hc
  · rename_i x n ho
    obtain ⟨x', hx, e⟩ := map_some hc; subst e
    exact (ok_ext (call := call) C hx h).simL C (by unfold execOp; rw [ho])
  · rename_i c ho
    exact (hn c ho).elim
  · cases hc
theorem call_light {o : Oper} {c : Call} {q : AOp} (ho : o.op = .call c) (hc : compCall P c = some q) (C : Ctx P pr ι H fr a w) (hcl : clsOf q ≤ 1) (h : xopK q call fr H k = some r) : ∃ v, k v H = some r ∧ Sim P pr ι o a w v H := by
  unfold compCall at hc
  split at hc
  · rename_i f hcv
    have hq := bind_some hc
    clear hc
    obtain ⟨args, hargs, hc⟩ := hq
    have ha := C.opds hargs
    split at hc
    · rename_i fn hf
      have hq := ite_none'' hc
      clear hc
      obtain ⟨hn, hc⟩ := hq
      split at hc
      · rename_i body hb
        cases hc
        exact absurd hcl (by simp [clsOf])
      · rename_i hb
        have hq := ite_none'' hc
        clear hc
        obtain ⟨hor, hc⟩ := hq
        have hor : fn.origin = "" := by simpa using hor
        split at hc
        · rename_i hname
          split at hc
          · rename_i x'
            cases hc
            obtain ⟨x, hx, hx'⟩ := one_arg hargs
            obtain ⟨v, h1, h2⟩ := (ok_mv (call := call) C hx' h).does C
            exact ⟨v, h1, extern_sim ho hcv hf hn hb (findNext_none (by rw [hname]; exact look_next1) hor) (find_noEscape hname) (by rw [hx, map_one]; exact h2)⟩
          · cases hc
        · split at hc
          · rename_i hname
            split at hc
            · rename_i n' t hrt
              split at hc
              · rename_i el ht
                cases hc
                have hrt := toList_one hrt
                obtain ⟨x, hx, hx'⟩ := one_arg hargs
                exact absurd hcl (by simp [clsOf])
              · cases hc
            · cases hc
          · split at hc
            · rename_i hname
              split at hc
              · rename_i x' y'
                cases hc
                obtain ⟨x, y, hxy, hx', hy'⟩ := two_args hargs
                obtain ⟨v, h1, h2⟩ := (ok_ixb (call := call) C hx' hy' h).does C
                exact ⟨v, h1, extern_sim ho hcv hf hn hb (findNext_none (by rw [hname]; exact look_next3) hor) (find_indexByte hname) (by rw [hxy, map_two]; exact h2)⟩
              · cases hc
            · cases hc
    · cases hc
  · rename_i f hnf hcv
    have hq := bind_some hc
    clear hc
    obtain ⟨f', hf', hc⟩ := hq
    obtain ⟨args, hargs, e⟩ := map_some hc; subst e
    have ha := C.opds hargs
    exact absurd hcl (by simp [clsOf])
  · rename_i recv name hcv
    have hq := bind_some hc
    clear hc
    obtain ⟨x', hx', hc⟩ := hq
    obtain ⟨args, hargs, e⟩ := map_some hc; subst e
    have ha := C.opds hargs
    exact absurd hcl (by simp [clsOf])
  · rename_i b hcv
    have hq := bind_some hc
    clear hc
    obtain ⟨args, hargs, hc⟩ := hq
    split at hc
    · rename_i x' t hat
      have hat := toList_one hat
      obtain ⟨x, hx, hx'⟩ := one_arg hargs
      split at hc
      · rename_i ht; cases hc
        exact ((ok_len (str := true) (t := t) (call := call) (ty := o.type) ht C hx' h).simL C (builtin_exec ho hcv (by rw [hat, hx, map_one]; rfl)))
      · rename_i el ht; cases hc
        exact ((ok_len (str := false) (t := t) (call := call) (ty := o.type) ⟨_, ht⟩ C hx' h).simL C (builtin_exec ho hcv (by rw [hat, hx, map_one]; rfl)))
      · rename_i n el ht; cases hc
        exact ((ok_lenc (fr := fr) (call := call) (ty := o.type) (v := a.eval x) (.inl ⟨_, ht⟩) h).simL C (builtin_exec ho hcv (by rw [hat, hx, map_one]; rfl)))
      · rename_i ar ht
        split at hc
        · rename_i n el hta; cases hc
          exact ((ok_lenc (fr := fr) (call := call) (ty := o.type) (v := a.eval x) (.inr ⟨_, _, ht, hta⟩) h).simL C (builtin_exec ho hcv (by rw [hat, hx, map_one]; rfl)))
        · cases hc
      · cases hc
    · rename_i x' t hat
      have hat := toList_one hat
      obtain ⟨x, hx, hx'⟩ := one_arg hargs
      split at hc
      · rename_i el ht; cases hc
        exact ((ok_cap (call := call) (ty := o.type) ht C hx' h).simL C (builtin_exec ho hcv (by rw [hat, hx, map_one]; rfl)))
      · cases hc
    · rename_i x' y' t u hat
      have hat := toList_two hat
      obtain ⟨x, y, hxy, hx', hy'⟩ := two_args hargs
      split at hc
      · cases hc
      · rename_i el du hnd ht hu
        split at hc
        · rename_i n bb zs hn hb hz
          have hq := ite_none hc
          clear hc
          obtain ⟨hzl, hc⟩ := hq
          subst hc
          exact absurd hcl (by simp [clsOf])
        · cases hc
      · cases hc
    · rename_i x' y' t u hat
      have hat := toList_two hat
      obtain ⟨x, y, hxy, hx', hy'⟩ := two_args hargs
      split at hc
      · rename_i el ht
        split at hc
        · rename_i n hn; cases hc
          exact absurd hcl (by simp [clsOf])
        · cases hc
      · cases hc
    · rename_i x' y' l hat; cases hc
      obtain ⟨x, y, hxy, hx', hy'⟩ := two_args hargs
      exact ((ok_mm (isMax := false) (call := call) (ts := c.argTypes) (ty := o.type) C hx' hy' h).simL C (builtin_exec ho hcv (by rw [hxy, map_two]; rfl)))
    · rename_i x' y' l hat; cases hc
      obtain ⟨x, y, hxy, hx', hy'⟩ := two_args hargs
      exact ((ok_mm (isMax := true) (call := call) (ts := c.argTypes) (ty := o.type) C hx' hy' h).simL C (builtin_exec ho hcv (by rw [hxy, map_two]; rfl)))
    · rename_i x' l hat; cases hc
      obtain ⟨x, hx, hx'⟩ := one_arg hargs
      exact ((ok_usd (call := call) (ts := c.argTypes) (ty := o.type) C hx' h).simL C (builtin_exec ho hcv (by rw [hx, map_one]; rfl)))
    · rename_i x' y' t u hat
      have hat := toList_two hat
      obtain ⟨x, y, hxy, hx', hy'⟩ := two_args hargs
      split at hc
      · rename_i el ht
        split at hc
        · rename_i he hn
          have hq := ite_none'' hc
          clear hc
          obtain ⟨h0, hc⟩ := hq
          cases hc
          exact absurd hcl (by simp [clsOf])
        · cases hc
      · cases hc
    · cases hc


/-- An operation that turns no memory. -/
theorem light_ok {o : Oper} {q : AOp} (hc : compOp P o = some q) (hcl : clsOf q ≤ 1) (C : Ctx P pr ι H fr a w) (h : xopK q call fr H k = some r) : ∃ v, k v H = some r ∧ Sim P pr ι o a w v H := by
  by_cases hn : ∃ c, o.op = .call c
  · obtain ⟨c, ho⟩ := hn
    have : compCall P c = some q := by unfold compOp at hc; rw [ho] at hc; exact hc
    exact call_light ho this C hcl h
  · exact not_call_light (fun c e => hn ⟨c, e⟩) hc C hcl h
end
end Go.Vai

/- VAI, part e: a region that draws: one step, whatever comes next; all orders; the end. -/
namespace Go.Vai
section
variable {R : Type} {P : Program} {pr pr2 : Pr} {ι : Emb} {H H2 : Heap} {fr : Tr AV} {a : Act} {w : World} {call : CallK R} {k : HK R} {r : R}
theorem ld_inv {o : Oper} {t : TypeId} {ad : Operand} (ho : o.op = .load t ad) {q : AOp} (hc : compOp P o = some q) : ∃ g n x, q = .ld g n x ∧ compOpd P ad = some x ∧ aggOf P t = some g ∧ szOf P t = some n ∧ (g = true ∨ n = 1) := by
  unfold compOp at hc; rw [ho] at hc
  obtain ⟨x', hx, hc⟩ := bind_some hc
  obtain ⟨g', hg, hc⟩ := bind_some hc
  obtain ⟨n', hn, hc⟩ := bind_some hc
  obtain ⟨hgn, hc⟩ := ite_none' hc
  cases hc
  exact ⟨g', n', x', rfl, hx, hg, hn, by simpa using hgn⟩
theorem ld_sim {o : Oper} {t : TypeId} {ad : Operand} (ho : o.op = .load t ad) {q : AOp} (hc : compOp P o = some q) (C : Ctx P pr ι H fr a w) (C2 : Ctx P pr2 ι H2 fr a w) (h : xopK q call fr H2 k = some r) : ∃ v, k v H2 = some r ∧ Sim P pr ι o a w v H := by
  obtain ⟨g, n, x, rfl, hx, hg, hn, hgn⟩ := ld_inv ho hc
  obtain ⟨v, h1, v', hv, hrun⟩ := ok_ld (call := call) hg hn hgn C2 hx h
  have hp : PureOK P ι w H (fun y _ => some y) v (Instr.loadAt t (a.eval ad)) := ⟨v, rfl, v', hv, hrun⟩
  obtain ⟨v2, e, hs⟩ := hp.simL C (by unfold execOp; rw [ho])
  cases e
  exact ⟨v, h1, hs⟩
theorem b2s_inv {o : Oper} {s d : TypeId} {x : Operand} (ho : o.op = .convert s d x) {q : AOp} (hc : compOp P o = some q) {fr' : Tr AV} {Gs : List Heap} (hq : homeOk q fr' Gs = true) :
    ∃ x' el, q = .b2s x' ∧ compOpd P x = some x' ∧ P.underlying s = some (.slice el) ∧ P.underlying d = some .string ∧ P.underlying el = some (.int .u8) := by
  unfold compOp at hc; rw [ho] at hc
  obtain ⟨x', hx, hc⟩ := bind_some hc
  unfold compConv at hc
  repeat' split at hc
  all_goals first
    | (cases hc; done)
    | (cases hc; exact ⟨x', _, rfl, hx, by assumption, by assumption, by assumption⟩)
    | (cases hc; cases hq; done)
theorem b2s_sim {o : Oper} {s d el : TypeId} {x : Operand} (ho : o.op = .convert s d x) {x' : Opd} (hx : compOpd P x = some x') (hs : P.underlying s = some (.slice el)) (hd : P.underlying d = some .string) (he : P.underlying el = some (.int .u8)) (C : Ctx P pr ι H fr a w) (C2 : Ctx P pr2 ι H2 fr a w) (h : xopK (.b2s x') call fr H2 k = some r) : ∃ v, k v H2 = some r ∧ Sim P pr ι o a w v H := by
  obtain ⟨v, h1, v', hv, hrun⟩ := ok_b2s (call := call) hs hd he C2 hx h
  have hp : PureOK P ι w H (fun y _ => some y) v (convert s d (a.eval x)) := ⟨v, rfl, v', hv, hrun⟩
  obtain ⟨v2, e, hs⟩ := hp.simL C (by unfold execOp; rw [ho])
  cases e
  exact ⟨v, h1, hs⟩
end
section
variable {P : Program} {call : Call1} {n : Nat} {ops : Array Oper}
/-- What stands in memory at a place: what stood behind the last one of class 3, or a block made since. -/
theorem Rg.seg (G : Rg P call n ops) (hinit : (G.S 0).Gs = [(G.S 0).H]) : ∀ p, p ≤ ops.size → ∃ H0 rest, (G.S p).Gs = H0 :: rest ∧ ∀ a, (G.S p).H.get a = H0.get a ∨
    ∃ m e l f, m < p ∧ (G.X m).2.cls = 2 ∧ (G.S m).n = (G.S p).n ∧ G.W m = true ∧ G.id m = a ∧ mkK (G.X m).1.o (G.S m).fr mkPair = some (e, l, f) ∧ (G.S p).H.get a = .cells false 0 e l.length (setCells l 0 .leaf)
  | 0, _ => ⟨_, [], hinit, fun _ => .inl rfl⟩
  | p + 1, hp => by
    obtain ⟨H0, rest, h1, h2⟩ := G.seg hinit p (by omega)
    have hst := G.step p (by omega)
    have hc3 := G.cls3 p (by omega)
    have keep : (G.S (p + 1)).H = (G.S p).H → (G.S (p + 1)).Gs = (G.S p).Gs → (G.S (p + 1)).n = (G.S p).n → ∃ H0 rest, (G.S (p + 1)).Gs = H0 :: rest ∧ ∀ a, (G.S (p + 1)).H.get a = H0.get a ∨
        ∃ m e l f, m < p + 1 ∧ (G.X m).2.cls = 2 ∧ (G.S m).n = (G.S (p + 1)).n ∧ G.W m = true ∧ G.id m = a ∧ mkK (G.X m).1.o (G.S m).fr mkPair = some (e, l, f) ∧ (G.S (p + 1)).H.get a = .cells false 0 e l.length (setCells l 0 .leaf) := by
      intro e1 e2 e3
      refine ⟨H0, rest, e2.trans h1, fun a => ?_⟩
      rcases h2 a with q | ⟨m, e, l, f, q1, q2, q3, q4, q5, q6, q7⟩
      · exact .inl (by rw [e1]; exact q)
      · exact .inr ⟨m, e, l, f, by omega, q2, q3.trans e3.symm, q4, q5, q6, by rw [e1]; exact q7⟩
    by_cases e3 : (G.X p).2.cls = 3
    · exact ⟨_, _, (hst.hard e3).1, fun _ => .inl rfl⟩
    by_cases e2 : (G.X p).2.cls = 2
    · cases hw : G.W p with
      | false => exact keep (hst.no hw).2 (hst.mid e2).1 (hst.mid e2).2.1
      | true =>
        obtain ⟨id, e, l, f, m1, m2, m3, m4⟩ := hst.make hw e2
        have hid : G.id p = id := by unfold Rg.id; rw [m2]; rfl
        refine ⟨H0, rest, (hst.mid e2).1.trans h1, fun a => ?_⟩
        by_cases ea : id = a
        · subst ea
          exact .inr ⟨p, e, l, f, by omega, e2, (hst.mid e2).2.1.symm, hw, hid, m1, by rw [m4, Heap.get_put, if_pos rfl]⟩
        · rcases h2 a with q | ⟨m, e', l', f', q1, q2, q3, q4, q5, q6, q7⟩
          · exact .inl (by rw [m4, Heap.get_put, if_neg ea]; exact q)
          · exact .inr ⟨m, e', l', f', by omega, q2, q3.trans (hst.mid e2).2.1.symm, q4, q5, q6, by rw [m4, Heap.get_put, if_neg ea]; exact q7⟩
    · obtain ⟨q1, q2, q3, _⟩ := hst.light (by omega)
      exact keep q1 q2 q3
end
theorem readOk_cases {o : AOp} {fr : Tr AV} {v : AV} {lo n : Nat} {Gs : List Heap} (h : readOk o fr v lo Gs n = true) : sameAll o fr v (loOf lo) Gs n = true ∨ (HM ≤ lo ∧ homeOk o fr Gs = true) := by
  unfold readOk at h
  unfold loOf
  cases e : Nat.ble HM lo with
  | false => rw [e] at h; exact .inl h
  | true =>
    rw [e] at h
    cases q : homeOk o fr Gs with
    | false => rw [q] at h; exact .inl h
    | true => exact .inr ⟨Nat.le_of_ble_eq_true e, rfl⟩
section
variable {P : Program} {call : Call1} {n : Nat} {ops : Array Oper}

/-- The same, in a world that has gone on, where the one run's memory has not. -/
theorem Rg.Inv.move {G : Rg P call n ops} {pr : Pr} {ι0 ι ι' : Emb} {w0 w w' : World} {listed : Array Bool} {T : Nat} {blk : Nat → Nat} {a : Act} (h : G.Inv pr ι0 w0 listed T blk ι a w)
    (hext : Ext ι ι') (hrel : Rel (G.prD pr listed T blk) P.globals.size ι' (G.S T).H w'.heap) (hfr : Fr (G.prD pr listed T blk) w w') : G.Inv pr ι0 w0 listed T blk ι' a w' := by
  refine ⟨h.size, h.closed, h.tle, h.bound, h.pre, h.nohv, h.fr.mono hext, h.sz, h.nd, fun p hp => ?_, h.inj, hrel, h.ext.trans hext, h.frm.trans (hfr.weaken fun b hb => G.prD_pr pr listed T blk b hb)⟩
  obtain ⟨e, l, f, m1, hpd⟩ := h.pend p hp
  exact ⟨e, l, f, m1, hpd.mono hext (hfr.keep _ (.inr (.inr ⟨p, hp, rfl⟩)))⟩

/-- The memories that were kept. -/
theorem Rg.gs_ext (G : Rg P call n ops) (T : Nat) : ∀ k, T + k ≤ ops.size → ∃ l, (G.S (T + k)).Gs = l ++ (G.S T).Gs ∧ (G.S (T + k)).n = (G.S T).n + l.length
  | 0, _ => ⟨[], rfl, rfl⟩
  | k + 1, hk => by
    obtain ⟨l, h1, h2⟩ := G.gs_ext T k (by omega)
    have hst := G.step (T + k) (by omega)
    have hc3 := G.cls3 (T + k) (by omega)
    by_cases e3 : (G.X (T + k)).2.cls = 3
    · obtain ⟨q1, q2, _⟩ := hst.hard e3
      refine ⟨(G.S (T + k + 1)).H :: l, ?_, ?_⟩
      · show (G.S (T + k + 1)).Gs = _
        rw [q1, h1]; rfl
      · show (G.S (T + k + 1)).n = _
        rw [q2, h2]; simp only [List.length_cons]; omega
    · refine ⟨l, ?_, ?_⟩
      · show (G.S (T + k + 1)).Gs = _
        by_cases e2 : (G.X (T + k)).2.cls = 2
        · rw [(hst.mid e2).1, h1]
        · rw [(hst.light (by omega)).2.1, h1]
      · show (G.S (T + k + 1)).n = _
        by_cases e2 : (G.X (T + k)).2.cls = 2
        · rw [(hst.mid e2).2.1, h2]
        · rw [(hst.light (by omega)).2.2.1, h2]

theorem sameAll_at {o : AOp} {fr : Tr AV} {v : AV} {lo m : Nat} {G0 : Heap} {rest : List Heap} (hlo : lo ≤ m) : ∀ (l : List Heap), sameAll o fr v lo (l ++ G0 :: rest) (m + l.length) = true → sameIn o fr v G0 = true
  | [], h => by
    have h : (Bool.casesOn (Nat.ble lo m) true (Bool.casesOn (sameIn o fr v G0) false (sameAll o fr v lo rest (Nat.pred m))) : Bool) = true := h
    rw [Nat.ble_eq_true_of_le hlo] at h
    exact (casesB h).1
  | x :: l, h => by
    have h : (Bool.casesOn (Nat.ble lo (m + (l.length + 1))) true (Bool.casesOn (sameIn o fr v x) false (sameAll o fr v lo (l ++ G0 :: rest) (Nat.pred (m + (l.length + 1))))) : Bool) = true := h
    rw [Nat.ble_eq_true_of_le (by omega)] at h
    have h2 := (casesB h).2
    exact sameAll_at hlo l h2

theorem sameIn_some {o : AOp} {fr : Tr AV} {v : AV} {H : Heap} (h : sameIn o fr v H = true) : ∃ H', xopK o noCall fr H pairK = some (v, H') := by
  unfold sameIn at h
  cases e : xopK o noCall fr H pairK with
  | none =>
    have e' : xopK o noCall fr H (fun v' H' => some (v', H')) = none := e
    rw [e'] at h; cases h
  | some p =>
    have e' : xopK o noCall fr H (fun v' H' => some (v', H')) = some p := e
    rw [e'] at h
    have h : avEq v p.1 = true := h
    exact ⟨p.2, by rw [avEq_eq h]⟩

/-- An operation that turns no memory: done in memory as it stood behind the last one of class 3 that was done. -/
theorem Rg.Inv.op_light {G : Rg P call n ops} {pr : Pr} {ι0 ι : Emb} {w0 w : World} {listed : Array Bool} {T : Nat} {blk : Nat → Nat} {a : Act} (h : G.Inv pr ι0 w0 listed T blk ι a w) (hinit : (G.S 0).Gs = [(G.S 0).H]) {p : Nat} (hp : p < ops.size)
    (hr : G.I p ∈ Region.ready .any ops listed) (hn : G.L listed p = false) (hw : G.W p = true) (hcl : (G.X p).2.cls ≤ 1) {next : Act → World → Prop} {Q : Exit → Act → World → Prop}
    (hk : ∀ ι' v' w', Ext ι ι' → Rel (G.prD pr listed T blk) P.globals.size ι' (G.S T).H w'.heap → Fr (G.prD pr listed T blk) w w' → VR ι' (G.V p) v' → next (a.put (G.O p).dst v') w') : (G.O p).wp P a w next Q := by
  have hst := G.step p hp
  have hcls := G.cls p hp
  have hsl := (G.op_slots h.closed hp hr hn).1
  have hcomp := G.comp p hp
  have fin : ∀ {c : CallK (AV × Heap)} {K : HK (AV × Heap)} {r : AV × Heap}, xopK (G.X p).1.o c (G.fr listed ops.size) (G.S T).H K = some r → (∀ v, K v (G.S T).H = some r → v = G.V p) → (G.O p).wp P a w next Q := by
    intro c K r hx hv
    rw [hcomp] at hx
    obtain ⟨q, hq, hx⟩ := op_getD hx
    have hq1 : clsOf q ≤ 1 := by
      rw [hcls, hcomp, hq] at hcl; exact hcl
    obtain ⟨v, h1, h2⟩ := light_ok hq hq1 h.at_.ctx hx
    rw [hv v h1] at h2
    exact h2 next Q hk
  rcases Nat.lt_or_ge (G.X p).2.cls 1 with e | e
  · have e0 : (G.X p).2.cls = 0 := by omega
    obtain ⟨H1, hx⟩ := hst.pure hw e0
    rw [← xop_congr hsl, pure_mem (hcls.symm.trans e0) _ (call (AV × Heap)) _ _ (G.S T).H] at hx
    refine fin hx fun v hv => ?_
    cases hv; rfl
  · have e1 : (G.X p).2.cls = 1 := by omega
    obtain ⟨⟨H1, hrd⟩, hok⟩ := hst.read hw e1
    rcases readOk_cases hok with hsame | ⟨hm, hhome⟩
    case inr =>
      obtain ⟨hld, hmk⟩ := G.home p hp hm
      obtain ⟨H0, rest, hGs, hall⟩ := G.seg hinit p (by omega)
      have C := h.at_.ctx
      have core : ∀ pa : Pa, isDead (H0.get pa) = true → isDead ((G.S p).H.get pa) = false → ∃ (pr2 : Pr) (H2 : Heap), Ctx P pr2 ι H2 (G.fr listed ops.size) a w ∧ H2.get pa = (G.S p).H.get pa := by
        intro pa hhome hnd
        rcases hall pa with hsm | ⟨m, e, l, f, m1, m2, m3, m4, m5, m6, m7⟩
        · rw [hsm, hhome] at hnd; cases hnd
        · have hmp : m < ops.size := by omega
          have hL := G.ready_hang h.closed hp hr hmp (hmk m m1 m2 m3)
          have hTp := h.place hn
          have hTm : T ≤ m := by
            rcases Nat.lt_or_ge m T with g | g
            · exfalso
              rcases h.bound with e0 | ⟨q', e0, h3⟩
              · omega
              · have hq' : q' < ops.size := by have := h.tle; omega
                have hne : m ≠ q' := by intro e4; subst e4; omega
                obtain ⟨_, _, n1⟩ := G.gs_ext m (q' - m) (by omega)
                rw [show m + (q' - m) = q' by omega] at n1
                have n2 := ((G.step q' hq').hard h3).2.1
                obtain ⟨_, _, n3⟩ := G.gs_ext T (p - T) (by omega)
                rw [show T + (p - T) = p by omega] at n3
                rw [e0] at n3
                omega
            · exact g
          have hwait : G.wait listed T m := ⟨hTm, hmp, hL, m2, m4⟩
          obtain ⟨e', l', f', m6', hpd⟩ := h.pend m hwait
          rw [m6] at m6'; cases m6'
          rw [m5] at hpd
          have R2 := h.rel.open_ (pr2 := ⟨pr.soft, fun b => (G.prD pr listed T blk).hard b ∧ b ≠ blk m, (G.prD pr listed T blk).res, pr.ds⟩) hpd (.inr ⟨m, hwait, rfl⟩) rfl rfl (fun b q => q) (fun _ q => q)
          exact ⟨_, _, ⟨R2, C.fr⟩, by rw [Heap.get_put, if_pos rfl, m7]⟩
      have hx0 := hrd
      rw [hcomp] at hx0
      obtain ⟨q, hq, _⟩ := op_getD hx0
      have hXo : (G.X p).1.o = q := by rw [hcomp, hq]; rfl
      rw [hXo] at hrd hhome hsl
      rw [hGs] at hhome
      have hops : (∃ t ad, (G.O p).op = .load t ad) ∨ ∃ s d x, (G.O p).op = .convert s d x := by
        cases e : (G.O p).op <;> first | exact .inl ⟨_, _, rfl⟩ | exact .inr ⟨_, _, _, rfl⟩ | (rw [e] at hld; cases hld)
      rcases hops with ⟨t, ad, ho⟩ | ⟨s, d, x0, ho⟩
      · obtain ⟨g, nn, x, rfl, hxo, hg, hn', hgn⟩ := ld_inv ho hq
        have hsx : ev (G.fr listed ops.size) x = ev (G.S p).fr x := hsl x (by simp [AOp.opds])
        have hrd : xLd g nn x (call (AV × Heap)) (G.S p).fr (G.S p).H pairK = some (G.V p, H1) := hrd
        unfold xLd at hrd; rw [evK_eq] at hrd
        rcases vP_some hrd with ⟨_, h1⟩ | ⟨pa, off, ep, h1⟩
        · cases h1
        have hhome : oB (evK (G.S p).fr x fun v => some (home1 (H0 :: rest) v)) = true := hhome
        rw [evK_eq, ep] at hhome
        have hhome : oB (H0.getK pa fun b => some (isDead b)) = true := hhome
        rw [Heap.getK_eq] at hhome
        have hhome : isDead (H0.get pa) = true := hhome
        have h1 : loadK g nn pa off (G.S p).H (fun v => some (v, (G.S p).H)) = some (G.V p, H1) := h1
        have hnd : isDead ((G.S p).H.get pa) = false := by
          unfold loadK at h1
          rw [Heap.getK_eq] at h1
          cases hb : (G.S p).H.get pa with
          | dead => rw [hb] at h1; cases h1
          | cells ro fz e size c => rfl
          | iter a b c => rfl
        obtain ⟨pr2, H2, C2, hget⟩ := core pa hhome hnd
        have hx2 : xopK (.ld g nn x) (call (AV × Heap)) (G.fr listed ops.size) H2 (fun v _ => some (v, (G.S p).H)) = some (G.V p, H1) := by
          show evK (G.fr listed ops.size) x (fun v => vP v none fun a off => loadK g nn a off _ fun v => some (v, (G.S p).H)) = _
          rw [evK_eq, hsx, ep]
          show loadK g nn pa off _ (fun v => some (v, (G.S p).H)) = _
          unfold loadK at h1 ⊢
          rw [Heap.getK_eq] at h1
          rw [Heap.getK_eq, hget]
          exact h1
        obtain ⟨v, k1, hs⟩ := ld_sim ho hq C C2 hx2
        cases k1
        exact hs next Q hk
      · obtain ⟨x, el, rfl, hxo, hs1, hd1, he1⟩ := b2s_inv ho hq hhome
        have hsx : ev (G.fr listed ops.size) x = ev (G.S p).fr x := hsl x (by simp [AOp.opds])
        have hrd : xB2s x (call (AV × Heap)) (G.S p).fr (G.S p).H pairK = some (G.V p, H1) := hrd
        unfold xB2s at hrd; rw [evK_eq] at hrd
        have hhome : oB (evK (G.S p).fr x fun v => some (home2 (H0 :: rest) v)) = true := hhome
        rw [evK_eq] at hhome
        rcases vL_some hrd with ⟨ep, _⟩ | ⟨pa, off, len, cp, sz, ep, h1⟩
        · rw [ep] at hhome; cases hhome
        rw [ep] at hhome
        have hhome : oB (H0.getK pa fun b => some (isDead b)) = true := hhome
        rw [Heap.getK_eq] at hhome
        have hhome : isDead (H0.get pa) = true := hhome
        have h1 : guardK (Nat.beq sz 1) (rangeCK len pa off (G.S p).H fun l => packK l 0 0 fun m n => some (AV.s m n, (G.S p).H)) = some (G.V p, H1) := h1
        have hnd : isDead ((G.S p).H.get pa) = false := by
          obtain ⟨_, h2⟩ := guardK_some h1
          unfold rangeCK at h2
          rw [Heap.getK_eq] at h2
          cases hb : (G.S p).H.get pa with
          | dead => rw [hb] at h2; cases h2
          | cells ro fz e size c => rfl
          | iter a b c => rfl
        obtain ⟨pr2, H2, C2, hget⟩ := core pa hhome hnd
        have hx2 : xopK (.b2s x) (call (AV × Heap)) (G.fr listed ops.size) H2 (fun v _ => some (v, (G.S p).H)) = some (G.V p, H1) := by
          show evK (G.fr listed ops.size) x (fun v => vL v (some (AV.s 0 0, (G.S p).H)) fun a off len _ sz => guardK (Nat.beq sz 1) (rangeCK len a off _ fun l => packK l 0 0 fun m n => some (AV.s m n, (G.S p).H))) = _
          rw [evK_eq, hsx, ep]
          show guardK (Nat.beq sz 1) (rangeCK len pa off _ fun l => packK l 0 0 fun m n => some (AV.s m n, (G.S p).H)) = _
          unfold rangeCK at h1 ⊢
          rw [Heap.getK_eq] at h1
          rw [Heap.getK_eq, hget]
          exact h1
        obtain ⟨v, k1, hs⟩ := b2s_sim ho hxo hs1 hd1 he1 C C2 hx2
        cases k1
        exact hs next Q hk
    have hTp := h.place hn
    obtain ⟨l, g1, g2⟩ := G.gs_ext T (p - T) (by omega)
    rw [show T + (p - T) = p by omega] at g1 g2
    have hhead : ∃ rest, (G.S T).Gs = (G.S T).H :: rest := by
      rcases h.bound with e | ⟨q, e, h3⟩
      · subst e; exact ⟨[], hinit⟩
      · subst e
        have hq : q < ops.size := by have := h.tle; omega
        exact ⟨_, ((G.step q hq).hard h3).1⟩
    obtain ⟨rest, hhd⟩ := hhead
    have hlo : loOf (G.X p).2.lo ≤ (G.S T).n := by
      rcases G.lo p hp with e | ⟨q, hq, h3, hh, e⟩
      · omega
      · have hL := G.ready_hang h.closed hp hr hq hh
        have hqT : q < T := by
          rcases Nat.lt_or_ge q T with g | g
          · exact g
          · have := h.nohv q g hq h3; rw [hL] at this; cases this
        obtain ⟨l', _, g4⟩ := G.gs_ext (q + 1) (T - (q + 1)) (by have := h.tle; omega)
        rw [show q + 1 + (T - (q + 1)) = T by omega] at g4
        omega
    rw [g1, g2, hhd] at hsame
    obtain ⟨H', hx⟩ := sameIn_some (sameAll_at hlo l hsame)
    rw [← xop_congr hsl] at hx
    refine fin hx fun v hv => ?_
    cases hv; rfl

/-- How many are not done. -/
def Rg.cnt (G : Rg P call n ops) (listed : Array Bool) : Nat := ((List.range ops.size).filter fun p => !G.L listed p).length
theorem Rg.cnt_set (G : Rg P call n ops) {listed : Array Bool} (hs : listed.size = ops.size) {p : Nat} (hp : p < ops.size) (hn : G.L listed p = false) : G.cnt (listed.setIfInBounds (G.I p) true) < G.cnt listed := by
  unfold Rg.cnt
  have e : (List.range ops.size).filter (fun q => !G.L (listed.setIfInBounds (G.I p) true) q) = ((List.range ops.size).filter fun q => !G.L listed q).filter (fun q => q != p) := by
    rw [List.filter_filter]
    refine List.filter_congr fun q hq => ?_
    rw [G.L_set hs hp q (List.mem_range.mp hq)]
    by_cases e : q = p
    · rw [if_pos e]; simp [e]
    · rw [if_neg e]; simp [e]
  rw [e]
  refine List.length_filter_lt_length_iff_exists.mpr ⟨p, List.mem_filter.mpr ⟨List.mem_range.mpr hp, by simp [hn]⟩, by simp⟩

theorem Rg.Inv.all_done {G : Rg P call n ops} {pr : Pr} {ι0 ι : Emb} {w0 w : World} {listed : Array Bool} {T : Nat} {blk : Nat → Nat} {a : Act} (h : G.Inv pr ι0 w0 listed T blk ι a w) (hr : Region.ready .any ops listed = []) : ∀ p, p < ops.size → G.L listed p = true := by
  intro p
  induction p using Nat.strongRecOn with
  | ind p ih =>
    intro hp
    cases hL : G.L listed p with
    | true => rfl
    | false =>
      exfalso
      have hi : G.I p < listed.size := by rw [h.size]; exact G.lt p hp
      have hm : G.I p ∈ Region.ready .any ops listed := by
        refine mem_ready.mpr ⟨?_, G.O p, G.op p hp, fun e he hb => ?_⟩
        · unfold Rg.L at hL
          rw [Array.getD_eq_getD_getElem?, getElem?_pos listed _ hi] at hL ⊢
          exact hL
        · obtain ⟨q, hq, e1, e2⟩ := G.edge p e hp (Array.mem_toList_iff.mpr he) hb
          have := ih q (G.ahead p q hp hq e2) hq
          rw [e1]; exact this
      rw [hr] at hm; cases hm

theorem Rg.Inv.finish {G : Rg P call n ops} {pr : Pr} {ι0 ι : Emb} {w0 w : World} {listed : Array Bool} {T : Nat} {blk : Nat → Nat} {a : Act} (h : G.Inv pr ι0 w0 listed T blk ι a w) (hall : ∀ p, p < ops.size → G.L listed p = true) :
    At P pr n ι (G.S ops.size).H (G.S ops.size).fr a w := by
  have R := h.open_ (ops.size - T) (by have := h.tle; omega) fun q _ h2 => hall q (by have := h.tle; omega)
  rw [show T + (ops.size - T) = ops.size by have := h.tle; omega] at R
  refine ⟨⟨R.weaken (fun b hb => G.prD_pr pr listed _ blk b hb) (fun _ q => .inl q) (fun _ q => .inl q), fun t => ?_⟩, h.sz, h.nd⟩
  have := h.fr t
  rw [G.fr_all ops.size (Nat.le_refl _), ← frL_congr (L := G.L listed) (q := toPa t) ops.size fun p hp _ => hall p hp]
  exact this

theorem Rg.Inv.any {G : Rg P call n ops} {pr : Pr} {ι0 : Emb} {w0 : World} (hcall : CallsOK P call) (hinit : (G.S 0).Gs = [(G.S 0).H]) (hid : G.Ids pr) {Q : Exit → Act → World → Prop}
    (hend : ∀ ι a w, Ext ι0 ι → Fr pr w0 w → At P pr n ι (G.S ops.size).H (G.S ops.size).fr a w → Q .normal a w) :
    ∀ (fuel : Nat) (listed : Array Bool) (T : Nat) (blk : Nat → Nat) (ι : Emb) (a : Act) (w : World), G.Inv pr ι0 w0 listed T blk ι a w → G.cnt listed ≤ fuel → wpAny P .any ops Q fuel listed a w
  | fuel, listed, T, blk, ι, a, w, h, hcnt => by
    have fin : Region.ready .any ops listed = [] → Q .normal a w := fun hr => hend ι a w h.ext h.frm (h.finish (h.all_done hr))
    have place : ∀ i ∈ Region.ready .any ops listed, ∃ p, p < ops.size ∧ G.I p = i ∧ G.L listed p = false := by
      intro i hi
      obtain ⟨h1, o, ho, _⟩ := mem_ready.mp hi
      obtain ⟨p, hp, e⟩ := G.pos i (Array.getElem?_eq_some_iff.mp ho).1
      refine ⟨p, hp, e, ?_⟩
      have hlt : G.I p < listed.size := by rw [h.size]; exact G.lt p hp
      unfold Rg.L
      rw [← e] at h1
      rw [Array.getD_eq_getD_getElem?, getElem?_pos listed _ hlt] at h1 ⊢
      exact h1
    match fuel, hcnt with
    | 0, hcnt =>
      have hr : Region.ready .any ops listed = [] := by
        cases e : Region.ready .any ops listed with
        | nil => rfl
        | cons i l =>
          obtain ⟨p, hp, _, hL⟩ := place i (by rw [e]; simp)
          have := G.cnt_set h.size hp hL
          omega
      exact ⟨hr, fin hr⟩
    | fuel + 1, hcnt =>
      refine ⟨fin, fun i hi => ?_⟩
      obtain ⟨p, hp, e, hn⟩ := place i hi
      subst e
      have hcnt' : G.cnt (listed.setIfInBounds (G.I p) true) ≤ fuel := by have := G.cnt_set h.size hp hn; omega
      have go : ∀ {T' : Nat} {blk' : Nat → Nat} {ι' : Emb} {a' : Act} {w' : World}, G.Inv pr ι0 w0 (listed.setIfInBounds (G.I p) true) T' blk' ι' a' w' → wpAny P .any ops Q fuel (listed.setIfInBounds (G.I p) true) a' w' :=
        fun h' => Rg.Inv.any hcall hinit hid hend fuel _ _ _ _ _ _ h' hcnt'
      have hTp := h.place hn
      have hst := G.step p hp
      have hc3 := G.cls3 p hp
      have hcls := G.cls p hp
      have hcomp := G.comp p hp
      have hsl := (G.op_slots h.closed hp hi hn).1
      have opn : (G.X p).2.cls = 3 → Rel (G.prD pr listed p blk) P.globals.size ι (G.S p).H w.heap := by
        intro h3
        have R := h.open_ (p - T) (by omega) fun q _ h2 => G.ready_hang h.closed hp hi (by omega) (G.heavy p q hp (by omega) h3)
        rw [show T + (p - T) = p by omega] at R
        exact R
      unfold wpOp
      rw [G.op p hp]
      show (if Region.wanted (G.O p) (yielded ops a.tmps) then _ else _)
      rw [h.wanted hp hi hn]
      cases hw : G.W p with
      | false =>
        rw [if_neg (by simp)]
        obtain ⟨hV, hH⟩ := hst.no hw
        have hv : VR ι (G.V p) undef := by rw [hV]; exact un_undef ι
        by_cases h3 : (G.X p).2.cls = 3
        · refine go (h.heavy hp hi hn h3 (Ext.refl _) ?_ (Fr.refl _ _) hv)
          rw [hH]; exact opn h3
        · exact go (h.light hp hi hn (by rw [hw]; simp) h3 hv)
      | true =>
        rw [if_pos rfl]
        left
        by_cases hl : (G.X p).2.cls ≤ 1
        · refine h.op_light hinit hp hi hn hw hl fun ι' v' w' hext hrel hfr hv => ?_
          exact go ((h.move hext hrel hfr).light hp hi hn (by omega) (by omega) hv)
        · by_cases h2 : (G.X p).2.cls = 2
          · obtain ⟨id, e, l, f, m1, m2, m3, m4⟩ := hst.make hw h2
            have m1' : mkK (G.X p).1.o (G.fr listed ops.size) mkPair = some (e, l, f) := by rw [mk_congr hsl]; exact m1
            have hq : ∃ q, compOp P (G.O p) = some q ∧ (G.X p).1.o = q := by
              cases hq : compOp P (G.O p) with
              | none => rw [hcomp, hq] at m1; cases m1
              | some q => exact ⟨q, rfl, by rw [hcomp, hq]; rfl⟩
            obtain ⟨q, hq, eq⟩ := hq
            rw [eq] at m1'
            obtain ⟨cs, v', hrun, hcs, hvs, hv⟩ := mk_ok h.at_.ctx hq (G.makes p hp h2) m1'
            have hid' : G.id p = id := by unfold Rg.id; rw [m2]; rfl
            have := h.make hid hp hi hn h2 hw m1 (by rw [hid']; exact m3) hcs hvs hv
            unfold Oper.wp
            rw [hrun]
            exact go this
          · have h3 : (G.X p).2.cls = 3 := by omega
            have hx := hst.heavy hw h3
            rw [← xop_congr hsl, hcomp] at hx
            obtain ⟨q, hq, hx⟩ := op_getD hx
            have C : Ctx P (G.prD pr listed p blk) ι (G.S p).H (G.fr listed ops.size) a w := ⟨opn h3, h.fr⟩
            refine op_ok hq (hcall _ _) C hx _ _ fun v H' ι' v' w' e1 hext hrel hfr hv => ?_
            cases e1
            exact go (h.heavy hp hi hn h3 hext hrel hfr hv)
  termination_by fuel => fuel
end
end Go.Vai

/- VAI, part f: a region that draws: from its compiled form to its places; DrawOK, and with it the soundness of the whole. -/
namespace Go.Vai

/-! Ids that are kept. -/
def keepL : Nat → Pa → List Pa
  | 0, _ => []
  | n + 1, p => p :: keepL n p.succ
def keepE : Nat → Pa → Pa
  | 0, p => p
  | n + 1, p => keepE n p.succ
theorem keepK_eq {R : Type} : ∀ (n : Nat) (p : Pa) (k : List Pa → Pa → Option R), keepK n p k = k (keepL n p) (keepE n p)
  | 0, _, _ => rfl
  | n + 1, p, k => by
    show succK p (fun q => keepK n q fun l r => k (p :: l) r) = _
    rw [succK_eq, keepK_eq n]; rfl
theorem keepE_toN : ∀ (n : Nat) (p : Pa), (keepE n p).toN = p.toN + n
  | 0, _ => rfl
  | n + 1, p => by
    show (keepE n p.succ).toN = _
    rw [keepE_toN n, Pa.toN_succ]; omega
theorem keepL_get : ∀ (n : Nat) (p : Pa) (i : Nat) (q : Pa), (keepL n p)[i]? = some q → q.toN = p.toN + i ∧ i < n
  | 0, p, i, q, h => by simp [keepL] at h
  | n + 1, p, 0, q, h => by
    have : p = q := by simpa [keepL] using h
    subst this; exact ⟨rfl, by omega⟩
  | n + 1, p, i + 1, q, h => by
    obtain ⟨h1, h2⟩ := keepL_get n p.succ i q (by simpa [keepL] using h)
    rw [Pa.toN_succ] at h1
    exact ⟨by omega, by omega⟩

theorem cntH_succ (heavy : Nat → Bool) (l : List Nat) (m : Nat) (h : m < l.length) : cntH heavy l (m + 1) = cntH heavy l m + (if heavy (l.getD m 0) then 1 else 0) := by
  unfold cntH
  rw [List.take_succ_eq_append_getElem h, List.filter_append, List.length_append]
  have : l.getD m 0 = l[m] := by rw [List.getD_eq_getElem?_getD, List.getElem?_eq_getElem h]; rfl
  rw [this]
  cases e : heavy l[m] <;> simp [e]

section
variable {P : Program} {call : Call1} {n : Nat} {ops : Array Oper}

/-- What the compiled form of a region that draws says. -/
theorem compDraw_inv {l : List AI} {nA : Nat} {xs : List (AI × DI)} (h : compDraw P ops l = some (.draw nA xs)) :
    drawOk P ops l (drawOrd ops l) = true ∧ (drawOrd ops l).mapM (drawRow ops l (drawOrd ops l)) = some xs ∧ nA = ((List.range l.length).filter fun i => clsAt l i == 2).length := by
  unfold compDraw at h
  obtain ⟨h1, h2⟩ := ite_none' h
  obtain ⟨ys, h3, e⟩ := map_some h2
  cases e
  exact ⟨h1, h3, rfl⟩

theorem blt_lt {a b : Nat} (h : Nat.blt a b = true) : a < b := Nat.blt_eq.mp h
theorem drawRow_inv {l : List AI} {ord : List Nat} {i : Nat} {x : AI × DI} (h : drawRow ops l ord i = some x) :
    ∃ a, l[i]? = some a ∧ looksOk ops i a = true ∧ loAt (Region.before ops) (heavyAt l) ord l.length i < HM ∧ x = (a, ⟨clsOf a.o, dlo ops (Region.before ops) l ord i a⟩) := by
  unfold drawRow at h
  obtain ⟨a, h1, h2⟩ := bind_some h
  obtain ⟨h3, h4⟩ := ite_none h2
  rw [Bool.and_eq_true] at h3
  exact ⟨a, h1, h3.1, blt_lt h3.2, h4.symm⟩
def lessC (c lo : Nat) : Nat := Bool.casesOn (Nat.ble c lo) lo (Nat.sub lo c)
theorem mark_lt {c m : Nat} (h : m < c) : lessC c m = m := by
  unfold lessC
  cases e : Nat.ble c m with
  | false => rfl
  | true => have := Nat.le_of_ble_eq_true e; omega
theorem sub_mark (m c : Nat) : Nat.sub (m + c) c = m := Nat.add_sub_cancel m c
theorem mark_at {c m : Nat} : lessC c (m + c) = m := by
  unfold lessC
  have h : Nat.ble c (m + c) = true := Nat.ble_eq_true_of_le (by omega)
  rw [h]
  exact sub_mark m c
theorem loOf_eq (lo : Nat) : loOf lo = lessC HM lo := rfl
theorem loOf_lt {m : Nat} (h : m < HM) : loOf m = m := by rw [loOf_eq]; exact mark_lt h
theorem loOf_mark {m : Nat} : loOf (m + HM) = m := by rw [loOf_eq]; exact mark_at
/-- The mark, as a number that is not looked into. -/
def dmk1 (c : Nat) (b : Bool) : Nat := if b then c else 0
theorem dlo_eq {b : Array Nat} {l : List AI} {ord : List Nat} {i : Nat} {a : AI} : dlo ops b l ord i a = loAt b (heavyAt l) ord l.length i + dmk1 HM (homed ops b l ord i a) := rfl
theorem loOf_dlo {b : Array Nat} {l : List AI} {ord : List Nat} {i : Nat} {a : AI} (h : loAt b (heavyAt l) ord l.length i < HM) : loOf (dlo ops b l ord i a) = loAt b (heavyAt l) ord l.length i := by
  rw [dlo_eq]
  cases homed ops b l ord i a with
  | true => exact loOf_mark
  | false => exact loOf_lt h
theorem homed_of {b : Array Nat} {l : List AI} {ord : List Nat} {i : Nat} {a : AI} (h : loAt b (heavyAt l) ord l.length i < HM) (h2 : HM ≤ dlo ops b l ord i a) : homed ops b l ord i a = true := by
  rw [dlo_eq] at h2
  cases e : homed ops b l ord i a with
  | true => rfl
  | false =>
    rw [e] at h2
    exact absurd h2 (Nat.not_le_of_lt h)
theorem idx_at {ord : List Nat} {p : Nat} (hp : p < ord.length) (hinj : ∀ q, q < ord.length → ord.getD q 0 = ord.getD p 0 → q = p) : ord.idxOf (ord.getD p 0) = p := by
  have hm : ord.getD p 0 ∈ ord := by
    rw [List.getD_eq_getElem?_getD, List.getElem?_eq_getElem hp]; exact List.getElem_mem hp
  have h1 : ord.idxOf (ord.getD p 0) < ord.length := List.idxOf_lt_length_iff.mpr hm
  refine hinj _ h1 ?_
  rw [List.getD_eq_getElem?_getD, List.getElem?_eq_getElem h1]
  exact List.getElem_idxOf h1

theorem drawOK (P : Program) : DrawOK P := by
  intro call hcall R pr n id ops l nA xs hl hdraw ι H fr a w k r hat h Q hQ
  obtain ⟨hok, hxs, hnA⟩ := compDraw_inv hdraw
  obtain ⟨hlen, hget⟩ := mapM_get hl
  have hlen : l.length = ops.size := by rw [hlen]; simp
  unfold drawOk at hok
  rw [Bool.and_eq_true, Bool.and_eq_true, Bool.and_eq_true] at hok
  obtain ⟨⟨⟨hmix, hclose⟩, hslots⟩, horder⟩ := hok
  rw [hlen] at hclose hslots horder
  generalize hord : drawOrd ops l = ord at *
  have F := ordOK_of hclose hslots horder
  generalize hb : Region.before ops = b at *
  obtain ⟨hxlen, hxget⟩ := mapM_get hxs
  have hxl : xs.length = ops.size := by rw [hxlen]; exact F.len
  have ordg : ∀ p, p < ops.size → ord[p]? = some (ord.getD p 0) := fun p hp => by
    have : p < ord.length := by rw [F.len]; exact hp
    rw [List.getD_eq_getElem?_getD, List.getElem?_eq_getElem this]; rfl
  have row : ∀ p, p < ops.size → ∃ x o a', xs[p]? = some x ∧ ops[ord.getD p 0]? = some o ∧ l[ord.getD p 0]? = some a' ∧ looksOk ops (ord.getD p 0) a' = true ∧ compAI P n ops o = some a' ∧ x = (a', ⟨clsOf a'.o, dlo ops b l ord (ord.getD p 0) a'⟩) ∧ loAt b (heavyAt l) ord l.length (ord.getD p 0) < HM := by
    intro p hp
    obtain ⟨x, hx, hr⟩ := hxget p _ (ordg p hp)
    obtain ⟨a', h1, h2, hlt, h3⟩ := drawRow_inv hr
    have hi := F.lt p hp
    have ho : ops[ord.getD p 0]? = some ops[ord.getD p 0] := getElem?_pos _ _ _
    obtain ⟨a'', h4, h5⟩ := hget (ord.getD p 0) _ (by rw [Array.getElem?_toList]; exact ho)
    rw [h1] at h4; cases h4
    rw [hb] at h3 hlt
    exact ⟨x, _, a', hx, ho, h1, h2, h5, h3, hlt⟩
  obtain ⟨nx, t⟩ := H
  have h : keepK nA nx (fun ids nx => drawK call xs fr ⟨nx, t⟩ [⟨nx, t⟩] 0 ids k) = some r := h
  rw [keepK_eq] at h
  obtain ⟨S, V, W, hS0, hstep, hend⟩ := draw_trace xs ⟨fr, ⟨keepE nA nx, t⟩, [⟨keepE nA nx, t⟩], 0, keepL nA nx⟩ (fun x hx => by
    obtain ⟨p, hp, e⟩ := List.getElem_of_mem hx
    obtain ⟨x', o, a', h1, _, _, _, _, h6, _⟩ := row p (by omega)
    rw [List.getElem?_eq_getElem hp, e] at h1
    cases h1
    rw [h6]; exact clsOf_le _) h
  rw [hxl] at hend
  let X : Nat → AI × DI := fun p => (xs[p]?).getD (⟨none, none, .bad⟩, ⟨0, 0⟩)
  let O : Nat → Oper := fun p => (ops[ord.getD p 0]?).getD default
  have rowX : ∀ p, p < ops.size → ∃ a', xs[p]? = some (X p) ∧ ops[ord.getD p 0]? = some (O p) ∧ l[ord.getD p 0]? = some a' ∧ looksOk ops (ord.getD p 0) a' = true ∧ compAI P n ops (O p) = some a' ∧ X p = (a', ⟨clsOf a'.o, dlo ops b l ord (ord.getD p 0) a'⟩) ∧ loAt b (heavyAt l) ord l.length (ord.getD p 0) < HM := by
    intro p hp
    obtain ⟨x, o, a', h1, h2, h3, h4, h5, h6, h7⟩ := row p hp
    have e1 : X p = x := by show (xs[p]?).getD _ = x; rw [h1]; rfl
    have e2 : O p = o := by show (ops[ord.getD p 0]?).getD _ = o; rw [h2]; rfl
    exact ⟨a', by rw [e1]; exact h1, by rw [e2]; exact h2, h3, h4, by rw [e2]; exact h5, by rw [e1]; exact h6, h7⟩
  have heavyX : ∀ p, p < ops.size → (heavyAt l (ord.getD p 0) = true ↔ (X p).2.cls = 3) := by
    intro p hp
    obtain ⟨a', _, _, h3, _, _, h6, _⟩ := rowX p hp
    rw [h6]
    unfold heavyAt clsAt
    rw [h3]
    simp
  have stepX : ∀ p, p < ops.size → DStep call (X p) (S p) (V p) (W p) (S (p + 1)) := fun p hp => by
    obtain ⟨a', h1, _⟩ := rowX p hp
    exact hstep p _ h1
  have cntX : ∀ m, m ≤ ops.size → (S m).n = cntH (heavyAt l) ord m := by
    intro m
    induction m with
    | zero => intro _; rw [hS0]; rfl
    | succ m ih =>
      intro hm
      have ih := ih (by omega)
      have st := stepX m (by omega)
      have hx := heavyX m (by omega)
      rw [cntH_succ _ _ _ (by rw [F.len]; omega), ← ih]
      by_cases e3 : (X m).2.cls = 3
      · rw [if_pos (hx.mpr e3)]; exact (st.hard e3).2.1
      · rw [if_neg (fun e => e3 (hx.mp e))]
        by_cases e2 : (X m).2.cls = 2
        · exact (st.mid e2).2.1
        · have : (X m).2.cls ≤ 3 := by obtain ⟨a', _, _, _, _, _, h6, _⟩ := rowX m (by omega); rw [h6]; exact clsOf_le _
          exact (st.light (by omega)).2.2.1
  let G : Rg P call n ops := {
    I := fun p => ord.getD p 0
    O := O
    X := X
    S := S
    V := V
    W := W
    hang := fun p q => (b.getD (ord.getD p 0) 0).testBit (ord.getD q 0) = true
    lt := F.lt
    op := fun p hp => by obtain ⟨a', _, h2, _⟩ := rowX p hp; exact h2
    pos := F.all
    inj := F.inj
    edge := fun p e hp he hbd => by
      obtain ⟨a', _, h2, _⟩ := rowX p hp
      obtain ⟨h3, h4⟩ := F.edge _ _ e (F.lt p hp) h2 he hbd
      obtain ⟨q, hq, e1⟩ := F.all _ h3
      exact ⟨q, hq, e1.symm, by rw [e1]; exact h4⟩
    close := fun p q hp hq hh => by
      obtain ⟨a', _, h2, _⟩ := rowX p hp
      obtain ⟨e, he, hbd, h3⟩ := F.close _ _ _ (F.lt p hp) h2 (F.lt q hq) hh
      obtain ⟨h4, _⟩ := F.edge _ _ e (F.lt p hp) h2 he hbd
      obtain ⟨t', ht', e1⟩ := F.all _ h4
      refine ⟨e, he, hbd, t', ht', e1.symm, ?_⟩
      rcases h3 with h3 | h3
      · exact .inl (F.inj _ _ ht' hq (by rw [e1, h3]))
      · exact .inr (by rw [e1]; exact h3)
    slots := fun p q d hp hq hpq hd hn => by
      obtain ⟨_, _, h2, _⟩ := rowX p hp
      obtain ⟨_, _, h3, _⟩ := rowX q hq
      exact F.slots _ _ _ _ d (F.lt p hp) (F.lt q hq) (fun e => hpq (F.inj p q hp hq e)) h2 h3 hd hn
    ahead := fun p q hp hq hh => F.ahead p q hp hq hh
    heavy := fun p q hp hq h3 => F.heavy p q hp hq ((heavyX p hp).mpr h3)
    dst := fun p hp => by
      obtain ⟨a', _, _, _, _, h5, h6, _⟩ := rowX p hp
      obtain ⟨d, g, h7, h8, _⟩ := compAI_some h5
      rw [h6, h8]; exact h7
    comp := fun p hp => by
      obtain ⟨a', _, _, _, _, h5, h6, _⟩ := rowX p hp
      obtain ⟨d, g, h7, h8, _⟩ := compAI_some h5
      rw [h6, h8]
    guard := fun p hp => by
      obtain ⟨a', _, _, _, _, h5, h6, _⟩ := rowX p hp
      obtain ⟨d, g, h7, h8, h9⟩ := compAI_some h5
      rw [h6, h8]; exact h9
    cls := fun p hp => by obtain ⟨a', _, _, _, _, _, h6, _⟩ := rowX p hp; rw [h6]
    cls3 := fun p hp => by obtain ⟨a', _, _, _, _, _, h6, _⟩ := rowX p hp; rw [h6]; exact clsOf_le _
    makes := fun p hp h2 => by
      obtain ⟨a', _, h3, _, h4, _, h6, _⟩ := rowX p hp
      unfold looksOk at h4
      rw [h3] at h4
      have h4 : ((!(clsOf a'.o == 2) || Vai.makes (O p).op) && (AOp.opds a'.o).all fun x => Opd.casesOn x (fun p_1 => ((O p).looksAt ops).any fun t => p_1.same (toPa t)) (fun _ => true)) = true := h4
      rw [Bool.and_eq_true] at h4
      have h5 : clsOf a'.o = 2 := by rw [h6] at h2; exact h2
      have := h4.1
      rw [h5] at this
      simpa using this
    looks := fun p x hp hx pa e => by
      obtain ⟨a', _, h3, _, h4, _, h6, _⟩ := rowX p hp
      unfold looksOk at h4
      rw [h3] at h4
      have h4 : ((!(clsOf a'.o == 2) || Vai.makes (O p).op) && (AOp.opds a'.o).all fun x => Opd.casesOn x (fun p_1 => ((O p).looksAt ops).any fun t => p_1.same (toPa t)) (fun _ => true)) = true := h4
      rw [Bool.and_eq_true] at h4
      rw [h6] at hx
      have := List.all_eq_true.mp h4.2 x hx
      subst e
      have this : (((O p).looksAt ops).any fun t => pa.same (toPa t)) = true := this
      obtain ⟨t', ht', e1⟩ := List.any_eq_true.mp this
      exact ⟨t', ht', Pa.same_eq e1⟩
    step := stepX
    lo := fun p hp => by
      obtain ⟨a', _, _, _, _, _, h6, h7⟩ := rowX p hp
      rw [h6, loOf_dlo h7, hlen]
      rcases loAt_some b (heavyAt l) ord (ord.getD p 0) ops.size with h1 | ⟨q, hq, h1, h2, h3⟩
      · exact .inl h1
      · refine .inr ⟨q, hq, (heavyX q hq).mp h1, h2, ?_⟩
        rw [cntX (q + 1) (by omega)]
        exact h3
    home := fun p hp hm => by
      obtain ⟨a', _, h2, _, _, _, h6, h7⟩ := rowX p hp
      rw [h6] at hm
      have hh := homed_of h7 hm
      unfold homed at hh
      rw [idx_at (by rw [F.len]; exact hp) (fun q hq e => F.inj q p (by rw [← F.len]; exact hq) hp e)] at hh
      rw [Bool.and_eq_true, Bool.and_eq_true, Bool.and_eq_true, h2] at hh
      obtain ⟨⟨⟨hld, _⟩, _⟩, hall⟩ := hh
      refine ⟨hld, fun m hmp hm2 hmn => ?_⟩
      have hmo : m < ops.size := by omega
      have := List.all_eq_true.mp hall m (List.mem_range.mpr hmp)
      obtain ⟨am, _, _, k3, _, _, k6, _⟩ := rowX m hmo
      have e1 : clsAt l (ord.getD m 0) = 2 := by
        unfold clsAt; rw [k3]
        rw [k6] at hm2; exact hm2
      rw [cntX m (by omega), cntX p (by omega)] at hmn
      rw [e1, hmn] at this
      simpa using this }
  have hids : ∀ m, m ≤ ops.size → ∃ c, (∀ i y, (S m).ids[i]? = some y → y.toN = nx.toN + c + i ∧ y.toN < nx.toN + nA) ∧ ∀ p, p < m → (X p).2.cls = 2 → nx.toN ≤ (G.id p).toN ∧ (G.id p).toN < nx.toN + c ∧ (G.id p).toN < nx.toN + nA ∧ ∀ q, q < p → (X q).2.cls = 2 → (G.id q).toN < (G.id p).toN := by
    intro m
    induction m with
    | zero =>
      intro _
      refine ⟨0, fun i y hy => ?_, fun p hp => by omega⟩
      rw [hS0] at hy
      obtain ⟨h1, h2⟩ := keepL_get _ _ _ _ hy
      omega
    | succ m ih =>
      intro hm
      obtain ⟨c, h1, h2⟩ := ih (by omega)
      have st := stepX m (by omega)
      by_cases e2 : (X m).2.cls = 2
      · obtain ⟨_, _, idm, h3⟩ := st.mid e2
        have hid : G.id m = idm := by show (S m).ids.headD .h = idm; rw [h3]; rfl
        have h0 := h1 0 idm (by rw [h3]; rfl)
        refine ⟨c + 1, fun i y hy => ?_, fun p hp hp2 => ?_⟩
        · have := h1 (i + 1) y (by rw [h3]; exact hy)
          omega
        · by_cases e : p = m
          · subst e
            rw [hid]
            refine ⟨by omega, by omega, by omega, fun q hq hq2 => ?_⟩
            have := h2 q hq hq2
            omega
          · have := h2 p (by omega) hp2
            exact ⟨this.1, by omega, this.2.2.1, this.2.2.2⟩
      · have hids : (S (m + 1)).ids = (S m).ids := by
          by_cases e3 : (X m).2.cls = 3
          · exact (st.hard e3).2.2
          · have : (X m).2.cls ≤ 3 := by obtain ⟨a', _, _, _, _, _, h6, _⟩ := rowX m (by omega); rw [h6]; exact clsOf_le _
            exact (st.light (by omega)).2.2.2
        refine ⟨c, fun i y hy => h1 i y (by rw [← hids]; exact hy), fun p hp hp2 => ?_⟩
        by_cases e : p = m
        · subst e; exact (e2 hp2).elim
        · exact h2 p (by omega) hp2
  obtain ⟨c, _, hidall⟩ := hids ops.size (Nat.le_refl _)
  have hId : G.Ids pr := by
    refine ⟨fun p q hp hq hp2 hq2 e => ?_, fun p hp hp2 hres => ?_⟩
    · rcases Nat.lt_trichotomy p q with g | g | g
      · have := (hidall q hq hq2).2.2.2 p g hp2; rw [e] at this; omega
      · exact g
      · have := (hidall p hp hp2).2.2.2 q g hq2; rw [e] at this; omega
    · have h1 := (hidall p hp hp2).1
      have h2 := (hat.ctx.rel.resv _ hres).2
      have h2 : (G.id p).toN < nx.toN := h2
      omega
  have hS0H : (G.S 0).H = ⟨keepE nA nx, t⟩ := by show (S 0).H = _; rw [hS0]
  have hinit : (G.S 0).Gs = [(G.S 0).H] := by show (S 0).Gs = [(S 0).H]; rw [hS0]
  have hL : ∀ p, G.L (Array.replicate ops.size false) p = false := fun p => by
    unfold Rg.L
    rw [Array.getD_eq_getD_getElem?, Array.getElem?_replicate]
    split <;> rfl
  have hnw : ∀ q, ¬ G.wait (Array.replicate ops.size false) 0 q := fun q hq => by
    have := hq.2.2.1; rw [hL] at this; cases this
  have Inv0 : G.Inv pr ι { w with drawn := w.drawn + 1 } (Array.replicate ops.size false) 0 (fun _ => 0) ι a { w with drawn := w.drawn + 1 } := by
    refine ⟨by simp, fun p q _ _ h1 => (by rw [hL] at h1; cases h1), Nat.zero_le _, .inl rfl, fun p hp => (by omega), fun p _ _ _ => hL p, fun s => ?_, hat.sz, hat.nd, fun p hp => (hnw p hp).elim, fun p q hp => (hnw p hp).elim, ?_, Ext.refl _, Fr.refl _ _⟩
    · have e1 : Tr.get un (G.fr (Array.replicate ops.size false) ops.size) (toPa s) = Tr.get un (G.S 0).fr (toPa s) := by
        have := frL_cut (L := G.L (Array.replicate ops.size false)) (d := G.d) (V := G.V) (fr0 := (G.S 0).fr) (q := toPa s) (m := 0) ops.size (fun q _ _ _ => hL q)
        rw [Nat.zero_add] at this
        exact this
      have e2 : (G.S 0).fr = fr := by show (S 0).fr = fr; rw [hS0]
      rw [e1, e2]; exact hat.ctx.fr s
    · rw [hS0H]
      refine hat.ctx.rel.reserve (by rw [keepE_toN]; omega) rfl ?_ ?_
      · funext b'
        exact propext ⟨fun q => q.elim (fun q => q) fun ⟨p, hp, _⟩ => (hnw p hp).elim, fun q => .inl q⟩
      · rintro x (q | ⟨p, hp, hp2, _, e⟩)
        · exact .inl q
        · refine .inr ?_
          rw [← e, keepE_toN]
          have := hidall p hp hp2
          exact ⟨this.1, this.2.2.1⟩
  have hany := Rg.Inv.any (w0 := { w with drawn := w.drawn + 1 }) hcall hinit hId (Q := Q) (fun ι' a' w' hext hfr hat' => hQ _ _ ι' a' w' hend hext hat' ⟨hfr.os, hfr.tape, hfr.output, hfr.size, hfr.keep⟩) ops.size _ 0 (fun _ => 0) ι a _ Inv0 (by
    unfold Rg.cnt
    exact Nat.le_trans (List.length_filter_le _ _) (by simp))
  intro t'
  simp only [Region.schedule, hmix, if_true]
  exact wpAny_sound ops.size t' _ a _ hany

/-- A function called: what the abstract run tells, the call gives. -/
theorem go_ok {R : Type} {Φ : Tr AF} {pr : Pr} (hΦ : TblOK P Φ) {fuel f : Nat} {args : List AV} {args' : Array Value} {ι : Emb} {H : Heap} {w : World} {k : HK R} {r : R} (hrel : Rel pr P.globals.size ι H w.heap) (hv : VRs ι args args'.toList)
    (h : goK Φ fuel (toPa f) args H k = some r) :
    Calls P f args' w fun e w' => ∃ v H' v' ι', k v H' = some r ∧ e = .returned v' ∧ Ext ι ι' ∧ Rel pr P.globals.size ι' H' w'.heap ∧ Fr pr w w' ∧ VR ι' v v' := goK_ok hΦ (drawOK P) hrel hv h
end
end Go.Vai

/- VAI, part g: from a table of functions and a world's beginning to a call. -/
namespace Go.Vai

/-- What holds of each place of a tree. -/
def Tr.Forall {α : Type} : (Pa → α → Prop) → Tr α → Prop
  | _, .leaf => True
  | Q, .node l x r => Q .h x ∧ Tr.Forall (fun p => Q (.l p)) l ∧ Tr.Forall (fun p => Q (.r p)) r
theorem Tr.Forall.get {α : Type} {d : α} : ∀ {Q : Pa → α → Prop} {t : Tr α}, t.Forall Q → (∀ p, Q p d) → ∀ p, Q p (Tr.get d t p)
  | Q, .leaf, _, hd, p => by rw [Tr.get_leaf]; exact hd p
  | Q, .node l x r, h, hd, .h => h.1
  | Q, .node l x r, h, hd, .l p => Tr.Forall.get (Q := fun p => Q (.l p)) h.2.1 (fun p => hd (.l p)) p
  | Q, .node l x r, h, hd, .r p => Tr.Forall.get (Q := fun p => Q (.r p)) h.2.2 (fun p => hd (.r p)) p

def EntryOK (P : Program) (p : Pa) (x : AF) : Prop := x = dfl ∨ (∃ fn, P.funcs[p.toN]? = some fn ∧ compF P fn = some x) ∨ (∃ g, x = .prim g ∧ PrimOK P p.toN g) ∨ ∃ z agg, x = .iter z agg ∧ IterOK P p.toN z agg
theorem entry_ok {P : Program} {fn : Func} {n : Nat} (h : P.funcs[n]? = some fn) : (compF P fn).getD dfl = dfl ∨ (∃ fn', P.funcs[n]? = some fn' ∧ compF P fn' = some ((compF P fn).getD dfl)) ∨ (∃ g, (compF P fn).getD dfl = .prim g ∧ PrimOK P n g) ∨ ∃ z agg, (compF P fn).getD dfl = .iter z agg ∧ IterOK P n z agg := by
  cases e : compF P fn with
  | none => exact .inl rfl
  | some x => exact .inr (.inl ⟨fn, h, e⟩)
theorem tblOK_of {P : Program} {Φ : Tr AF} (h : Φ.Forall (EntryOK P)) : TblOK P Φ := fun f => by
  have := h.get (d := dfl) (fun _ => .inl rfl) (toPa f)
  unfold EntryOK at this
  rw [toN_toPa] at this
  exact this

/-! The beginning: package-level variables that are read alone, and what their cells hold. -/
/-- The abstract memory: n variables; those that are known. -/
noncomputable def begin_ (n : Nat) (l : List (Nat × List AV)) : Heap := ⟨toPa n, l.foldl (fun t x => Tr.set .dead (.cells true 0 0 x.2.length (setCells x.2 0 .leaf)) t (toPa x.1)) .leaf⟩
/-- The model's block of a variable holds what is known of it. -/
def Knows (W : World) (x : Nat × List AV) : Prop := ∃ cs e f, W.heap[x.1]? = some (.cells cs e f) ∧ ∀ ι, VRs ι x.2 cs.toList
/-- All that was there is left alone. -/
def keepAll (W : World) : Pr := ⟨fun b => b < W.heap.size, fun _ => False, fun _ => False, []⟩
def cellsAt (W : World) (g : Nat) : Nat := match W.heap[g]? with | some (.cells cs _ _) => cs.size | _ => 0
def emb0 (n : Nat) (W : World) : Emb := fun p => if p.toN < n then some ⟨p.toN, 0, cellsAt W p.toN, cellsAt W p.toN⟩ else none

theorem begin_get : ∀ (l : List (Nat × List AV)) (t : Tr Blk) (p : Pa), Tr.get .dead (l.foldl (fun t x => Tr.set .dead (.cells true 0 0 x.2.length (setCells x.2 0 .leaf)) t (toPa x.1)) t) p = Tr.get .dead t p ∨
    ∃ x ∈ l, p = toPa x.1 ∧ Tr.get .dead (l.foldl (fun t x => Tr.set .dead (.cells true 0 0 x.2.length (setCells x.2 0 .leaf)) t (toPa x.1)) t) p = .cells true 0 0 x.2.length (setCells x.2 0 .leaf)
  | [], _, _ => .inl rfl
  | x :: l, t, p => by
    rcases begin_get l (Tr.set .dead (.cells true 0 0 x.2.length (setCells x.2 0 .leaf)) t (toPa x.1)) p with h | ⟨y, hy, h1, h2⟩
    · rw [List.foldl_cons, h, Tr.get_set]
      by_cases e : toPa x.1 = p
      · rw [if_pos e]; exact .inr ⟨x, List.mem_cons_self .., e.symm, rfl⟩
      · rw [if_neg e]; exact .inl rfl
    · exact .inr ⟨y, List.mem_cons_of_mem _ hy, h1, h2⟩

theorem begin_rel {W : World} {n : Nat} {l : List (Nat × List AV)} (hn : n ≤ W.heap.size) (hl : ∀ x ∈ l, x.1 < n ∧ Knows W x) : Rel (keepAll W) n (emb0 n W) (begin_ n l) W.heap := by
  have hget : ∀ p, (begin_ n l).get p = .dead ∨ ∃ x ∈ l, p = toPa x.1 ∧ (begin_ n l).get p = .cells true 0 0 x.2.length (setCells x.2 0 .leaf) := fun p => by
    rcases begin_get l .leaf p with h | h
    · rw [Tr.get_leaf] at h; exact .inl h
    · exact .inr h
  have hnext : (begin_ n l).next.toN = n := toN_toPa n
  refine ⟨fun a ha => ?_, fun a ha => ?_, fun a => ?_, fun a b j k _ hwa => ?_, fun a j hj => ?_, fun b hb => ?_, fun g hg => ⟨cellsAt W g, cellsAt W g, ?_⟩, fun a ha => ha.elim⟩
  · rw [hnext] at ha
    unfold emb0; rw [if_neg (by omega)]
  · rw [hnext] at ha
    rcases hget a with h | ⟨x, hx, e, _⟩
    · exact h
    · rw [e, toN_toPa] at ha
      have := (hl x hx).1; omega
  · rcases hget a with h | ⟨x, hx, e, h⟩
    · rw [h]; trivial
    · rw [h]
      obtain ⟨h1, cs, e', f, h2, h3⟩ := hl x hx
      have hj : emb0 n W a = some ⟨x.1, 0, cs.size, cs.size⟩ := by
        unfold emb0
        rw [e, toN_toPa, if_pos h1]
        unfold cellsAt; rw [h2]
      have hlen := VRs_length (h3 (emb0 n W))
      have hlen : cs.size = x.2.length := by simpa using hlen
      refine ⟨_, hj, CR.of _ _ true 0 0 e' x.2 _ ⟨x.1, 0, cs.size, cs.size⟩ _ cs f (by exact hlen) h2 (fun q => (q rfl).elim) rfl (by show 0 + x.2.length ≤ cs.size; omega) (fun i y hy => ?_) (fun i y hy => ?_) (fun q => (by cases q)), fun q => q⟩
      · have hi := lt_of_get hy
        rw [setCells_get, if_pos ⟨by omega, by omega⟩, Nat.sub_zero, hy]; rfl
      · obtain ⟨v, hv, hvr⟩ := VRs_get (h3 (emb0 n W)) i y hy
        rw [Array.getElem?_toList] at hv
        exact ⟨v, by show cs[0 + i]? = _; rw [Nat.zero_add]; exact hv, hvr⟩
  · rcases hget a with h | ⟨x, hx, e, h⟩
    · rw [h] at hwa; cases hwa
    · rw [h] at hwa; cases hwa
  · unfold emb0 at hj
    split at hj
    · cases hj; show a.toN < _; omega
    · cases hj
  · rcases hb with q | q
    · exact q
    · exact q.elim
  · unfold emb0; rw [toN_toPa, if_pos hg]

/-- The answer yes. -/
noncomputable def yesK : HK Unit := fun v _ => vB v fun b => Bool.casesOn b none (some ())
theorem yesK_some {v : AV} {H : Heap} (h : yesK v H = some ()) : v = .b true := by
  obtain ⟨b, e, h1⟩ := vB_some h
  cases b with
  | true => exact e
  | false => cases h1

/-- A law whose abstract run says yes. -/
theorem walk_of {P : Program} {Φ : Tr AF} (hΦ : TblOK P Φ) {fuel f : Nat} {args : List AV} {args' : Array Value} {W : World} {l : List (Nat × List AV)} (hn : P.globals.size ≤ W.heap.size) (hl : ∀ x ∈ l, x.1 < P.globals.size ∧ Knows W x)
    (hv : ∀ ι, VRs ι args args'.toList) (h : goK Φ fuel (toPa f) args (begin_ P.globals.size l) yesK = some ()) : Calls P f args' W fun e w' => e = .returned (.bool true) ∧ Go.RowKit.Below W.heap.size W w' := by
  refine (go_ok hΦ (begin_rel hn hl) (hv _) h).mono ?_
  rintro e w' ⟨v, H', v', ι', h1, rfl, _, _, hfr, hvr⟩
  rw [yesK_some h1] at hvr
  exact ⟨by rw [VRb hvr], ⟨hfr.os, hfr.tape, hfr.output, hfr.size, fun k hk => hfr.keep k (.inl hk)⟩⟩

/-- A table of numbers. -/
theorem knows_tab {P : Program} {W : World} {name : String} {k : IntKind} {zs : List Int} {g : Nat} (hg : P.globalNamed name = some g) (h : W.var? P name = some (zs.map fun z => Value.int k z).toArray) : Knows W (g, zs.map fun z => .i k z) := by
  unfold World.var? at h
  rw [hg, Option.bind_some] at h
  split at h
  · rename_i cs e f hb
    cases h
    refine ⟨_, e, f, hb, fun ι => ?_⟩
    rw [List.toList_toArray]
    refine VRs_of (by simp) fun i x y hx hy => ?_
    rw [List.getElem?_map, Option.map_eq_some_iff] at hx hy
    obtain ⟨z, hz, e1⟩ := hx
    obtain ⟨z', hz', e2⟩ := hy
    rw [hz] at hz'; cases hz'
    subst e1; subst e2; rfl
  · cases h
theorem knows_lt {W : World} {x : Nat × List AV} (h : Knows W x) : x.1 < W.heap.size := by
  obtain ⟨cs, e, f, h1, _⟩ := h
  exact (Array.getElem?_eq_some_iff.mp h1).1
end Go.Vai

/- VAI, part h: a law that first asks whether the chapter's example holds: that question is answered once, and the rest is run by itself. -/
namespace Go.Vai
section
variable {P : Program} {pr : Pr} {ng : Nat} {ι : Emb} {H : Heap}

theorem noCall_ok {R : Type} : CallOK P pr (fun _ _ _ _ => none : CallK R) := fun _ _ _ _ _ _ _ _ _ _ h => by cases h

/-- A law's rest: behind 'if !known() { return false }'. -/
noncomputable def restK (Φ : Tr AF) (fuel : Nat) (lA : List AI) (d : Option Pa) (lB : List AI) (oc : Opd) (r : AC) (res : List ARes) (args : List AV) (H : Heap) : Option Unit :=
  argsK args 0 .leaf fun fr => opsK (fun _ _ _ _ => none) lA fr H fun fr H => putK d (.b true) fr fun fr => opsK (fun _ _ _ _ => none) lB fr H fun fr H =>
    evK fr oc fun v => vB v fun t => Bool.casesOn t (runK Φ fuel Unit r fr H (leaveK res yesK)) none

theorem compC_seq {n : Nat} {cd : Code} {a b : AC} (h : compC P n cd = some (.seq a b)) : ∃ x y, cd = .seq x y ∧ compC P n x = some a ∧ compC P n y = some b := by
  unfold compC at h
  split at h <;> first | (cases h; done) | skip
  · obtain ⟨_, h⟩ := ite_none' h
    obtain ⟨l, _, h1⟩ := bind_some h
    split at h1
    · obtain ⟨_, _, e⟩ := compDraw_some h1; cases e
    · cases h1
  · rename_i x y
    obtain ⟨a', h1, h2⟩ := bind_some h
    obtain ⟨b', h3, e⟩ := map_some h2
    cases e
    exact ⟨x, y, rfl, h1, h3⟩
  · obtain ⟨_, _, h1⟩ := bind_some h
    obtain ⟨_, _, h2⟩ := bind_some h1
    obtain ⟨_, _, e⟩ := map_some h2; cases e
  · obtain ⟨_, _, e⟩ := map_some h; cases e
  · obtain ⟨_, _, e⟩ := map_some h; cases e
  · obtain ⟨_, h1⟩ := ite_none' h
    split at h1
    · obtain ⟨_, h2⟩ := ite_none' h1
      obtain ⟨_, _, h3⟩ := bind_some h2
      obtain ⟨_, _, h4⟩ := bind_some h3
      obtain ⟨_, _, e⟩ := map_some h4; cases e
    · cases h1
theorem compC_ops {n : Nat} {cd : Code} {l : List AI} (h : compC P n cd = some (.ops l)) : ∃ id ops, cd = .region id ops false ∧ ops.toList.mapM (compAI P n ops) = some l := by
  unfold compC at h
  split at h <;> first | (cases h; done) | skip
  · rename_i id ops draw
    obtain ⟨_, h⟩ := ite_none' h
    obtain ⟨l', hl, h1⟩ := bind_some h
    split at h1
    · obtain ⟨_, _, e⟩ := compDraw_some h1; cases e
    · rename_i hd
      cases h1
      refine ⟨id, ops, ?_, hl⟩
      cases draw with
      | true => exact (hd rfl).elim
      | false => rfl
  · obtain ⟨_, _, h2⟩ := bind_some h
    obtain ⟨_, _, e⟩ := map_some h2; cases e
  · obtain ⟨_, _, h1⟩ := bind_some h
    obtain ⟨_, _, h2⟩ := bind_some h1
    obtain ⟨_, _, e⟩ := map_some h2; cases e
  · obtain ⟨_, _, e⟩ := map_some h; cases e
  · obtain ⟨_, _, e⟩ := map_some h; cases e
  · obtain ⟨_, h1⟩ := ite_none' h
    split at h1
    · obtain ⟨_, h2⟩ := ite_none' h1
      obtain ⟨_, _, h3⟩ := bind_some h2
      obtain ⟨_, _, h4⟩ := bind_some h3
      obtain ⟨_, _, e⟩ := map_some h4; cases e
    · cases h1
theorem compC_cond {n : Nat} {cd : Code} {o : Opd} {a b : AC} (h : compC P n cd = some (.cond o a b)) : ∃ x c d, cd = .cond x c d ∧ compOpd P x = some o ∧ compC P n c = some a ∧ compC P n d = some b := by
  unfold compC at h
  split at h <;> first | (cases h; done) | skip
  · obtain ⟨_, h⟩ := ite_none' h
    obtain ⟨l, _, h1⟩ := bind_some h
    split at h1
    · obtain ⟨_, _, e⟩ := compDraw_some h1; cases e
    · cases h1
  · obtain ⟨_, _, h2⟩ := bind_some h
    obtain ⟨_, _, e⟩ := map_some h2; cases e
  · rename_i x c d
    obtain ⟨o', h1, h2⟩ := bind_some h
    obtain ⟨a', h3, h4⟩ := bind_some h2
    obtain ⟨b', h5, e⟩ := map_some h4
    cases e
    exact ⟨x, c, d, rfl, h1, h3, h5⟩
  · obtain ⟨_, _, e⟩ := map_some h; cases e
  · obtain ⟨_, _, e⟩ := map_some h; cases e

  · obtain ⟨_, h1⟩ := ite_none' h
    split at h1
    · obtain ⟨_, h2⟩ := ite_none' h1
      obtain ⟨_, _, h3⟩ := bind_some h2
      obtain ⟨_, _, h4⟩ := bind_some h3
      obtain ⟨_, _, e⟩ := map_some h4; cases e
    · cases h1
/-- What a call of a function is, by its text. -/
theorem compCall_fn {c : Call} {f : Nat} {args : List Opd} (h : compCall P c = some (.call (toPa f) args)) : c.callee = .value (.func f) ∧ compOpds P c.args = some args ∧ ∃ fn b, P.funcs[f]? = some fn ∧ fn.name ≠ "runtime.NumGoroutine" ∧ fn.body = some b := by
  unfold compCall at h
  split at h
  · rename_i g hcv
    obtain ⟨bs, h1, h2⟩ := bind_some h
    split at h2
    · rename_i fn hf
      obtain ⟨hn, h3⟩ := ite_none'' h2
      split at h3
      · rename_i b hb
        have h3 := Option.some.inj h3
        injection h3 with e1 e2
        have e1 := toPa_inj e1
        subst e1; subst e2
        exact ⟨hcv, h1, fn, b, hf, hn, hb⟩
      · obtain ⟨_, h4⟩ := ite_none'' h3
        split at h4
        · split at h4 <;> cases h4
        · split at h4
          · split at h4
            · split at h4 <;> cases h4
            · cases h4
          · split at h4
            · split at h4 <;> cases h4
            · cases h4
    · cases h2
  · obtain ⟨_, _, h2⟩ := bind_some h
    obtain ⟨_, _, e⟩ := map_some h2; cases e
  · obtain ⟨_, _, h2⟩ := bind_some h
    obtain ⟨_, _, e⟩ := map_some h2; cases e
  · obtain ⟨_, _, h2⟩ := bind_some h
    repeat' (split at h2)
    all_goals first | (cases h2; done) | skip
    all_goals (obtain ⟨_, e⟩ := ite_none h2; cases e)

theorem compOp_call {o : Oper} (hn : ∀ c, o.op ≠ .call c) {f : Pa} {bs : List Opd} (eo : compOp P o = some (.call f bs)) : False := by
  unfold compOp at eo
  split at eo
  all_goals first | (rename_i c ho; exact hn c ho) | skip
  all_goals (try unfold compConv at eo)
  all_goals repeat' (first | (cases eo; done) | (obtain ⟨_, _, e⟩ := map_some eo; cases e; done) | (replace eo := bind_some eo; obtain ⟨_, _, eo⟩ := eo) | (split at eo))

noncomputable def lawK (Φ : Tr AF) (fuel : Nat) (kn : Pa) (af : AF) (args : List AV) (H : Heap) : Option Unit :=
  match af with
  | .mk (.seq (.ops lA) (.seq (.seq (.ops (⟨d, none, .call g []⟩ :: lB)) (.cond oc _ .skip)) r)) res => guardK (g.same kn) (restK Φ fuel lA d lB oc r res args H)
  | _ => none

theorem knows_keep {W w : World} {x : Nat × List AV} (h : Knows W x) (hk : ∀ b, b < W.heap.size → w.heap[b]? = W.heap[b]?) : Knows w x := by
  obtain ⟨cs, e, f, h1, h2⟩ := h
  exact ⟨cs, e, f, by rw [hk _ (Array.getElem?_eq_some_iff.mp h1).1]; exact h1, h2⟩

theorem compC_skip {n : Nat} {cd : Code} (h : compC P n cd = some .skip) {Q : Exit → Act → World → Prop} {a : Act} {w : World} (hQ : Q .normal a w) : cd.wp P Q a w := by
  unfold compC at h
  split at h <;> first | (cases h; done) | skip
  · exact wp_skip hQ
  · obtain ⟨_, h⟩ := ite_none' h
    obtain ⟨l, _, h1⟩ := bind_some h
    split at h1
    · obtain ⟨_, _, e⟩ := compDraw_some h1; cases e
    · cases h1
  · obtain ⟨_, _, h2⟩ := bind_some h
    obtain ⟨_, _, e⟩ := map_some h2; cases e
  · obtain ⟨_, _, h1⟩ := bind_some h
    obtain ⟨_, _, h2⟩ := bind_some h1
    obtain ⟨_, _, e⟩ := map_some h2; cases e
  · obtain ⟨_, _, e⟩ := map_some h; cases e
  · obtain ⟨_, _, e⟩ := map_some h; cases e
  · exact wp_label hQ
  · obtain ⟨_, h1⟩ := ite_none' h
    split at h1
    · obtain ⟨_, h2⟩ := ite_none' h1
      obtain ⟨_, _, h3⟩ := bind_some h2
      obtain ⟨_, _, h4⟩ := bind_some h3
      obtain ⟨_, _, e⟩ := map_some h4; cases e
    · cases h1

/-- A law whose example holds, and whose rest says yes. -/
theorem law_of {Φ : Tr AF} (hΦ : TblOK P Φ) {fuel f kn : Nat} {fn : Func} (hf : P.funcs[f]? = some fn) {args : List AV} {args' : Array Value} {W : World} {l : List (Nat × List AV)} (hn : P.globals.size ≤ W.heap.size)
    (hl : ∀ x ∈ l, x.1 < P.globals.size ∧ Knows W x) (hv : ∀ ι, VRs ι args args'.toList)
    (hkn : ∀ w : World, P.globals.size ≤ w.heap.size → (∀ x ∈ l, Knows w x) → Calls P kn #[] w fun e w' => e = .returned (.bool true) ∧ Go.RowKit.Below w.heap.size w w')
    (h : lawK Φ fuel (toPa kn) ((compF P fn).getD dfl) args (begin_ P.globals.size l) = some ()) : Calls P f args' W fun e w' => e = .returned (.bool true) ∧ Go.RowKit.Below W.heap.size W w' := by
  generalize hH : begin_ P.globals.size l = H0 at h
  cases hcf : compF P fn with
  | none => rw [hcf] at h; cases h
  | some af =>
    rw [hcf] at h
    replace h : lawK Φ fuel (toPa kn) af args H0 = some () := h
    unfold lawK at h
    split at h
    · rename_i lA d g lB oc cT r res
      obtain ⟨hg, hrest⟩ := guardK_some h
      clear h
      have hg := Pa.same_eq hg
      subst hg
      obtain ⟨_, c, ac, rs, hb, hcc, hrs, e⟩ := compF_some hcf
      cases e
      obtain ⟨cA, c1, e1, hA, h1⟩ := compC_seq hcc
      obtain ⟨c2, cR, e2, h2, hR⟩ := compC_seq h1
      obtain ⟨cB, cC, e3, hB, hC⟩ := compC_seq h2
      obtain ⟨idA, opsA, e4, hlA⟩ := compC_ops hA
      obtain ⟨idB, opsB, e5, hlB⟩ := compC_ops hB
      obtain ⟨xo, cT', cS, e6, hxo, _, hS⟩ := compC_cond hC
      subst e1 e2 e3 e4 e5 e6
      refine (callsIn_wide.1 (callsIn_of_wp_marks (F := Fence.wide) (n := 0) (R := fun e w' => ∃ v H' v' ι', yesK v H' = some () ∧ e = .returned v' ∧ Ext ι' ι' ∧ Rel (keepAll W) P.globals.size ι' H' w'.heap ∧ Fr (keepAll W) W w' ∧ VR ι' v v') hf hb trivial (wpIn_wide.2 ?_))).mono ?_
      rotate_left
      · rintro e w' ⟨v, H', v', ι', q1, q2, _, _, q3, q4⟩
        rw [yesK_some q1] at q4
        rw [VRb q4] at q2
        exact ⟨q2, ⟨q3.os, q3.tape, q3.output, q3.size, fun b hb => q3.keep b (.inl hb)⟩⟩
      have R0 : Rel (keepAll W) P.globals.size (emb0 P.globals.size W) H0 W.heap := by rw [← hH]; exact begin_rel hn hl
      unfold restK at hrest
      obtain ⟨t', g1, g2⟩ := argsK_eq args 0 .leaf (fun fr => opsK (fun _ _ _ _ => none) lA fr H0 fun fr H => putK d (.b true) fr fun fr => opsK (fun _ _ _ _ => none) lB fr H fun fr H =>
        evK fr oc fun v => vB v fun t => Bool.casesOn t (runK Φ fuel Unit r fr H (leaveK res yesK)) none)
      rw [g1] at hrest
      have hat0 : At P (keepAll W) fn.ntmps (emb0 P.globals.size W) H0 t' { tmps := args' ++ Array.replicate (fn.ntmps - args'.size) undef, defers := [] } W :=
        ⟨⟨R0, args_ok (hv _) g2 _⟩, by show fn.ntmps ≤ (args' ++ Array.replicate (fn.ntmps - args'.size) undef).size; simp; omega, rfl⟩
      refine wp_seq (wp_region ?_)
      rw [List.range_eq_range']
      refine ops_ok hlA noCall_ok opsA.size 0 _ H0 t' _ W (by omega) hat0 hrest fun fr1 H1 ι1 a1 w1 k1 _ hat1 hfr1 => ?_
      show (Code.seq (Code.seq (Code.region idB opsB false) (Code.cond xo cT' cS)) cR).wp P _ a1 w1
      refine wp_seq (wp_seq (wp_region ?_))
      rw [putK_eq] at k1
      obtain ⟨hlen, hget⟩ := mapM_get hlB
      have hlen : lB.length + 1 = opsB.size := by simpa using hlen
      have h0 : 0 < opsB.size := by omega
      have ho0 : opsB[0]? = some opsB[0] := getElem?_pos _ _ _
      obtain ⟨ai, hai, hcomp⟩ := hget 0 opsB[0] (by rw [Array.getElem?_toList]; exact ho0)
      have hai : ai = ⟨d, none, .call (toPa kn) []⟩ := by simpa using hai.symm
      obtain ⟨d', g', hd, e7, hgd⟩ := compAI_some hcomp
      rw [hai] at e7
      have ed : d = d' := by injection e7
      have eg : g' = none := by injection e7 with _ q _; exact q.symm
      have eo : compOp P opsB[0] = some (.call (toPa kn) []) := by
        have : (compOp P opsB[0]).getD .bad = .call (toPa kn) [] := by injection e7 with _ _ q; exact q.symm
        cases hq : compOp P opsB[0] with
        | none => rw [hq] at this; cases this
        | some q => rw [hq] at this; exact congrArg some this
      subst ed
      have hguard : (opsB[0]).guard = none := by
        rcases hgd with ⟨q, _⟩ | ⟨_, _, _, _, _, _, q⟩
        · exact q
        · rw [eg] at q; cases q
      have hcall : ∃ c, (opsB[0]).op = .call c ∧ compCall P c = some (.call (toPa kn) []) := by
        cases ho : (opsB[0]).op
        case call c =>
          unfold compOp at eo
          rw [ho] at eo
          exact ⟨c, rfl, eo⟩
        all_goals exact (compOp_call (by rw [ho]; intro c e; cases e) eo).elim
      obtain ⟨c, ho, hcc2⟩ := hcall
      obtain ⟨hcv, hargs, fk, bk, hfk, hnk, hbk⟩ := compCall_fn hcc2
      have hempty : c.args = #[] := by
        have hm := (mapM_get (f := compOpd P) (l := c.args.toList) (ys := []) hargs).1
        exact Array.toList_eq_nil_iff.mp (List.eq_nil_of_length_eq_zero hm.symm)
      have hL : List.range opsB.size = 0 :: List.range' 1 lB.length := by
        rw [← hlen, List.range_eq_range']
        rfl
      rw [hL]
      show wpOps P opsB _ (0 :: List.range' 1 lB.length) a1 w1
      unfold wpOps
      rw [ho0]
      show (if Region.wanted opsB[0] (yielded opsB a1.tmps) then _ else _)
      have hw : Region.wanted opsB[0] (yielded opsB a1.tmps) = true := by unfold Region.wanted; rw [hguard]
      rw [hw, if_pos rfl]
      left
      have hrun : (execOp a1.eval opsB[0]).run P w1 = .ok (.enter kn #[]) w1 := by
        have hev : (Act.eval a1 (.func kn)) = .func (.func kn) #[] #[] := rfl
        rw [execOp_call ho, resolve_value hcv, hev, hempty]
        simp only [Deferred.ofValue, Sem.run_bind, Sem.run_pure, Result.andThen_ok, invoke]
        rw [show (#[] ++ Array.map a1.eval #[] ++ #[] : Array Value) = #[] by simp]
        exact run_callFunc_body hfk hnk hbk _
      unfold Oper.wp
      rw [hrun]
      have hkeep1 : ∀ b, b < W.heap.size → w1.heap[b]? = W.heap[b]? := fun b hb => hfr1.keep b (.inl hb)
      refine (hkn w1 (Nat.le_trans hn hfr1.size) fun x hx => knows_keep (hl x hx).2 hkeep1).mono ?_
      rintro e w2 ⟨rfl, hbel⟩
      have R2 : Rel (keepAll W) P.globals.size ι1 H1 w2.heap := hat1.ctx.rel.below hbel.size hbel.block
      have hat2 := hat1.put hd (Ext.refl ι1) R2 (v := .b true) (v' := .bool true) rfl
      have hfr2 : Fr (keepAll W) W w2 := ⟨hbel.os.trans hfr1.os, hbel.tape.trans hfr1.tape, hbel.output.trans hfr1.output, Nat.le_trans hfr1.size hbel.size, fun b hb => by
        have hb' : b < W.heap.size := by
          rcases hb with q | q
          · exact q
          · exact q.elim
        rw [hbel.block b (Nat.lt_of_lt_of_le hb' hfr1.size)]; exact hfr1.keep b hb⟩
      refine ops_ok hlB noCall_ok lB.length 1 ι1 H1 _ _ w2 (by omega) hat2 k1 fun fr3 H3 ι3 a3 w3 k3 _ hat3 hfr3 => ?_
      show (Code.cond xo cT' cS).wp P _ a3 w3
      rw [evK_eq] at k3
      obtain ⟨tt, e8, k4⟩ := vB_some k3
      cases tt with
      | true => cases k4
      | false =>
        have hvo := hat3.ctx.opd hxo
        rw [e8] at hvo
        refine wp_cond (VRb hvo) ?_
        rw [if_neg (by simp)]
        refine compC_skip hS ?_
        show cR.wp P _ a3 w3
        have k4 : runK Φ fuel Unit r fr3 H3 (leaveK res yesK) = some () := k4
        have hfr13 := hfr2.trans hfr3
        refine wpIn_wide.1 ((runK_ok hΦ (drawOK P) fuel).ok none 0 Unit (keepAll W) fn.ntmps cR r hR (fun q => by cases q) ι3 H3 fr3 a3 w3 _ () hat3 ⟨(fun d hd => by cases hd), List.Pairwise.nil⟩ k4 _ ?_).1
        intro e fr' H' ι' a' w' pr' h5 hext hat hfr hm
        have leave : resK res fr' H' (fun l => oneRes l H' yesK) = some () → LeavesInM Fence.wide 0 P fn a'.tmps (fun e w' => ∃ v H' v' ι', yesK v H' = some () ∧ e = .returned v' ∧ Ext ι' ι' ∧ Rel (keepAll W) P.globals.size ι' H' w'.heap ∧ Fr (keepAll W) W w' ∧ VR ι' v v') a'.defers .returning w' := by
          intro h6
          rw [hat.nd]
          have := leaves_ok (pr0 := keepAll W) (w0 := W) (ι0 := ι') hrs h6 (Ext.refl _) hat.ctx.fr pr'.ds w' (hat.ctx.rel.less hm.le hm.hard hm.res) (fun d hd => by
            obtain ⟨D, q1, q2, q3⟩ := hm.coll.1 d hd
            refine ⟨D, q1, q3, fun q => ?_⟩
            rcases hm.new d hd with g | ⟨D', g1, g2⟩
            · cases g
            · rw [q1] at g1
              cases g1
              exact g2 q) hm.coll.2 (hfr13.trans hfr)
          exact leaves_mono (fun e w' ⟨v, H', v', ι', q1, q2, _, q4, q5, q6⟩ => ⟨v, H', v', ι', q1, q2, Ext.refl _, q4, q5, q6⟩) (fun d hd => by obtain ⟨D, q, _⟩ := hm.coll.1 d hd; exact ⟨D, by rw [q]⟩) this
        cases e with
        | norm => exact leave h5
        | ret => exact leave h5
        | exit id => cases h5
    · cases h
end
end Go.Vai

/- VAI, part i: from a law's row to its walk: what the listed variables give; the classes of a number. -/
namespace Go.Vai
open Go

theorem size_of_laid {P : Program} {W : World} {l : List (String × DataW Unit)} {n : String} {d : DataW Unit} {g : Nat} (h : laidMet P l W) (hm : (n, d) ∈ l) (hg : P.globalNamed n = some g) : g < W.heap.size := by
  obtain ⟨g', t, cs, fuel, p, h1, _, h3, _⟩ := Lib.laidMet.reads h hm
  unfold World.var? at h3
  rw [hg, Option.bind_some] at h3
  split at h3
  · rename_i hb; exact (Array.getElem?_eq_some_iff.mp hb).1
  · cases h3

theorem knows_of_laid {P : Program} {W : World} {l : List (String × DataW Unit)} {name : String} {k : IntKind} {zs : List Int} {g : Nat} {t e : TypeId} {n : Nat} (h : laidMet P l W) (hm : (name, Lib.tabData k zs) ∈ l)
    (hg : P.globalNamed name = some g) (hty : (P.globals[g]?).map (·.type) = some t) (ht : P.underlying t = some (.array n e)) (he : P.underlying e = some (.int k)) (hce : P.cellsOf e = 1) (hct : P.cellsOf t = n) : Knows W (g, zs.map fun z => .i k z) := by
  obtain ⟨g', t', cs, fuel, p, h1, h2, h3, h4⟩ := Lib.laidMet.reads h hm
  obtain rfl := Option.some.inj (hg.symm.trans h1)
  obtain rfl := Option.some.inj (hty.symm.trans h2)
  refine knows_tab hg ?_
  rw [h3, ← Lib.cells_of_tab ht he hce hct h4]

/-- The class of a number by a modulus: its rest, its side of nought. -/
def clsR (n : Nat) (a : Int) : Nat := a.natAbs % n
def clsS (a : Int) : Nat := if a < 0 then 1 else 0
theorem clsR_lt {n : Nat} (h : 0 < n) (a : Int) : clsR n a < n := Nat.mod_lt _ h
theorem clsS_lt (a : Int) : clsS a < 2 := by unfold clsS; split <;> omega
theorem symI_cls (n : Nat) (a : Int) : SymI n (clsR n a) (clsS a) a := by
  unfold clsR clsS
  cases a with
  | ofNat m => rw [if_neg (show ¬ Int.ofNat m < 0 from Int.not_lt.mpr (Int.natCast_nonneg m))]; exact .inr (.inl ⟨by omega, by unfold EU; omega, m, rfl, rfl, Nat.zero_le _⟩)
  | negSucc m => rw [if_pos (Int.negSucc_lt_zero m)]; exact .inl ⟨rfl, m, rfl, rfl⟩
theorem vr_cls (n : Nat) (a : Int) (ι : Emb) : VR ι (.mp n (clsR n a) (clsS a)) (.int .i64 a) := ⟨a, rfl, symI_cls n a⟩

/-- The class of a number by its rest from nought on. -/
def clsE (n : Nat) (a : Int) : Nat := (a % (n : Int)).toNat
theorem clsE_lt {n : Nat} (h : 0 < n) (a : Int) : clsE n a < n := by
  unfold clsE
  have := Int.emod_lt_of_pos a (b := (n : Int)) (by omega)
  have := Int.emod_nonneg a (b := (n : Int)) (by omega)
  omega
theorem symI_eu {n : Nat} (h : 0 < n) (a : Int) : SymI n (clsE n a) EU a := by
  refine .inr (.inr ⟨rfl, ?_⟩)
  unfold clsE
  have := Int.emod_nonneg a (b := (n : Int)) (by omega)
  omega
theorem vr_eu {n : Nat} (h : 0 < n) (a : Int) (ι : Emb) : VR ι (.mp n (clsE n a) EU) (.int .i64 a) := ⟨a, rfl, symI_eu h a⟩

noncomputable def isY (x : Option Unit) : Bool := Option.casesOn x false fun _ => true
theorem isY_some {x : Option Unit} (h : isY x = true) : x = some () := by
  cases x with
  | none => cases h
  | some u => rfl

noncomputable def and2 (a b : Bool) : Bool := Bool.casesOn a false b
theorem and2_l {a b : Bool} (h : and2 a b = true) : a = true := (casesB h).1
theorem and2_r {a b : Bool} (h : and2 a b = true) : b = true := (casesB h).2
/-- All below a number. -/
noncomputable def allN (f : Nat → Bool) (n : Nat) : Bool := Nat.rec true (fun m ih => Bool.casesOn (f m) false ih) n
theorem allN_get {f : Nat → Bool} : ∀ {n : Nat}, allN f n = true → ∀ m, m < n → f m = true
  | 0, _, m, h => by omega
  | n + 1, h, m, hm => by
    have h : (Bool.casesOn (f n) false (allN f n) : Bool) = true := h
    obtain ⟨h1, h2⟩ := casesB h
    by_cases e : m = n
    · subst e; exact h1
    · exact allN_get h2 m (by omega)
end Go.Vai

/- VAI, part j: there is an input that fits. -/
namespace Go.Vai
open Go

/-- There is an input that fits: at a world whose variables lead to rows. -/
theorem witness_row_shaped {H : Type} {enc : TypeId × Value → H} {C : Checked} {os : Os} {f : FuncId} {fn : Func} {s : OpenSpec} {conds : List PathCond} {apart : Bool} {laid : List (String × DataW Unit)} (modest : Bool) (w0 : World) (args : Array Value) (hos : w0.os = os)
    (hsh : (w0.forCall (fun _ _ => 0) ⟨#[], args, []⟩).Shaped C.prog)
    (hok : Input.okWideB C.prog (w0.forCall (fun _ _ => 0) ⟨#[], args, []⟩) f ⟨#[], args, []⟩ = true)
    (hrow : s.preRow enc C.prog fn conds apart laid (w0.forCall (fun _ _ => 0) ⟨#[], args, []⟩).memory args) :
    ∃ (w : World) (tape : Tape) (i : Input), w.os = os ∧ (w.forCall tape i).Shaped C.prog ∧ i.vars = [] ∧ Input.okWide C.prog (w.forCall tape i) .any w.heap.size f i ∧
      s.preRow enc C.prog fn conds apart laid (w.forCall tape i).memory i.args ∧ ({ modest := modest } : Assume).holds C.prog (lone (Frame.enter C.prog f i.args .normal) [] (w.forCall tape i)) :=
  ⟨w0, fun _ _ => 0, ⟨#[], args, []⟩, hos, hsh, (Input.okWide_of_okWideB (base := 0) hok).1, (Input.okWide_of_okWideB hok).2, hrow, by
    simp only [Assume.holds]
    exact ⟨by simp, by simp, fun _ => Modest.zero, by simp, by simp⟩⟩
end Go.Vai
