/- VAI, part a: a region that draws: its operations by their places in the one order. -/
import Derived.Test.YtpoojngeloajhaaGreatDoorV25
namespace Go.Vai

/-- A region that draws, and its one run, by places. -/
structure Rg (P : Program) (call : Call1) (n : Nat) (ops : Array Oper) where
  I : Nat → Nat
  O : Nat → Oper
  X : Nat → AI × DI
  S : Nat → DSt
  V : Nat → AV
  W : Nat → Bool
  hang : Nat → Nat → Prop
  lt : ∀ p, p < ops.size → I p < ops.size
  op : ∀ p, p < ops.size → ops[I p]? = some (O p)
  pos : ∀ i, i < ops.size → ∃ p, p < ops.size ∧ I p = i
  inj : ∀ p q, p < ops.size → q < ops.size → I p = I q → p = q
  edge : ∀ p e, p < ops.size → e ∈ (O p).after.toList → Region.binds .any e = true → ∃ q, q < ops.size ∧ e.on = I q ∧ hang p q
  close : ∀ p q, p < ops.size → q < ops.size → hang p q → ∃ e ∈ (O p).after.toList, Region.binds .any e = true ∧ ∃ t, t < ops.size ∧ e.on = I t ∧ (t = q ∨ hang t q)
  slots : ∀ p q d, p < ops.size → q < ops.size → p ≠ q → (O p).dst = some d → ((O q).dst = some d ∨ d ∈ (O q).looksAt ops) → hang p q ∨ hang q p
  ahead : ∀ p q, p < ops.size → q < ops.size → hang p q → q < p
  heavy : ∀ p q, p < ops.size → q < p → (X p).2.cls = 3 → hang p q
  dst : ∀ p, p < ops.size → compDst n (O p).dst = some (X p).1.d
  comp : ∀ p, p < ops.size → (X p).1.o = (compOp P (O p)).getD .bad
  guard : ∀ p, p < ops.size → ((O p).guard = none ∧ (X p).1.g = none) ∨ ∃ j want t, (O p).guard = some (j, want) ∧ (ops[j]?).bind (·.dst) = some t ∧ t < n ∧ (X p).1.g = some (toPa t, want)
  cls : ∀ p, p < ops.size → (X p).2.cls = clsOf (X p).1.o
  cls3 : ∀ p, p < ops.size → (X p).2.cls ≤ 3
  makes : ∀ p, p < ops.size → (X p).2.cls = 2 → Vai.makes (O p).op = true
  looks : ∀ p x, p < ops.size → x ∈ (X p).1.o.opds → ∀ pa, x = .t pa → ∃ t ∈ (O p).looksAt ops, pa = toPa t
  step : ∀ p, p < ops.size → DStep call (X p) (S p) (V p) (W p) (S (p + 1))
  lo : ∀ p, p < ops.size → (X p).2.lo = 0 ∨ ∃ q, q < ops.size ∧ (X q).2.cls = 3 ∧ hang p q ∧ (X p).2.lo = (S (q + 1)).n

theorem clsOf_le (o : AOp) : clsOf o ≤ 3 := by unfold clsOf; split <;> omega


section
variable {P : Program} {call : Call1} {n : Nat} {ops : Array Oper} (G : Rg P call n ops)

/-- Listed, by places. -/
def Rg.L (listed : Array Bool) (p : Nat) : Bool := listed.getD (G.I p) false
def Rg.d (p : Nat) : Option Pa := (G.X p).1.d
/-- An id that was kept for a place. -/
def Rg.id (p : Nat) : Pa := (G.S p).ids.headD .h
noncomputable def Rg.fr (listed : Array Bool) (m : Nat) : Tr AV := frL (G.L listed) G.d G.V (G.S 0).fr m

theorem Rg.fr_all : ∀ m, m ≤ ops.size → (G.S m).fr = frL (fun _ => true) G.d G.V (G.S 0).fr m
  | 0, _ => rfl
  | m + 1, h => by
    rw [(G.step m (by omega)).fr, Rg.fr_all m (by omega)]
    rfl

/-- What is listed is closed. -/
def Rg.Closed (listed : Array Bool) : Prop := ∀ p q, p < ops.size → q < ops.size → G.L listed p = true → G.hang p q → G.L listed q = true

theorem Rg.ready_hang {listed : Array Bool} (hc : G.Closed listed) {p : Nat} (hp : p < ops.size) (hr : G.I p ∈ Region.ready .any ops listed) {q : Nat} (hq : q < ops.size) (hh : G.hang p q) : G.L listed q = true := by
  obtain ⟨_, o, ho, hall⟩ := mem_ready.mp hr
  rw [G.op p hp] at ho; cases ho
  obtain ⟨e, he, hb, t, ht, h1, h2⟩ := G.close p q hp hq hh
  have := hall e (Array.mem_toList_iff.mp he) hb
  rw [h1] at this
  rcases h2 with h2 | h2
  · subst h2; exact this
  · exact hc t q ht hq this h2

/-- The slots that an operation names are, when it comes, as they were in the one run. -/
theorem Rg.slot {listed : Array Bool} (hc : G.Closed listed) {p : Nat} (hp : p < ops.size) (hr : G.I p ∈ Region.ready .any ops listed) (hn : G.L listed p = false) {t : Tmp} (ht : (G.O p).dst = some t ∨ t ∈ (G.O p).looksAt ops) :
    (∀ q, p ≤ q → q < ops.size → G.d q = some (toPa t) → G.L listed q = false) ∧ Tr.get un (G.fr listed ops.size) (toPa t) = Tr.get un (G.S p).fr (toPa t) := by
  have hd : ∀ q, q < ops.size → G.d q = some (toPa t) → (G.O q).dst = some t := by
    intro q hq e
    have h1 := G.dst q hq
    have e : (G.X q).1.d = some (toPa t) := e
    rw [e] at h1
    cases h2 : (G.O q).dst with
    | none => rw [h2] at h1; cases h1
    | some t' =>
      rw [h2] at h1
      obtain ⟨_, h3⟩ := ite_none h1
      have := toPa_inj (Option.some.inj h3)
      rw [this]
  have later : ∀ q, p ≤ q → q < ops.size → G.d q = some (toPa t) → G.L listed q = false := by
    intro q hpq hq e
    by_cases hqp : q = p
    · subst hqp; exact hn
    · rcases G.slots q p t hq hp hqp (hd q hq e) ht with h1 | h1
      · cases hL : G.L listed q with
        | false => rfl
        | true => have := hc q p hq hp hL h1; rw [hn] at this; cases this
      · have := G.ahead p q hp hq h1; omega
  refine ⟨later, ?_⟩
  have h1 : Tr.get un (G.fr listed ops.size) (toPa t) = Tr.get un (G.fr listed p) (toPa t) := by
    have := frL_cut (L := G.L listed) (d := G.d) (V := G.V) (fr0 := (G.S 0).fr) (q := toPa t) (m := p) (ops.size - p) (fun q h1 h2 h3 => later q h1 (by omega) h3)
    rw [show p + (ops.size - p) = ops.size by omega] at this
    exact this
  rw [h1, G.fr_all p (by omega)]
  refine frL_congr p fun q hq e => ?_
  have hqN : q < ops.size := by omega
  rcases G.slots q p t hqN hp (by omega) (hd q hqN e) ht with h2 | h2
  · have := G.ahead q p hqN hp h2; omega
  · exact G.ready_hang hc hp hr hqN h2

theorem Rg.L_set {listed : Array Bool} (hs : listed.size = ops.size) {p : Nat} (hp : p < ops.size) (q : Nat) (hq : q < ops.size) : G.L (listed.setIfInBounds (G.I p) true) q = (if q = p then true else G.L listed q) := by
  unfold Rg.L
  by_cases e : q = p
  · subst e
    rw [if_pos rfl]
    have : G.I q < listed.size := by rw [hs]; exact G.lt q hq
    simp [this]
  · rw [if_neg e]
    exact getD_set_ne false fun e' => e (G.inj p q hp hq e').symm

theorem Rg.closed_set {listed : Array Bool} (hs : listed.size = ops.size) (hc : G.Closed listed) {p : Nat} (hp : p < ops.size) (hr : G.I p ∈ Region.ready .any ops listed) : G.Closed (listed.setIfInBounds (G.I p) true) := by
  intro q t hq ht h1 h2
  rw [G.L_set hs hp _ hq] at h1
  rw [G.L_set hs hp _ ht]
  split
  · rfl
  · split at h1
    · rename_i e; subst e; exact G.ready_hang hc hp hr ht h2
    · exact hc q t hq ht h1 h2

/-- The frame behind an operation. -/
theorem Rg.fr_set {listed : Array Bool} (hs : listed.size = ops.size) (hc : G.Closed listed) {p : Nat} (hp : p < ops.size) (hr : G.I p ∈ Region.ready .any ops listed) (hn : G.L listed p = false) {ι : Emb} {a : Act} {v' : Value}
    (hfr : FR ι (G.fr listed ops.size) a) (hsz : n ≤ a.tmps.size) (hv : VR ι (G.V p) v') : FR ι (G.fr (listed.setIfInBounds (G.I p) true) ops.size) (a.put (G.O p).dst v') := by
  have hput : FR ι (put (G.d p) (G.V p) (G.fr listed ops.size)) (a.put (G.O p).dst v') := by
    have hd := G.dst p hp
    cases h2 : (G.O p).dst with
    | none =>
      rw [h2] at hd
      have : G.d p = none := (Option.some.inj hd).symm
      rw [this]
      exact hfr
    | some t =>
      rw [h2] at hd
      obtain ⟨h3, h4⟩ := ite_none hd
      have : G.d p = some (toPa t) := h4.symm
      rw [this]
      exact hfr.put (Nat.lt_of_lt_of_le h3 hsz) hv
  intro t
  have := hput t
  have e : Tr.get un (G.fr (listed.setIfInBounds (G.I p) true) ops.size) (toPa t) = Tr.get un (put (G.d p) (G.V p) (G.fr listed ops.size)) (toPa t) := by
    rw [put_get]
    by_cases hd : G.d p = some (toPa t)
    · rw [if_pos hd]
      have hdst : (G.O p).dst = some t := by
        have h1 := G.dst p hp
        have hd : (G.X p).1.d = some (toPa t) := hd
        rw [hd] at h1
        cases h2 : (G.O p).dst with
        | none => rw [h2] at h1; cases h1
        | some t' =>
          rw [h2] at h1
          obtain ⟨_, h3⟩ := ite_none h1
          rw [toPa_inj (Option.some.inj h3)]
      obtain ⟨later, _⟩ := G.slot hc hp hr hn (.inl hdst)
      have h1 : Tr.get un (G.fr (listed.setIfInBounds (G.I p) true) ops.size) (toPa t) = Tr.get un (G.fr (listed.setIfInBounds (G.I p) true) (p + 1)) (toPa t) := by
        have := frL_cut (L := G.L (listed.setIfInBounds (G.I p) true)) (d := G.d) (V := G.V) (fr0 := (G.S 0).fr) (q := toPa t) (m := p + 1) (ops.size - (p + 1)) (fun q h1 h2 h3 => by
          rw [G.L_set hs hp q (by omega), if_neg (by omega)]
          exact later q (by omega) (by omega) h3)
        rw [show p + 1 + (ops.size - (p + 1)) = ops.size by omega] at this
        exact this
      rw [h1]
      show Tr.get un (Bool.casesOn (G.L (listed.setIfInBounds (G.I p) true) p) (G.fr _ p) (put (G.d p) (G.V p) (G.fr _ p))) (toPa t) = _
      rw [G.L_set hs hp p hp, if_pos rfl]
      show Tr.get un (put (G.d p) (G.V p) (G.fr _ p)) (toPa t) = _
      rw [put_get, if_pos hd]
    · rw [if_neg hd]
      refine frL_congr _ fun q hq e => ?_
      rw [G.L_set hs hp q hq, if_neg (fun e' => hd (by rw [← e']; exact e))]
  rw [e]; exact this
end
end Go.Vai
