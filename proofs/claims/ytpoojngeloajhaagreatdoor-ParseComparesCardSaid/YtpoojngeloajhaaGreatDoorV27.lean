/- VAI, part b: a region that draws: what holds whatever was done first. -/
import Derived.Test.YtpoojngeloajhaaGreatDoorV26
namespace Go.Vai
section
variable {P : Program} {call : Call1} {n : Nat} {ops : Array Oper} (G : Rg P call n ops)

/-- A place whose block is there, and not yet in the one run's memory. -/
def Rg.wait (listed : Array Bool) (T p : Nat) : Prop := T ≤ p ∧ p < ops.size ∧ G.L listed p = true ∧ (G.X p).2.cls = 2 ∧ G.W p = true
def Rg.prD (pr : Pr) (listed : Array Bool) (T : Nat) (blk : Nat → Nat) : Pr :=
  ⟨pr.soft, fun b => pr.hard b ∨ ∃ p, G.wait listed T p ∧ blk p = b, fun x => pr.res x ∨ ∃ p, p < ops.size ∧ (G.X p).2.cls = 2 ∧ G.L listed p = false ∧ G.id p = x⟩

structure Rg.Inv (pr : Pr) (ι0 : Emb) (w0 : World) (listed : Array Bool) (T : Nat) (blk : Nat → Nat) (ι : Emb) (a : Act) (w : World) : Prop where
  size : listed.size = ops.size
  closed : G.Closed listed
  tle : T ≤ ops.size
  bound : T = 0 ∨ ∃ q, T = q + 1 ∧ (G.X q).2.cls = 3
  pre : ∀ p, p < T → G.L listed p = true
  nohv : ∀ p, T ≤ p → p < ops.size → (G.X p).2.cls = 3 → G.L listed p = false
  fr : FR ι (G.fr listed ops.size) a
  sz : n ≤ a.tmps.size
  nd : a.defers = []
  pend : ∀ p, G.wait listed T p → ∃ e l f, mkK (G.X p).1.o (G.S p).fr mkPair = some (e, l, f) ∧ Pend ι w.heap pr (G.id p) l e (blk p)
  inj : ∀ p q, G.wait listed T p → G.wait listed T q → blk p = blk q → p = q
  rel : Rel (G.prD pr listed T blk) P.globals.size ι (G.S T).H w.heap
  ext : Ext ι0 ι
  frm : Fr pr w0 w

theorem Rg.prD_pr (pr : Pr) (listed : Array Bool) (T : Nat) (blk : Nat → Nat) (b : Nat) (h : pr b) : G.prD pr listed T blk b := by
  rcases h with h | h
  · exact .inl h
  · exact .inr (.inl h)

/-- Where the operation of a place stands. -/
theorem Rg.Inv.at_ {G : Rg P call n ops} {pr : Pr} {ι0 ι : Emb} {w0 w : World} {listed : Array Bool} {T : Nat} {blk : Nat → Nat} {a : Act} (h : G.Inv pr ι0 w0 listed T blk ι a w) : At P (G.prD pr listed T blk) n ι (G.S T).H (G.fr listed ops.size) a w :=
  ⟨⟨h.rel, h.fr⟩, h.sz, h.nd⟩

theorem Rg.op_slots {listed : Array Bool} (hc : G.Closed listed) {p : Nat} (hp : p < ops.size) (hr : G.I p ∈ Region.ready .any ops listed) (hn : G.L listed p = false) :
    (∀ x ∈ (G.X p).1.o.opds, ev (G.fr listed ops.size) x = ev (G.S p).fr x) ∧ wantB (G.X p).1.g (G.fr listed ops.size) = wantB (G.X p).1.g (G.S p).fr := by
  refine ⟨fun x hx => ?_, ?_⟩
  · cases x with
    | c v => rfl
    | t pa =>
      obtain ⟨t, ht, e⟩ := G.looks p _ hp hx pa rfl
      subst e
      exact (G.slot hc hp hr hn (.inr ht)).2
  · rcases G.guard p hp with ⟨_, h2⟩ | ⟨j, want, t, h1, h2, h3, h4⟩
    · rw [h2]; rfl
    · rw [h4]
      refine wantB_congr ?_
      refine (G.slot hc hp hr hn (.inr ?_)).2
      unfold Oper.looksAt
      rw [h1]
      refine List.mem_append_right _ ?_
      show t ∈ ((ops[j]?).bind (·.dst)).toList
      rw [h2]; simp

/-- Is it wanted? As in the one run. -/
theorem Rg.Inv.wanted {G : Rg P call n ops} {pr : Pr} {ι0 ι : Emb} {w0 w : World} {listed : Array Bool} {T : Nat} {blk : Nat → Nat} {a : Act} (h : G.Inv pr ι0 w0 listed T blk ι a w) {p : Nat} (hp : p < ops.size)
    (hr : G.I p ∈ Region.ready .any ops listed) (hn : G.L listed p = false) : Region.wanted (G.O p) (yielded ops a.tmps) = G.W p := by
  have h1 : wantB (G.X p).1.g (G.fr listed ops.size) = some (G.W p) := by rw [(G.op_slots h.closed hp hr hn).2]; exact (G.step p hp).want
  have h2 : wantK (G.X p).1.g (G.fr listed ops.size) some = some (G.W p) := h1
  have := want_ok (ops := ops) h.at_ (G.guard p hp) h2
  exact Option.some.inj this

theorem Rg.Inv.place {G : Rg P call n ops} {pr : Pr} {ι0 ι : Emb} {w0 w : World} {listed : Array Bool} {T : Nat} {blk : Nat → Nat} {a : Act} (h : G.Inv pr ι0 w0 listed T blk ι a w) {p : Nat} (hn : G.L listed p = false) : T ≤ p := by
  rcases Nat.lt_or_ge p T with g | g
  · rw [h.pre p g] at hn; cases hn
  · exact g

theorem Rg.wait_set {listed : Array Bool} (hs : listed.size = ops.size) {p : Nat} (hp : p < ops.size) {T q : Nat} (hno : ¬ ((G.X p).2.cls = 2 ∧ G.W p = true)) : G.wait (listed.setIfInBounds (G.I p) true) T q ↔ G.wait listed T q := by
  unfold Rg.wait
  constructor
  · rintro ⟨h1, h2, h3, h4, h5⟩
    rw [G.L_set hs hp q h2] at h3
    by_cases e : q = p
    · subst e; exact (hno ⟨h4, h5⟩).elim
    · rw [if_neg e] at h3; exact ⟨h1, h2, h3, h4, h5⟩
  · rintro ⟨h1, h2, h3, h4, h5⟩
    refine ⟨h1, h2, ?_, h4, h5⟩
    rw [G.L_set hs hp q h2]
    split
    · rfl
    · exact h3

/-- An operation that leaves memory as it was. -/
theorem Rg.Inv.light {G : Rg P call n ops} {pr : Pr} {ι0 ι : Emb} {w0 w : World} {listed : Array Bool} {T : Nat} {blk : Nat → Nat} {a : Act} (h : G.Inv pr ι0 w0 listed T blk ι a w) {p : Nat} (hp : p < ops.size)
    (hr : G.I p ∈ Region.ready .any ops listed) (hn : G.L listed p = false) (hno : ¬ ((G.X p).2.cls = 2 ∧ G.W p = true)) (h3 : (G.X p).2.cls ≠ 3) {v' : Value} (hv : VR ι (G.V p) v') :
    G.Inv pr ι0 w0 (listed.setIfInBounds (G.I p) true) T blk ι (a.put (G.O p).dst v') w := by
  have hw : ∀ q, G.wait (listed.setIfInBounds (G.I p) true) T q ↔ G.wait listed T q := fun q => G.wait_set h.size hp hno
  refine ⟨by rw [Array.size_setIfInBounds]; exact h.size, G.closed_set h.size h.closed hp hr, h.tle, h.bound, fun q hq => ?_, fun q h1 h2 h4 => ?_, G.fr_set h.size h.closed hp hr hn h.fr h.sz hv, ?_, ?_, fun q hq => h.pend q ((hw q).mp hq), fun q t hq ht => h.inj q t ((hw q).mp hq) ((hw t).mp ht), ?_, h.ext, h.frm⟩
  · rw [G.L_set h.size hp q (Nat.lt_of_lt_of_le hq h.tle)]
    split
    · rfl
    · exact h.pre q hq
  · rw [G.L_set h.size hp q h2]
    split
    · rename_i e; subst e; exact (h3 h4).elim
    · exact h.nohv q h1 h2 h4
  · cases hd : (G.O p).dst with
    | none => exact h.sz
    | some d => show n ≤ (a.tmps.setIfInBounds d v').size; rw [Array.size_setIfInBounds]; exact h.sz
  · cases hd : (G.O p).dst with
    | none => exact h.nd
    | some d => exact h.nd
  · refine h.rel.weaken ?_ ?_ ?_
    · rintro b (q | q | ⟨q, h1, h2⟩)
      · exact .inl q
      · exact .inr (.inl q)
      · exact .inr (.inr ⟨q, (hw q).mp h1, h2⟩)
    · rintro b (q | ⟨q, h1, h2⟩)
      · exact .inl q
      · exact .inr ⟨q, (hw q).mp h1, h2⟩
    · rintro x (q | ⟨q, h1, h2, h4, h5⟩)
      · exact .inl q
      · refine .inr ⟨q, h1, h2, ?_, h5⟩
        rw [G.L_set h.size hp q h1] at h4
        split at h4
        · cases h4
        · exact h4

/-- The ids are kept apart. -/
structure Rg.Ids (pr : Pr) : Prop where
  inj : ∀ p q, p < ops.size → q < ops.size → (G.X p).2.cls = 2 → (G.X q).2.cls = 2 → G.id p = G.id q → p = q
  out : ∀ p, p < ops.size → (G.X p).2.cls = 2 → ¬ pr.res (G.id p)

/-- An operation that makes a block: it waits. -/
theorem Rg.Inv.make {G : Rg P call n ops} {pr : Pr} {ι0 ι : Emb} {w0 w : World} {listed : Array Bool} {T : Nat} {blk : Nat → Nat} {a : Act} (h : G.Inv pr ι0 w0 listed T blk ι a w) (hid : G.Ids pr) {p : Nat} (hp : p < ops.size)
    (hr : G.I p ∈ Region.ready .any ops listed) (hn : G.L listed p = false) (h2 : (G.X p).2.cls = 2) (hw : G.W p = true) {e : Nat} {l : List AV} {f : Pa → AV} (hmk : mkK (G.X p).1.o (G.S p).fr mkPair = some (e, l, f)) (hV : G.V p = f (G.id p))
    {cs : Array Value} {v' : Value} (hcs : cs.size = l.length) (hvs : VRs ι l cs.toList) (hv : ∀ (ι' : Emb) (id : Pa), ι' id = some ⟨w.heap.size, 0, l.length, l.length⟩ → VR ι' (f id) v') :
    G.Inv pr ι0 w0 (listed.setIfInBounds (G.I p) true) T (fun q => if q = p then w.heap.size else blk q) (ι.add (G.id p) ⟨w.heap.size, 0, l.length, l.length⟩) (a.put (G.O p).dst v') (w.alloc (.cells cs e)) := by
  have hres : (G.prD pr listed T blk).res (G.id p) := .inr ⟨p, hp, h2, hn, rfl⟩
  obtain ⟨hnone, hlt⟩ := h.rel.resv _ hres
  have hext := Ext.add (ι := ι) ⟨w.heap.size, 0, l.length, l.length⟩ hnone
  have hTp := h.place hn
  have hnot : ∀ q, G.wait listed T q → q ≠ p := fun q hq e => by subst e; obtain ⟨_, _, h5, _⟩ := hq; rw [hn] at h5; cases h5
  have hwait : ∀ q, G.wait (listed.setIfInBounds (G.I p) true) T q → q = p ∨ G.wait listed T q := by
    rintro q ⟨q1, q2, q3, q4, q5⟩
    rw [G.L_set h.size hp q q2] at q3
    by_cases e : q = p
    · exact .inl e
    · rw [if_neg e] at q3; exact .inr ⟨q1, q2, q3, q4, q5⟩
  have hblk : ∀ q, G.wait listed T q → blk q < w.heap.size := fun q hq => h.rel.prot _ (.inr (.inr ⟨q, hq, rfl⟩))
  have hnpr : ¬ pr w.heap.size := fun q => h.rel.notProt (G.prD_pr pr listed T blk _ q)
  refine ⟨by rw [Array.size_setIfInBounds]; exact h.size, G.closed_set h.size h.closed hp hr, h.tle, h.bound, fun q hq => ?_, fun q q1 q2 q4 => ?_, G.fr_set h.size h.closed hp hr hn (h.fr.mono hext) h.sz (by rw [hV]; exact hv _ _ (Emb.add_same _ _ _)), ?_, ?_, fun q hq => ?_, fun q t hq ht => ?_, ?_, h.ext.trans hext, h.frm.trans ?_⟩
  · rw [G.L_set h.size hp q (Nat.lt_of_lt_of_le hq h.tle)]
    split
    · rfl
    · exact h.pre q hq
  · rw [G.L_set h.size hp q q2]
    split
    · rename_i e'; subst e'; rw [h2] at q4; cases q4
    · exact h.nohv q q1 q2 q4
  · cases hd : (G.O p).dst with
    | none => exact h.sz
    | some d => show n ≤ (a.tmps.setIfInBounds d v').size; rw [Array.size_setIfInBounds]; exact h.sz
  · cases hd : (G.O p).dst with
    | none => exact h.nd
    | some d => exact h.nd
  · rcases hwait q hq with e' | hq'
    · subst e'
      refine ⟨e, l, f, hmk, by rw [if_pos rfl]; exact Emb.add_same _ _ _, ⟨cs, ?_, hcs, VRs_mono hext _ _ hvs⟩, fun q => ?_, fun q => ?_⟩
      · rw [if_pos rfl]; show (w.heap.push _)[w.heap.size]? = _; simp
      · rw [if_pos rfl] at q; exact hnpr (.inl q)
      · rw [if_pos rfl] at q; exact hnpr (.inr q)
    · obtain ⟨e1, l1, f1, hm1, hp1⟩ := h.pend q hq'
      refine ⟨e1, l1, f1, hm1, ?_⟩
      rw [if_neg (hnot q hq')]
      refine hp1.mono hext ?_
      show (w.heap.push _)[blk q]? = _
      have := hblk q hq'
      simp [Array.getElem?_push, Nat.ne_of_lt this]
  · intro e'
    rcases hwait q hq with e1 | hq' <;> rcases hwait t ht with e2 | ht'
    · rw [e1, e2]
    · subst e1
      simp only [if_pos, if_neg (hnot t ht')] at e'
      have := hblk t ht'; omega
    · subst e2
      simp only [if_pos, if_neg (hnot q hq')] at e'
      have := hblk q hq'; omega
    · simp only [if_neg (hnot q hq'), if_neg (hnot t ht')] at e'
      exact h.inj q t hq' ht' e'
  · refine h.rel.pend hnone hlt _ _ _ rfl ?_ ?_
    · rintro b (q | ⟨q, q1, q2⟩)
      · exact .inl (.inl q)
      · rcases hwait q q1 with e1 | q1'
        · subst e1; simp only [if_pos] at q2; exact .inr q2.symm
        · simp only [if_neg (hnot q q1')] at q2; exact .inl (.inr ⟨q, q1', q2⟩)
    · rintro x (q | ⟨q, q1, q2, q3, q4⟩)
      · refine ⟨.inl q, fun e' => ?_⟩
        subst e'; exact hid.out p hp h2 q
      · rw [G.L_set h.size hp q q1] at q3
        split at q3
        · cases q3
        · rename_i hqp
          exact ⟨.inr ⟨q, q1, q2, q3, q4⟩, fun e' => hqp (hid.inj q p q1 hp q2 h2 (q4.trans e'))⟩
  · exact Fr.pushed h.rel _ |>.weaken (fun b hb => G.prD_pr pr listed T blk b hb) |> fun F => ⟨rfl, rfl, rfl, F.size, F.keep⟩
end
end Go.Vai
