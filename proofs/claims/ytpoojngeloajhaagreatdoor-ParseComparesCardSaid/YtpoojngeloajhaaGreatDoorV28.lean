/- VAI, part c: a region that draws: what does more; the end; all orders. -/
import Derived.Test.YtpoojngeloajhaaGreatDoorV27
namespace Go.Vai
section
variable {P : Program} {call : Call1} {n : Nat} {ops : Array Oper}

/-- The one run's memory further on, where all that stands between is done. -/
theorem Rg.Inv.open_ {G : Rg P call n ops} {pr : Pr} {ι0 ι : Emb} {w0 w : World} {listed : Array Bool} {T : Nat} {blk : Nat → Nat} {a : Act} (h : G.Inv pr ι0 w0 listed T blk ι a w) :
    ∀ k, T + k ≤ ops.size → (∀ q, T ≤ q → q < T + k → G.L listed q = true) → Rel (G.prD pr listed (T + k) blk) P.globals.size ι (G.S (T + k)).H w.heap
  | 0, _, _ => h.rel
  | k + 1, hk, hl => by
    have R := h.open_ k (by omega) fun q h1 h2 => hl q h1 (by omega)
    have hm : T + k < ops.size := by omega
    have hL : G.L listed (T + k) = true := hl _ (by omega) (by omega)
    have h3 : (G.X (T + k)).2.cls ≠ 3 := fun e => by have := h.nohv (T + k) (by omega) hm e; rw [hL] at this; cases this
    have hst := G.step (T + k) hm
    have hc3 := G.cls3 (T + k) hm
    have up : ∀ q, G.wait listed (T + (k + 1)) q → G.wait listed (T + k) q := fun q ⟨q1, q2⟩ => ⟨by omega, q2⟩
    have stay : (G.S (T + (k + 1))).H = (G.S (T + k)).H → Rel (G.prD pr listed (T + (k + 1)) blk) P.globals.size ι (G.S (T + (k + 1))).H w.heap := by
      intro e
      rw [e]
      refine R.weaken ?_ ?_ fun _ q => q
      · rintro b (q | q | ⟨q, q1, q2⟩)
        · exact .inl q
        · exact .inr (.inl q)
        · exact .inr (.inr ⟨q, up q q1, q2⟩)
      · rintro b (q | ⟨q, q1, q2⟩)
        · exact .inl q
        · exact .inr ⟨q, up q q1, q2⟩
    by_cases h2 : (G.X (T + k)).2.cls = 2
    · cases hw : G.W (T + k) with
      | false => exact stay (hst.no hw).2
      | true =>
        have hwait : G.wait listed (T + k) (T + k) := ⟨Nat.le_refl _, hm, hL, h2, hw⟩
        have hwaitT : G.wait listed T (T + k) := ⟨by omega, hm, hL, h2, hw⟩
        obtain ⟨id, e, l, f, m1, m2, m3, m4⟩ := hst.make hw h2
        obtain ⟨e', l', f', m1', hp⟩ := h.pend _ hwaitT
        rw [m1] at m1'; cases m1'
        have hid : G.id (T + k) = id := by unfold Rg.id; rw [m2]; rfl
        have e1 : (G.S (T + (k + 1))).H = (G.S (T + k)).H.put (G.id (T + k)) (.cells false 0 e l.length (setCells l 0 .leaf)) := by rw [hid]; exact m4
        rw [e1]
        refine R.open_ hp (.inr ⟨_, hwait, rfl⟩) rfl rfl ?_ fun _ q => q
        rintro b (q | ⟨q, q1, q2⟩)
        · exact ⟨.inl q, fun e' => hp.hard (by rw [← e']; exact q)⟩
        · refine ⟨.inr ⟨q, up q q1, q2⟩, fun e' => ?_⟩
          have hq1 := q1.1
          have := h.inj q (T + k) ⟨by omega, q1.2⟩ hwaitT (q2.trans e')
          omega
    · exact stay (hst.light (by omega)).1

/-- An operation of class 3. -/
theorem Rg.Inv.heavy {G : Rg P call n ops} {pr : Pr} {ι0 ι ι' : Emb} {w0 w w' : World} {listed : Array Bool} {T : Nat} {blk : Nat → Nat} {a : Act} (h : G.Inv pr ι0 w0 listed T blk ι a w) {p : Nat} (hp : p < ops.size)
    (hr : G.I p ∈ Region.ready .any ops listed) (hn : G.L listed p = false) (h3 : (G.X p).2.cls = 3) {v' : Value} (hext : Ext ι ι') (hrel : Rel (G.prD pr listed p blk) P.globals.size ι' (G.S (p + 1)).H w'.heap) (hfr : Fr (G.prD pr listed p blk) w w') (hv : VR ι' (G.V p) v') :
    G.Inv pr ι0 w0 (listed.setIfInBounds (G.I p) true) (p + 1) blk ι' (a.put (G.O p).dst v') w' := by
  have hTp := h.place hn
  have hall : ∀ q, q < p → G.L listed q = true := fun q hq => G.ready_hang h.closed hp hr (by omega) (G.heavy p q hp hq h3)
  have hwait : ∀ q, G.wait (listed.setIfInBounds (G.I p) true) (p + 1) q → G.wait listed p q := by
    rintro q ⟨q1, q2, q3, q4, q5⟩
    rw [G.L_set h.size hp q q2, if_neg (by omega)] at q3
    exact ⟨by omega, q2, q3, q4, q5⟩
  have toT : ∀ q, G.wait listed p q → G.wait listed T q := fun q ⟨q1, q2⟩ => ⟨by omega, q2⟩
  refine ⟨by rw [Array.size_setIfInBounds]; exact h.size, G.closed_set h.size h.closed hp hr, by omega, .inr ⟨p, rfl, h3⟩, fun q hq => ?_, fun q q1 q2 q4 => ?_, G.fr_set h.size h.closed hp hr hn (h.fr.mono hext) h.sz hv, ?_, ?_, fun q hq => ?_, fun q t hq ht => h.inj q t (toT q (hwait q hq)) (toT t (hwait t ht)), ?_, h.ext.trans hext, h.frm.trans (hfr.weaken fun b hb => G.prD_pr pr listed p blk b hb)⟩
  · rw [G.L_set h.size hp q (by omega)]
    by_cases e : q = p
    · rw [if_pos e]
    · rw [if_neg e]; exact hall q (by omega)
  · rw [G.L_set h.size hp q q2, if_neg (by omega)]
    exact h.nohv q (by omega) q2 q4
  · cases hd : (G.O p).dst with
    | none => exact h.sz
    | some d => show n ≤ (a.tmps.setIfInBounds d v').size; rw [Array.size_setIfInBounds]; exact h.sz
  · cases hd : (G.O p).dst with
    | none => exact h.nd
    | some d => exact h.nd
  · obtain ⟨e, l, f, m1, hpd⟩ := h.pend q (toT q (hwait q hq))
    exact ⟨e, l, f, m1, hpd.mono hext (hfr.keep _ (.inr (.inr ⟨q, hwait q hq, rfl⟩)))⟩
  · refine hrel.weaken ?_ ?_ ?_
    · rintro b (q | q | ⟨q, q1, q2⟩)
      · exact .inl q
      · exact .inr (.inl q)
      · exact .inr (.inr ⟨q, hwait q q1, q2⟩)
    · rintro b (q | ⟨q, q1, q2⟩)
      · exact .inl q
      · exact .inr ⟨q, hwait q q1, q2⟩
    · rintro x (q | ⟨q, q1, q2, q3, q4⟩)
      · exact .inl q
      · refine .inr ⟨q, q1, q2, ?_, q4⟩
        rw [G.L_set h.size hp q q1] at q3
        split at q3
        · cases q3
        · exact q3
end
end Go.Vai
