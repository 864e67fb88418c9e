/- VAI, part e: a region that draws: one step, whatever comes next; all orders; the end. -/
import Derived.Test.YtpoojngeloajhaaGreatDoorV29
namespace Go.Vai
section
variable {P : Program} {call : Call1} {n : Nat} {ops : Array Oper}

/-- The same, in a world that has gone on, where the one run's memory has not. -/
theorem Rg.Inv.move {G : Rg P call n ops} {pr : Pr} {ι0 ι ι' : Emb} {w0 w w' : World} {listed : Array Bool} {T : Nat} {blk : Nat → Nat} {a : Act} (h : G.Inv pr ι0 w0 listed T blk ι a w)
    (hext : Ext ι ι') (hrel : Rel (G.prD pr listed T blk) P.globals.size ι' (G.S T).H w'.heap) (hfr : Fr (G.prD pr listed T blk) w w') : G.Inv pr ι0 w0 listed T blk ι' a w' := by
  refine ⟨h.size, h.closed, h.tle, h.bound, h.pre, h.nohv, h.fr.mono hext, h.sz, h.nd, fun p hp => ?_, h.inj, hrel, h.ext.trans hext, h.frm.trans (hfr.weaken fun b hb => G.prD_pr pr listed T blk b hb)⟩
  obtain ⟨e, l, f, m1, hpd⟩ := h.pend p hp
  exact ⟨e, l, f, m1, hpd.mono hext (hfr.keep _ (.inr (.inr ⟨p, hp, rfl⟩)))⟩

/-- The memories that were kept. -/
theorem Rg.gs_ext (G : Rg P call n ops) (T : Nat) : ∀ k, T + k ≤ ops.size → ∃ l, (G.S (T + k)).Gs = l ++ (G.S T).Gs ∧ (G.S (T + k)).n = (G.S T).n + l.length
  | 0, _ => ⟨[], rfl, rfl⟩
  | k + 1, hk => by
    obtain ⟨l, h1, h2⟩ := G.gs_ext T k (by omega)
    have hst := G.step (T + k) (by omega)
    have hc3 := G.cls3 (T + k) (by omega)
    by_cases e3 : (G.X (T + k)).2.cls = 3
    · obtain ⟨q1, q2, _⟩ := hst.hard e3
      refine ⟨(G.S (T + k + 1)).H :: l, ?_, ?_⟩
      · show (G.S (T + k + 1)).Gs = _
        rw [q1, h1]; rfl
      · show (G.S (T + k + 1)).n = _
        rw [q2, h2]; simp only [List.length_cons]; omega
    · refine ⟨l, ?_, ?_⟩
      · show (G.S (T + k + 1)).Gs = _
        by_cases e2 : (G.X (T + k)).2.cls = 2
        · rw [(hst.mid e2).1, h1]
        · rw [(hst.light (by omega)).2.1, h1]
      · show (G.S (T + k + 1)).n = _
        by_cases e2 : (G.X (T + k)).2.cls = 2
        · rw [(hst.mid e2).2.1, h2]
        · rw [(hst.light (by omega)).2.2.1, h2]

theorem sameAll_at {o : AOp} {fr : Tr AV} {v : AV} {lo m : Nat} {G0 : Heap} {rest : List Heap} (hlo : lo ≤ m) : ∀ (l : List Heap), sameAll o fr v lo (l ++ G0 :: rest) (m + l.length) = true → sameIn o fr v G0 = true
  | [], h => by
    have h : (Bool.casesOn (Nat.ble lo m) true (Bool.casesOn (sameIn o fr v G0) false (sameAll o fr v lo rest (Nat.pred m))) : Bool) = true := h
    rw [Nat.ble_eq_true_of_le hlo] at h
    exact (casesB h).1
  | x :: l, h => by
    have h : (Bool.casesOn (Nat.ble lo (m + (l.length + 1))) true (Bool.casesOn (sameIn o fr v x) false (sameAll o fr v lo (l ++ G0 :: rest) (Nat.pred (m + (l.length + 1))))) : Bool) = true := h
    rw [Nat.ble_eq_true_of_le (by omega)] at h
    have h2 := (casesB h).2
    exact sameAll_at hlo l h2

theorem sameIn_some {o : AOp} {fr : Tr AV} {v : AV} {H : Heap} (h : sameIn o fr v H = true) : ∃ H', xopK o noCall fr H pairK = some (v, H') := by
  unfold sameIn at h
  cases e : xopK o noCall fr H pairK with
  | none =>
    have e' : xopK o noCall fr H (fun v' H' => some (v', H')) = none := e
    rw [e'] at h; cases h
  | some p =>
    have e' : xopK o noCall fr H (fun v' H' => some (v', H')) = some p := e
    rw [e'] at h
    have h : avEq v p.1 = true := h
    exact ⟨p.2, by rw [avEq_eq h]⟩

/-- An operation that turns no memory: done in memory as it stood behind the last one of class 3 that was done. -/
theorem Rg.Inv.op_light {G : Rg P call n ops} {pr : Pr} {ι0 ι : Emb} {w0 w : World} {listed : Array Bool} {T : Nat} {blk : Nat → Nat} {a : Act} (h : G.Inv pr ι0 w0 listed T blk ι a w) (hinit : (G.S 0).Gs = [(G.S 0).H]) {p : Nat} (hp : p < ops.size)
    (hr : G.I p ∈ Region.ready .any ops listed) (hn : G.L listed p = false) (hw : G.W p = true) (hcl : (G.X p).2.cls ≤ 1) {next : Act → World → Prop} {Q : Exit → Act → World → Prop}
    (hk : ∀ ι' v' w', Ext ι ι' → Rel (G.prD pr listed T blk) P.globals.size ι' (G.S T).H w'.heap → Fr (G.prD pr listed T blk) w w' → VR ι' (G.V p) v' → next (a.put (G.O p).dst v') w') : (G.O p).wp P a w next Q := by
  have hst := G.step p hp
  have hcls := G.cls p hp
  have hsl := (G.op_slots h.closed hp hr hn).1
  have hcomp := G.comp p hp
  have fin : ∀ {c : CallK (AV × Heap)} {K : HK (AV × Heap)} {r : AV × Heap}, xopK (G.X p).1.o c (G.fr listed ops.size) (G.S T).H K = some r → (∀ v, K v (G.S T).H = some r → v = G.V p) → (G.O p).wp P a w next Q := by
    intro c K r hx hv
    rw [hcomp] at hx
    obtain ⟨q, hq, hx⟩ := op_getD hx
    have hq1 : clsOf q ≤ 1 := by
      rw [hcls, hcomp, hq] at hcl; exact hcl
    obtain ⟨v, h1, h2⟩ := light_ok hq hq1 h.at_.ctx hx
    rw [hv v h1] at h2
    exact h2 next Q hk
  rcases Nat.lt_or_ge (G.X p).2.cls 1 with e | e
  · have e0 : (G.X p).2.cls = 0 := by omega
    obtain ⟨H1, hx⟩ := hst.pure hw e0
    rw [← xop_congr hsl, pure_mem (hcls.symm.trans e0) _ (call (AV × Heap)) _ _ (G.S T).H] at hx
    refine fin hx fun v hv => ?_
    cases hv; rfl
  · have e1 : (G.X p).2.cls = 1 := by omega
    obtain ⟨_, hsame⟩ := hst.read hw e1
    have hTp := h.place hn
    obtain ⟨l, g1, g2⟩ := G.gs_ext T (p - T) (by omega)
    rw [show T + (p - T) = p by omega] at g1 g2
    have hhead : ∃ rest, (G.S T).Gs = (G.S T).H :: rest := by
      rcases h.bound with e | ⟨q, e, h3⟩
      · subst e; exact ⟨[], hinit⟩
      · subst e
        have hq : q < ops.size := by have := h.tle; omega
        exact ⟨_, ((G.step q hq).hard h3).1⟩
    obtain ⟨rest, hhd⟩ := hhead
    have hlo : (G.X p).2.lo ≤ (G.S T).n := by
      rcases G.lo p hp with e | ⟨q, hq, h3, hh, e⟩
      · omega
      · have hL := G.ready_hang h.closed hp hr hq hh
        have hqT : q < T := by
          rcases Nat.lt_or_ge q T with g | g
          · exact g
          · have := h.nohv q g hq h3; rw [hL] at this; cases this
        obtain ⟨l', _, g4⟩ := G.gs_ext (q + 1) (T - (q + 1)) (by have := h.tle; omega)
        rw [show q + 1 + (T - (q + 1)) = T by omega] at g4
        omega
    rw [g1, g2, hhd] at hsame
    obtain ⟨H', hx⟩ := sameIn_some (sameAll_at hlo l hsame)
    rw [← xop_congr hsl] at hx
    refine fin hx fun v hv => ?_
    cases hv; rfl

/-- How many are not done. -/
def Rg.cnt (G : Rg P call n ops) (listed : Array Bool) : Nat := ((List.range ops.size).filter fun p => !G.L listed p).length
theorem Rg.cnt_set (G : Rg P call n ops) {listed : Array Bool} (hs : listed.size = ops.size) {p : Nat} (hp : p < ops.size) (hn : G.L listed p = false) : G.cnt (listed.setIfInBounds (G.I p) true) < G.cnt listed := by
  unfold Rg.cnt
  have e : (List.range ops.size).filter (fun q => !G.L (listed.setIfInBounds (G.I p) true) q) = ((List.range ops.size).filter fun q => !G.L listed q).filter (fun q => q != p) := by
    rw [List.filter_filter]
    refine List.filter_congr fun q hq => ?_
    rw [G.L_set hs hp q (List.mem_range.mp hq)]
    by_cases e : q = p
    · rw [if_pos e]; simp [e]
    · rw [if_neg e]; simp [e]
  rw [e]
  refine List.length_filter_lt_length_iff_exists.mpr ⟨p, List.mem_filter.mpr ⟨List.mem_range.mpr hp, by simp [hn]⟩, by simp⟩

theorem Rg.Inv.all_done {G : Rg P call n ops} {pr : Pr} {ι0 ι : Emb} {w0 w : World} {listed : Array Bool} {T : Nat} {blk : Nat → Nat} {a : Act} (h : G.Inv pr ι0 w0 listed T blk ι a w) (hr : Region.ready .any ops listed = []) : ∀ p, p < ops.size → G.L listed p = true := by
  intro p
  induction p using Nat.strongRecOn with
  | ind p ih =>
    intro hp
    cases hL : G.L listed p with
    | true => rfl
    | false =>
      exfalso
      have hi : G.I p < listed.size := by rw [h.size]; exact G.lt p hp
      have hm : G.I p ∈ Region.ready .any ops listed := by
        refine mem_ready.mpr ⟨?_, G.O p, G.op p hp, fun e he hb => ?_⟩
        · unfold Rg.L at hL
          rw [Array.getD_eq_getD_getElem?, getElem?_pos listed _ hi] at hL ⊢
          exact hL
        · obtain ⟨q, hq, e1, e2⟩ := G.edge p e hp (Array.mem_toList_iff.mpr he) hb
          have := ih q (G.ahead p q hp hq e2) hq
          rw [e1]; exact this
      rw [hr] at hm; cases hm

theorem Rg.Inv.finish {G : Rg P call n ops} {pr : Pr} {ι0 ι : Emb} {w0 w : World} {listed : Array Bool} {T : Nat} {blk : Nat → Nat} {a : Act} (h : G.Inv pr ι0 w0 listed T blk ι a w) (hall : ∀ p, p < ops.size → G.L listed p = true) :
    At P pr n ι (G.S ops.size).H (G.S ops.size).fr a w := by
  have R := h.open_ (ops.size - T) (by have := h.tle; omega) fun q _ h2 => hall q (by have := h.tle; omega)
  rw [show T + (ops.size - T) = ops.size by have := h.tle; omega] at R
  refine ⟨⟨R.weaken (fun b hb => G.prD_pr pr listed _ blk b hb) (fun _ q => .inl q) (fun _ q => .inl q), fun t => ?_⟩, h.sz, h.nd⟩
  have := h.fr t
  rw [G.fr_all ops.size (Nat.le_refl _), ← frL_congr (L := G.L listed) (q := toPa t) ops.size fun p hp _ => hall p hp]
  exact this

theorem Rg.Inv.any {G : Rg P call n ops} {pr : Pr} {ι0 : Emb} {w0 : World} (hcall : CallsOK P call) (hinit : (G.S 0).Gs = [(G.S 0).H]) (hid : G.Ids pr) {Q : Exit → Act → World → Prop}
    (hend : ∀ ι a w, Ext ι0 ι → Fr pr w0 w → At P pr n ι (G.S ops.size).H (G.S ops.size).fr a w → Q .normal a w) :
    ∀ (fuel : Nat) (listed : Array Bool) (T : Nat) (blk : Nat → Nat) (ι : Emb) (a : Act) (w : World), G.Inv pr ι0 w0 listed T blk ι a w → G.cnt listed ≤ fuel → wpAny P .any ops Q fuel listed a w
  | fuel, listed, T, blk, ι, a, w, h, hcnt => by
    have fin : Region.ready .any ops listed = [] → Q .normal a w := fun hr => hend ι a w h.ext h.frm (h.finish (h.all_done hr))
    have place : ∀ i ∈ Region.ready .any ops listed, ∃ p, p < ops.size ∧ G.I p = i ∧ G.L listed p = false := by
      intro i hi
      obtain ⟨h1, o, ho, _⟩ := mem_ready.mp hi
      obtain ⟨p, hp, e⟩ := G.pos i (Array.getElem?_eq_some_iff.mp ho).1
      refine ⟨p, hp, e, ?_⟩
      have hlt : G.I p < listed.size := by rw [h.size]; exact G.lt p hp
      unfold Rg.L
      rw [← e] at h1
      rw [Array.getD_eq_getD_getElem?, getElem?_pos listed _ hlt] at h1 ⊢
      exact h1
    match fuel, hcnt with
    | 0, hcnt =>
      have hr : Region.ready .any ops listed = [] := by
        cases e : Region.ready .any ops listed with
        | nil => rfl
        | cons i l =>
          obtain ⟨p, hp, _, hL⟩ := place i (by rw [e]; simp)
          have := G.cnt_set h.size hp hL
          omega
      exact ⟨hr, fin hr⟩
    | fuel + 1, hcnt =>
      refine ⟨fin, fun i hi => ?_⟩
      obtain ⟨p, hp, e, hn⟩ := place i hi
      subst e
      have hcnt' : G.cnt (listed.setIfInBounds (G.I p) true) ≤ fuel := by have := G.cnt_set h.size hp hn; omega
      have go : ∀ {T' : Nat} {blk' : Nat → Nat} {ι' : Emb} {a' : Act} {w' : World}, G.Inv pr ι0 w0 (listed.setIfInBounds (G.I p) true) T' blk' ι' a' w' → wpAny P .any ops Q fuel (listed.setIfInBounds (G.I p) true) a' w' :=
        fun h' => Rg.Inv.any hcall hinit hid hend fuel _ _ _ _ _ _ h' hcnt'
      have hTp := h.place hn
      have hst := G.step p hp
      have hc3 := G.cls3 p hp
      have hcls := G.cls p hp
      have hcomp := G.comp p hp
      have hsl := (G.op_slots h.closed hp hi hn).1
      have opn : (G.X p).2.cls = 3 → Rel (G.prD pr listed p blk) P.globals.size ι (G.S p).H w.heap := by
        intro h3
        have R := h.open_ (p - T) (by omega) fun q _ h2 => G.ready_hang h.closed hp hi (by omega) (G.heavy p q hp (by omega) h3)
        rw [show T + (p - T) = p by omega] at R
        exact R
      unfold wpOp
      rw [G.op p hp]
      show (if Region.wanted (G.O p) (yielded ops a.tmps) then _ else _)
      rw [h.wanted hp hi hn]
      cases hw : G.W p with
      | false =>
        rw [if_neg (by simp)]
        obtain ⟨hV, hH⟩ := hst.no hw
        have hv : VR ι (G.V p) undef := by rw [hV]; exact un_undef ι
        by_cases h3 : (G.X p).2.cls = 3
        · refine go (h.heavy hp hi hn h3 (Ext.refl _) ?_ (Fr.refl _ _) hv)
          rw [hH]; exact opn h3
        · exact go (h.light hp hi hn (by rw [hw]; simp) h3 hv)
      | true =>
        rw [if_pos rfl]
        left
        by_cases hl : (G.X p).2.cls ≤ 1
        · refine h.op_light hinit hp hi hn hw hl fun ι' v' w' hext hrel hfr hv => ?_
          exact go ((h.move hext hrel hfr).light hp hi hn (by omega) (by omega) hv)
        · by_cases h2 : (G.X p).2.cls = 2
          · obtain ⟨id, e, l, f, m1, m2, m3, m4⟩ := hst.make hw h2
            have m1' : mkK (G.X p).1.o (G.fr listed ops.size) mkPair = some (e, l, f) := by rw [mk_congr hsl]; exact m1
            have hq : ∃ q, compOp P (G.O p) = some q ∧ (G.X p).1.o = q := by
              cases hq : compOp P (G.O p) with
              | none => rw [hcomp, hq] at m1; cases m1
              | some q => exact ⟨q, rfl, by rw [hcomp, hq]; rfl⟩
            obtain ⟨q, hq, eq⟩ := hq
            rw [eq] at m1'
            obtain ⟨cs, v', hrun, hcs, hvs, hv⟩ := mk_ok h.at_.ctx hq (G.makes p hp h2) m1'
            have hid' : G.id p = id := by unfold Rg.id; rw [m2]; rfl
            have := h.make hid hp hi hn h2 hw m1 (by rw [hid']; exact m3) hcs hvs hv
            unfold Oper.wp
            rw [hrun]
            exact go this
          · have h3 : (G.X p).2.cls = 3 := by omega
            have hx := hst.heavy hw h3
            rw [← xop_congr hsl, hcomp] at hx
            obtain ⟨q, hq, hx⟩ := op_getD hx
            have C : Ctx P (G.prD pr listed p blk) ι (G.S p).H (G.fr listed ops.size) a w := ⟨opn h3, h.fr⟩
            refine op_ok hq (hcall _ _) C hx _ _ fun v H' ι' v' w' e1 hext hrel hfr hv => ?_
            cases e1
            exact go (h.heavy hp hi hn h3 hext hrel hfr hv)
  termination_by fuel => fuel
end
end Go.Vai
