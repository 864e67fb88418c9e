/- VAI, part Y: a region that draws: memory that waits. -/
import Derived.Test.YtpoojngeloajhaaGreatDoorV23
namespace Go.Vai
section
variable {P : Program} {pr pr' : Pr} {ng : Nat} {ι : Emb} {H : Heap} {h : Array Obj}

/-- Less is left alone. -/
theorem Rel.weaken (R : Rel pr' ng ι H h) (hp : ∀ b, pr b → pr' b) (hh : ∀ b, pr.hard b → pr'.hard b) (hr : ∀ a, pr.res a → pr'.res a) : Rel pr ng ι H h := by
  refine ⟨R.fresh, R.freshH, fun a => ?_, R.sep, R.lt, fun b hb => R.prot b (hp b hb), R.glob, fun a ha => R.resv a (hr a ha)⟩
  have := R.dom a
  cases hb : H.get a with
  | dead => trivial
  | cells ro fz e size c =>
    rw [hb] at this
    obtain ⟨j, h1, ⟨h2, cs, e', f, h3, h4, h5, h6, h7, h8⟩, h9⟩ := this
    exact ⟨j, h1, ⟨h2, cs, e', f, h3, h4, h5, h6, h7, fun e => ⟨fun q => (h8 e).1 (hp _ q), (h8 e).2⟩⟩, fun q => h9 (hh _ q)⟩
  | iter len n pos =>
    rw [hb] at this
    obtain ⟨j, h1, h2, h3, h4⟩ := this
    exact ⟨j, h1, h2, fun q => h3 (hp _ q), h4⟩

theorem Fr.weaken {w w' : World} (F : Fr pr' w w') (hp : ∀ b, pr b → pr' b) : Fr pr w w' := ⟨F.os, F.tape, F.output, F.size, fun b hb => F.keep b (hp b hb)⟩

/-- An id that no place is known of is dead. -/
theorem Rel.dead_of_none (R : Rel pr ng ι H h) {a : Pa} (ha : ι a = none) : H.get a = .dead := by
  have := R.dom a
  cases hb : H.get a with
  | dead => rfl
  | cells ro fz e size c => rw [hb] at this; obtain ⟨j, h1, _⟩ := this; rw [ha] at h1; cases h1
  | iter len n pos => rw [hb] at this; obtain ⟨j, h1, _⟩ := this; rw [ha] at h1; cases h1
/-- An id whose block is held back is dead. -/
theorem Rel.dead_of_hard (R : Rel pr ng ι H h) {a : Pa} {j : Inj} (ha : ι a = some j) (hj : pr.hard j.blk) : H.get a = .dead := by
  have := R.dom a
  cases hb : H.get a with
  | dead => rfl
  | cells ro fz e size c => rw [hb] at this; obtain ⟨j', h1, _, h2⟩ := this; rw [ha] at h1; cases h1; exact (h2 hj).elim
  | iter len n pos => rw [hb] at this; obtain ⟨j', h1, _, h2, _⟩ := this; rw [ha] at h1; cases h1; exact (h2 (.inr hj)).elim

/-- Ids that are kept. -/
theorem Rel.reserve {nx nx' : Pa} {t : Tr Blk} (R : Rel pr ng ι ⟨nx, t⟩ h) (hle : nx.toN ≤ nx'.toN) (hs : pr'.soft = pr.soft) (hh : pr'.hard = pr.hard) (hr : ∀ a, pr'.res a → pr.res a ∨ (nx.toN ≤ a.toN ∧ a.toN < nx'.toN)) : Rel pr' ng ι ⟨nx', t⟩ h := by
  have hpr : ∀ b, pr' b → pr b := fun b hb => by
    rcases hb with q | q
    · rw [hs] at q; exact .inl q
    · rw [hh] at q; exact .inr q
  have R' : Rel (⟨pr.soft, pr.hard, pr.res⟩ : Pr) ng ι ⟨nx', t⟩ h := ⟨fun a ha => R.fresh a (Nat.le_trans hle ha), fun a ha => R.freshH a (Nat.le_trans hle ha), R.dom, R.sep, R.lt, R.prot, R.glob, fun a ha => ⟨(R.resv a ha).1, Nat.lt_of_lt_of_le (R.resv a ha).2 hle⟩⟩
  have R2 : Rel (⟨pr'.soft, pr'.hard, pr.res⟩ : Pr) ng ι ⟨nx', t⟩ h := R'.weaken hpr (fun b q => by rw [← hh]; exact q) (fun _ q => q)
  refine ⟨R2.fresh, R2.freshH, R2.dom, R2.sep, R2.lt, R2.prot, R2.glob, fun a ha => ?_⟩
  rcases hr a ha with q | ⟨q1, q2⟩
  · exact R2.resv a q
  · exact ⟨R.fresh a q1, q2⟩

/-- A new row of the model's that waits. -/
theorem Rel.pend (R : Rel pr ng ι H h) {id : Pa} (hid : ι id = none) (hlt : id.toN < H.next.toN) (o : Obj) (n m : Nat) (hs : pr'.soft = pr.soft) (hh : ∀ b, pr'.hard b → pr.hard b ∨ b = h.size) (hr : ∀ a, pr'.res a → pr.res a ∧ a ≠ id) :
    Rel pr' ng (ι.add id ⟨h.size, 0, n, m⟩) H (h.push o) := by
  have hext := Ext.add (ι := ι) ⟨h.size, 0, n, m⟩ hid
  have hdead := R.dead_of_none hid
  have hpr : ∀ b, b ≠ h.size → pr' b → pr b := fun b hb q => by
    rcases q with q | q
    · rw [hs] at q; exact .inl q
    · exact .inr ((hh b q).resolve_right hb)
  refine ⟨fun a ha => ?_, R.freshH, fun a => ?_, fun a b j k hab hwa hab' hka hkb => ?_, fun a k hk => ?_, fun b hb => ?_, fun g hg => ?_, fun a ha => ?_⟩
  · rw [Emb.add_ne _ _ (fun e => by subst e; omega)]
    exact R.fresh a ha
  · by_cases e : a = id
    · subst e; rw [hdead]; trivial
    · rw [Emb.add_ne _ _ e]
      have := R.dom a
      cases hb : H.get a with
      | dead => trivial
      | cells ro fz e' size c =>
        rw [hb] at this
        obtain ⟨j, h1, hc, h9⟩ := this
        have hl := R.lt _ _ h1
        have hne : j.blk ≠ h.size := Nat.ne_of_lt hl
        obtain ⟨h2, cs, e'', f, h3, h4, h5, h6, h7, h8⟩ := hc
        exact ⟨j, h1, ⟨h2, cs, e'', f, by simp [Array.getElem?_push, hne, h3], h4, h5, h6, fun i hi => let ⟨v, q1, q2⟩ := h7 i hi; ⟨v, q1, VR_mono hext _ _ q2⟩, fun q => ⟨fun q' => (h8 q).1 (hpr _ hne q'), (h8 q).2⟩⟩, fun q => h9 ((hh _ q).resolve_right hne)⟩
      | iter len n pos =>
        rw [hb] at this
        obtain ⟨j, h1, h2, h3, s, h4, h5⟩ := this
        have hl := R.lt _ _ h1
        have hne : j.blk ≠ h.size := Nat.ne_of_lt hl
        exact ⟨j, h1, h2, fun q => h3 (hpr _ hne q), s, by simp [Array.getElem?_push, hne, h4], h5⟩
  · have ha : a ≠ id := fun e => by subst e; rw [hdead] at hwa; cases hwa
    have hb : b ≠ id := fun e => by subst e; rw [hdead] at hab'; cases hab'
    rw [Emb.add_ne _ _ ha] at hka
    rw [Emb.add_ne _ _ hb] at hkb
    exact R.sep a b j k hab hwa hab' hka hkb
  · by_cases e : a = id
    · subst e; rw [Emb.add_same] at hk; cases hk; simp
    · rw [Emb.add_ne _ _ e] at hk
      rw [Array.size_push]
      exact Nat.lt_succ_of_lt (R.lt a k hk)
  · rw [Array.size_push]
    by_cases e : b = h.size
    · omega
    · exact Nat.lt_succ_of_lt (R.prot b (hpr b e hb))
  · obtain ⟨n', m', e⟩ := R.glob g hg
    exact ⟨n', m', hext _ _ e⟩
  · obtain ⟨q1, q2⟩ := hr a ha
    rw [Emb.add_ne _ _ q2]
    exact R.resv a q1

/-- A block that waits. -/
structure Pend (ι : Emb) (h : Array Obj) (pr : Pr) (id : Pa) (l : List AV) (e k : Nat) : Prop where
  at_ : ι id = some ⟨k, 0, l.length, l.length⟩
  obj : ∃ cs : Array Value, h[k]? = some (.cells cs e (0, 0)) ∧ cs.size = l.length ∧ VRs ι l cs.toList
  soft : ¬ pr.soft k
  hard : ¬ pr.hard k

theorem Pend.mono {ι' : Emb} {h' : Array Obj} {id : Pa} {l : List AV} {e k : Nat} (p : Pend ι h pr id l e k) (hx : Ext ι ι') (hh : h'[k]? = h[k]?) : Pend ι' h' pr id l e k := by
  obtain ⟨cs, h1, h2, h3⟩ := p.obj
  exact ⟨hx _ _ p.at_, ⟨cs, hh.trans h1, h2, VRs_mono hx _ _ h3⟩, p.soft, p.hard⟩

/-- A block that waited is laid open. -/
theorem Rel.open_ (R : Rel pr' ng ι H h) {id : Pa} {l : List AV} {e k : Nat} (p : Pend ι h pr id l e k) (hk : pr'.hard k) (hs : pr'.soft = pr.soft) {pr2 : Pr} (h2s : pr2.soft = pr'.soft) (h2h : ∀ b, pr2.hard b → pr'.hard b ∧ b ≠ k) (h2r : ∀ a, pr2.res a → pr'.res a) :
    Rel pr2 ng ι (H.put id (.cells false 0 e l.length (setCells l 0 .leaf))) h := by
  have hdead := R.dead_of_hard p.at_ hk
  have hlt := R.lt_next p.at_
  have R2 : Rel pr2 ng ι H h := R.weaken (fun b q => by
    rcases q with q | q
    · rw [h2s] at q; exact .inl q
    · exact .inr (h2h b q).1) (fun b q => (h2h b q).1) h2r
  have hfree : ∀ b j, b ≠ id → (H.get b).alive = true → ι b = some j → j.blk ≠ k := by
    intro b j hb hal hj e'
    have := R.dom b
    cases hb' : H.get b with
    | dead => rw [hb'] at hal; cases hal
    | cells ro fz e size c => rw [hb'] at this; obtain ⟨j', h1, _, h2⟩ := this; rw [hj] at h1; cases h1; rw [e'] at h2; exact h2 hk
    | iter len n pos => rw [hb'] at this; obtain ⟨j', h1, _, h2, _⟩ := this; rw [hj] at h1; cases h1; rw [e'] at h2; exact h2 (.inr hk)
  obtain ⟨cs, ho, hsz, hv⟩ := p.obj
  refine ⟨R2.fresh, fun a ha => ?_, fun a => ?_, fun a b j q hab hwa hal hj hq => ?_, R2.lt, R2.prot, R2.glob, R2.resv⟩
  · have : (H.put id (.cells false 0 e l.length (setCells l 0 .leaf))).next.toN = H.next.toN := rfl
    rw [Heap.get_put, if_neg (by intro e; subst e; omega)]
    exact R2.freshH a (by omega)
  · rw [Heap.get_put]
    by_cases ea : id = a
    · subst ea
      rw [if_pos rfl, p.at_]
      have npr : ¬ pr2 k := fun q => by
        rcases q with q | q
        · rw [h2s, hs] at q; exact p.soft q
        · exact (h2h k q).2 rfl
      refine ⟨_, rfl, CR.of ι pr2 false 0 e e l _ ⟨k, 0, l.length, l.length⟩ h cs (0, 0) rfl ho (fun _ => ⟨rfl, rfl⟩) hsz.symm (by show 0 + l.length ≤ l.length; omega) (fun i x hx => ?_) (fun i x hx => ?_) (fun _ => ⟨npr, fun i _ _ => by simp⟩), fun q => npr (.inr q)⟩
      · have hi := lt_of_get hx
        rw [setCells_get, if_pos ⟨by omega, by omega⟩, Nat.sub_zero, hx]; rfl
      · obtain ⟨y, hy, hvy⟩ := VRs_get hv i x hx
        rw [Array.getElem?_toList] at hy
        exact ⟨y, by show cs[0 + i]? = _; rw [Nat.zero_add]; exact hy, hvy⟩
    · rw [if_neg ea]; exact R2.dom a
  · rw [Heap.get_put] at hwa hal
    by_cases ea : id = a
    · subst ea
      rw [p.at_] at hj; cases hj
      rw [if_neg hab] at hal
      exact fun e' => hfree b q (Ne.symm hab) hal hq e'.symm
    · rw [if_neg ea] at hwa
      by_cases eb : id = b
      · subst eb
        rw [p.at_] at hq; cases hq
        have hala : (H.get a).alive = true := by revert hwa; cases H.get a <;> simp [Blk.wr, Blk.alive]
        exact hfree a j (Ne.symm ea) hala hj
      · rw [if_neg eb] at hal
        exact R2.sep a b j q hab hwa hal hj hq
end
end Go.Vai
