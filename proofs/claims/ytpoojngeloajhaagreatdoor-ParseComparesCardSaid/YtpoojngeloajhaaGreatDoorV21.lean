/- VAI, part V: the run of code, by its fuel. -/
import Derived.Test.YtpoojngeloajhaaGreatDoorV20
namespace Go.Vai
section
variable {R : Type} {P : Program} {pr : Pr} {Φ : Tr AF}

theorem compDraw_some {P : Program} {ops : Array Oper} {l : List AI} {ac : AC} (h : compDraw P ops l = some ac) : ∃ nA xs, ac = .draw nA xs := by
  unfold compDraw at h
  split at h
  · obtain ⟨xs, _, e⟩ := map_some h
    exact ⟨_, _, e.symm⟩
  · cases h

theorem runK_ok (hΦ : TblOK P Φ) (hdraw : DrawOK P) : ∀ f, RunOK P (runK Φ f)
  | 0 => ⟨fun _ _ _ _ => rfl, fun R pr n cd ac _ ι H fr a w k r _ h => by cases h⟩
  | f + 1 => by
    have ih := runK_ok hΦ hdraw f
    have hcall := callK_ok hΦ ih
    refine ⟨fun _ _ _ _ => rfl, fun R pr n cd ac hc ι H fr a w k r hat h Q hQ => ?_⟩
    have h : runC ac Φ (runK Φ f) R fr H k = some r := h
    have nl : ∀ {c' : Code}, (∀ c, cd ≠ .loop c) → ∀ c, cd = .loop c → InLoop P c Q a w := fun hn c e => (hn c e).elim
    unfold compC at hc
    split at hc
    · cases hc
      have h : k .norm fr H = some r := h
      exact ⟨wp_skip (hQ .norm fr H ι a w h (Ext.refl _) hat (Fr.refl _ _)), fun c e => by cases e⟩
    · rename_i id ops draw
      refine ⟨?_, fun c e => by cases e⟩
      obtain ⟨l, hl, hc⟩ := bind_some hc
      cases draw with
      | false =>
        rw [if_neg (by simp)] at hc
        cases hc
        have h : opsK (callK Φ (runK Φ f) R) l fr H (fun fr H => k .norm fr H) = some r := h
        refine wp_region ?_
        rw [List.range_eq_range']
        exact ops_ok hl (hcall R pr) ops.size 0 ι H fr a w (by omega) hat h fun fr' H' ι' a' w' h1 hext hat' hfr => hQ .norm fr' H' ι' a' w' h1 hext hat' hfr
      | true =>
        rw [if_pos rfl] at hc
        obtain ⟨nA, xs, e⟩ := compDraw_some hc
        subst e
        have h : draw0K (callK Φ (runK Φ f)) nA xs fr H (fun fr H => k .norm fr H) = some r := h
        exact hdraw _ hcall R pr n id ops l nA xs hl hc ι H fr a w _ r hat h Q fun fr' H' ι' a' w' h1 hext hat' hfr => hQ .norm fr' H' ι' a' w' h1 hext hat' hfr
    · rename_i x y
      refine ⟨?_, fun c e => by cases e⟩
      obtain ⟨x', hx, hc⟩ := bind_some hc
      obtain ⟨y', hy, e⟩ := map_some hc
      subst e
      have h : runK Φ f R x' fr H (thenK (runK Φ f) y' k) = some r := h
      refine wp_seq (ih.ok R pr n x x' hx ι H fr a w _ r hat h _ fun e fr' H' ι' a' w' h1 hext hat' hfr => ?_).1
      cases e with
      | norm =>
        have h1 : runK Φ f R y' fr' H' k = some r := h1
        exact (ih.ok R pr n y y' hy ι' H' fr' a' w' k r hat' h1 Q fun e fr'' H'' ι'' a'' w'' h2 hext' hat'' hfr' => hQ e fr'' H'' ι'' a'' w'' h2 (hext.trans hext') hat'' (hfr.trans hfr')).1
      | exit id => exact hQ (.exit id) fr' H' ι' a' w' h1 hext hat' hfr
      | ret => exact hQ .ret fr' H' ι' a' w' h1 hext hat' hfr
    · rename_i o x y
      refine ⟨?_, fun c e => by cases e⟩
      obtain ⟨o', ho, hc⟩ := bind_some hc
      obtain ⟨x', hx, hc⟩ := bind_some hc
      obtain ⟨y', hy, e⟩ := map_some hc
      subst e
      have h : evK fr o' (fun v => vB v fun t => Bool.casesOn t (runK Φ f R y' fr H k) (runK Φ f R x' fr H k)) = some r := h
      rw [evK_eq] at h
      obtain ⟨t, e, h1⟩ := vB_some h
      have hv := hat.ctx.opd ho
      rw [e] at hv
      refine wp_cond (VRb hv) ?_
      cases t with
      | true =>
        have h1 : runK Φ f R x' fr H k = some r := h1
        rw [if_pos rfl]
        exact (ih.ok R pr n x x' hx ι H fr a w k r hat h1 Q hQ).1
      | false =>
        have h1 : runK Φ f R y' fr H k = some r := h1
        rw [if_neg (by simp)]
        exact (ih.ok R pr n y y' hy ι H fr a w k r hat h1 Q hQ).1
    · rename_i id c
      refine ⟨?_, fun c e => by cases e⟩
      obtain ⟨c', hcc, e⟩ := map_some hc
      subst e
      have h : runK Φ f R c' fr H (blockK id k) = some r := h
      refine wp_block (ih.ok R pr n c c' hcc ι H fr a w _ r hat h _ fun e fr' H' ι' a' w' h1 hext hat' hfr => ?_).1
      cases e with
      | norm => exact hQ .norm fr' H' ι' a' w' h1 hext hat' hfr
      | ret => exact hQ .ret fr' H' ι' a' w' h1 hext hat' hfr
      | exit id' =>
        have h1 : (Bool.casesOn (Nat.beq id id') (k (.exit id') fr' H') (k .norm fr' H') : Option R) = some r := h1
        show (if id' = id then Q .normal a' w' else Q (.exit id') a' w')
        cases e : Nat.beq id id' with
        | true =>
          rw [e] at h1
          rw [if_pos (Nat.eq_of_beq_eq_true e).symm]
          exact hQ .norm fr' H' ι' a' w' h1 hext hat' hfr
        | false =>
          rw [e] at h1
          rw [if_neg (fun e' => by rw [e', Nat.beq_refl] at e; cases e)]
          exact hQ (.exit id') fr' H' ι' a' w' h1 hext hat' hfr
    · rename_i c
      obtain ⟨c', hcc, e⟩ := map_some hc
      subst e
      have h : runK Φ f R c' fr H (thenK (runK Φ f) (.loop c') k) = some r := h
      have hlc : compC P n (.loop c) = some (.loop c') := by unfold compC; rw [hcc]; rfl
      have hw : c.wp P (Exit.then (InLoop P c Q) Q) a w := by
        refine (ih.ok R pr n c c' hcc ι H fr a w _ r hat h _ fun e fr' H' ι' a' w' h1 hext hat' hfr => ?_).1
        cases e with
        | norm =>
          have h1 : runK Φ f R (.loop c') fr' H' k = some r := h1
          exact (ih.ok R pr n (.loop c) (.loop c') hlc ι' H' fr' a' w' k r hat' h1 Q fun e fr'' H'' ι'' a'' w'' h2 hext' hat'' hfr' => hQ e fr'' H'' ι'' a'' w'' h2 (hext.trans hext') hat'' (hfr.trans hfr')).2 c rfl
        | exit id => exact hQ (.exit id) fr' H' ι' a' w' h1 hext hat' hfr
        | ret => exact hQ .ret fr' H' ι' a' w' h1 hext hat' hfr
      exact ⟨loop_of hw, fun c2 e => by cases e; exact inLoop_of hw⟩
    · rename_i id
      cases hc
      exact ⟨wp_exit (hQ (.exit id) fr H ι a w h (Ext.refl _) hat (Fr.refl _ _)), fun c e => by cases e⟩
    · cases hc
      exact ⟨wp_ret (hQ .ret fr H ι a w h (Ext.refl _) hat (Fr.refl _ _)), fun c e => by cases e⟩
    · cases hc
      exact ⟨wp_label (hQ .norm fr H ι a w h (Ext.refl _) hat (Fr.refl _ _)), fun c e => by cases e⟩
    · cases hc
      cases h

/-- A function called: what the abstract run tells, the call gives, in every world that is as the abstract memory says. -/
theorem goK_ok (hΦ : TblOK P Φ) (hdraw : DrawOK P) {fuel f : Nat} {args : List AV} {args' : Array Value} {ι : Emb} {H : Heap} {w : World} {k : HK R} {r : R} (hrel : Rel pr P.globals.size ι H w.heap) (hv : VRs ι args args'.toList)
    (h : goK Φ fuel (toPa f) args H k = some r) :
    Calls P f args' w fun e w' => ∃ v H' v' ι', k v H' = some r ∧ e = .returned v' ∧ Ext ι ι' ∧ Rel pr P.globals.size ι' H' w'.heap ∧ Fr pr w w' ∧ VR ι' v v' :=
  (callK_ok hΦ (runK_ok hΦ hdraw fuel) R pr f args args' ι H w k r hrel hv h).2
end
end Go.Vai
