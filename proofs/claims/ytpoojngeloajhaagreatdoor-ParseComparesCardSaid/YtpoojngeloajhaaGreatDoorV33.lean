/- VAI, part h: a law that first asks whether the chapter's example holds: that question is answered once, and the rest is run by itself. -/
import Derived.Test.YtpoojngeloajhaaGreatDoorV32
namespace Go.Vai
section
variable {P : Program} {pr : Pr} {ng : Nat} {ι : Emb} {H : Heap}

theorem noCall_ok {R : Type} : CallOK P pr (fun _ _ _ _ => none : CallK R) := fun _ _ _ _ _ _ _ _ _ _ h => by cases h

/-- A law's rest: behind 'if !known() { return false }'. -/
noncomputable def restK (Φ : Tr AF) (fuel : Nat) (lA : List AI) (d : Option Pa) (lB : List AI) (oc : Opd) (r : AC) (res : List ARes) (args : List AV) (H : Heap) : Option Unit :=
  argsK args 0 .leaf fun fr => opsK (fun _ _ _ _ => none) lA fr H fun fr H => putK d (.b true) fr fun fr => opsK (fun _ _ _ _ => none) lB fr H fun fr H =>
    evK fr oc fun v => vB v fun t => Bool.casesOn t (runK Φ fuel Unit r fr H (leaveK res yesK)) none

theorem compC_seq {n : Nat} {cd : Code} {a b : AC} (h : compC P n cd = some (.seq a b)) : ∃ x y, cd = .seq x y ∧ compC P n x = some a ∧ compC P n y = some b := by
  unfold compC at h
  split at h <;> first | (cases h; done) | skip
  · obtain ⟨l, _, h1⟩ := bind_some h
    split at h1
    · obtain ⟨_, _, e⟩ := compDraw_some h1; cases e
    · cases h1
  · rename_i x y
    obtain ⟨a', h1, h2⟩ := bind_some h
    obtain ⟨b', h3, e⟩ := map_some h2
    cases e
    exact ⟨x, y, rfl, h1, h3⟩
  · obtain ⟨_, _, h1⟩ := bind_some h
    obtain ⟨_, _, h2⟩ := bind_some h1
    obtain ⟨_, _, e⟩ := map_some h2; cases e
  · obtain ⟨_, _, e⟩ := map_some h; cases e
  · obtain ⟨_, _, e⟩ := map_some h; cases e
theorem compC_ops {n : Nat} {cd : Code} {l : List AI} (h : compC P n cd = some (.ops l)) : ∃ id ops, cd = .region id ops false ∧ ops.toList.mapM (compAI P n ops) = some l := by
  unfold compC at h
  split at h <;> first | (cases h; done) | skip
  · rename_i id ops draw
    obtain ⟨l', hl, h1⟩ := bind_some h
    split at h1
    · obtain ⟨_, _, e⟩ := compDraw_some h1; cases e
    · rename_i hd
      cases h1
      refine ⟨id, ops, ?_, hl⟩
      cases draw with
      | true => exact (hd rfl).elim
      | false => rfl
  · obtain ⟨_, _, h2⟩ := bind_some h
    obtain ⟨_, _, e⟩ := map_some h2; cases e
  · obtain ⟨_, _, h1⟩ := bind_some h
    obtain ⟨_, _, h2⟩ := bind_some h1
    obtain ⟨_, _, e⟩ := map_some h2; cases e
  · obtain ⟨_, _, e⟩ := map_some h; cases e
  · obtain ⟨_, _, e⟩ := map_some h; cases e
theorem compC_cond {n : Nat} {cd : Code} {o : Opd} {a b : AC} (h : compC P n cd = some (.cond o a b)) : ∃ x c d, cd = .cond x c d ∧ compOpd P x = some o ∧ compC P n c = some a ∧ compC P n d = some b := by
  unfold compC at h
  split at h <;> first | (cases h; done) | skip
  · obtain ⟨l, _, h1⟩ := bind_some h
    split at h1
    · obtain ⟨_, _, e⟩ := compDraw_some h1; cases e
    · cases h1
  · obtain ⟨_, _, h2⟩ := bind_some h
    obtain ⟨_, _, e⟩ := map_some h2; cases e
  · rename_i x c d
    obtain ⟨o', h1, h2⟩ := bind_some h
    obtain ⟨a', h3, h4⟩ := bind_some h2
    obtain ⟨b', h5, e⟩ := map_some h4
    cases e
    exact ⟨x, c, d, rfl, h1, h3, h5⟩
  · obtain ⟨_, _, e⟩ := map_some h; cases e
  · obtain ⟨_, _, e⟩ := map_some h; cases e

/-- What a call of a function is, by its text. -/
theorem compCall_fn {c : Call} {f : Nat} {args : List Opd} (h : compCall P c = some (.call (toPa f) args)) : c.callee = .value (.func f) ∧ compOpds P c.args = some args ∧ ∃ fn b, P.funcs[f]? = some fn ∧ fn.name ≠ "runtime.NumGoroutine" ∧ fn.body = some b := by
  unfold compCall at h
  split at h
  · rename_i g hcv
    obtain ⟨as, h1, h2⟩ := bind_some h
    split at h2
    · rename_i fn hf
      obtain ⟨hn, h3⟩ := ite_none'' h2
      split at h3
      · rename_i b hb
        have h3 := Option.some.inj h3
        injection h3 with e1 e2
        have e1 := toPa_inj e1
        subst e1; subst e2
        exact ⟨hcv, h1, fn, b, hf, hn, hb⟩
      · obtain ⟨_, h4⟩ := ite_none'' h3
        split at h4
        · split at h4 <;> cases h4
        · split at h4
          · split at h4
            · split at h4 <;> cases h4
            · cases h4
          · split at h4
            · split at h4 <;> cases h4
            · cases h4
    · cases h2
  · obtain ⟨_, _, h2⟩ := bind_some h
    obtain ⟨_, _, e⟩ := map_some h2; cases e
  · obtain ⟨_, _, h2⟩ := bind_some h
    obtain ⟨_, _, e⟩ := map_some h2; cases e
  · obtain ⟨_, _, h2⟩ := bind_some h
    repeat' (split at h2)
    all_goals first | (cases h2; done) | skip
    all_goals (obtain ⟨_, e⟩ := ite_none h2; cases e)

theorem compOp_call {o : Oper} (hn : ∀ c, o.op ≠ .call c) {f : Pa} {as : List Opd} (eo : compOp P o = some (.call f as)) : False := by
  unfold compOp at eo
  split at eo
  all_goals first | (rename_i c ho; exact hn c ho) | skip
  all_goals (try unfold compConv at eo)
  all_goals repeat' (first | (cases eo; done) | (obtain ⟨_, _, e⟩ := map_some eo; cases e; done) | (replace eo := bind_some eo; obtain ⟨_, _, eo⟩ := eo) | (split at eo))

noncomputable def lawK (Φ : Tr AF) (fuel : Nat) (kn : Pa) (af : AF) (args : List AV) (H : Heap) : Option Unit :=
  match af with
  | .mk (.seq (.ops lA) (.seq (.seq (.ops (⟨d, none, .call g []⟩ :: lB)) (.cond oc _ .skip)) r)) res => guardK (g.same kn) (restK Φ fuel lA d lB oc r res args H)
  | _ => none

theorem knows_keep {W w : World} {x : Nat × List AV} (h : Knows W x) (hk : ∀ b, b < W.heap.size → w.heap[b]? = W.heap[b]?) : Knows w x := by
  obtain ⟨cs, e, f, h1, h2⟩ := h
  exact ⟨cs, e, f, by rw [hk _ (Array.getElem?_eq_some_iff.mp h1).1]; exact h1, h2⟩

theorem compC_skip {n : Nat} {cd : Code} (h : compC P n cd = some .skip) {Q : Exit → Act → World → Prop} {a : Act} {w : World} (hQ : Q .normal a w) : cd.wp P Q a w := by
  unfold compC at h
  split at h <;> first | (cases h; done) | skip
  · exact wp_skip hQ
  · obtain ⟨l, _, h1⟩ := bind_some h
    split at h1
    · obtain ⟨_, _, e⟩ := compDraw_some h1; cases e
    · cases h1
  · obtain ⟨_, _, h2⟩ := bind_some h
    obtain ⟨_, _, e⟩ := map_some h2; cases e
  · obtain ⟨_, _, h1⟩ := bind_some h
    obtain ⟨_, _, h2⟩ := bind_some h1
    obtain ⟨_, _, e⟩ := map_some h2; cases e
  · obtain ⟨_, _, e⟩ := map_some h; cases e
  · obtain ⟨_, _, e⟩ := map_some h; cases e
  · exact wp_label hQ

/-- A law whose example holds, and whose rest says yes. -/
theorem law_of {Φ : Tr AF} (hΦ : TblOK P Φ) {fuel f kn : Nat} {fn : Func} (hf : P.funcs[f]? = some fn) {args : List AV} {args' : Array Value} {W : World} {l : List (Nat × List AV)} (hn : P.globals.size ≤ W.heap.size)
    (hl : ∀ x ∈ l, x.1 < P.globals.size ∧ Knows W x) (hv : ∀ ι, VRs ι args args'.toList)
    (hkn : ∀ w : World, P.globals.size ≤ w.heap.size → (∀ x ∈ l, Knows w x) → Calls P kn #[] w fun e w' => e = .returned (.bool true) ∧ Go.RowKit.Below w.heap.size w w')
    (h : lawK Φ fuel (toPa kn) ((compF P fn).getD dfl) args (begin_ P.globals.size l) = some ()) : Calls P f args' W fun e w' => e = .returned (.bool true) ∧ Go.RowKit.Below W.heap.size W w' := by
  generalize hH : begin_ P.globals.size l = H0 at h
  cases hcf : compF P fn with
  | none => rw [hcf] at h; cases h
  | some af =>
    rw [hcf] at h
    replace h : lawK Φ fuel (toPa kn) af args H0 = some () := h
    unfold lawK at h
    split at h
    · rename_i lA d g lB oc cT r res
      obtain ⟨hg, hrest⟩ := guardK_some h
      clear h
      have hg := Pa.same_eq hg
      subst hg
      obtain ⟨_, c, ac, rs, hb, hcc, hrs, e⟩ := compF_some hcf
      cases e
      obtain ⟨cA, c1, e1, hA, h1⟩ := compC_seq hcc
      obtain ⟨c2, cR, e2, h2, hR⟩ := compC_seq h1
      obtain ⟨cB, cC, e3, hB, hC⟩ := compC_seq h2
      obtain ⟨idA, opsA, e4, hlA⟩ := compC_ops hA
      obtain ⟨idB, opsB, e5, hlB⟩ := compC_ops hB
      obtain ⟨xo, cT', cS, e6, hxo, _, hS⟩ := compC_cond hC
      subst e1 e2 e3 e4 e5 e6
      refine calls_of_wp hf hb ?_
      have R0 : Rel (keepAll W) P.globals.size (emb0 P.globals.size W) H0 W.heap := by rw [← hH]; exact begin_rel hn hl
      unfold restK at hrest
      obtain ⟨t', g1, g2⟩ := argsK_eq args 0 .leaf (fun fr => opsK (fun _ _ _ _ => none) lA fr H0 fun fr H => putK d (.b true) fr fun fr => opsK (fun _ _ _ _ => none) lB fr H fun fr H =>
        evK fr oc fun v => vB v fun t => Bool.casesOn t (runK Φ fuel Unit r fr H (leaveK res yesK)) none)
      rw [g1] at hrest
      have hat0 : At P (keepAll W) fn.ntmps (emb0 P.globals.size W) H0 t' { tmps := args' ++ Array.replicate (fn.ntmps - args'.size) undef, defers := [] } W :=
        ⟨⟨R0, args_ok (hv _) g2 _⟩, by show fn.ntmps ≤ (args' ++ Array.replicate (fn.ntmps - args'.size) undef).size; simp; omega, rfl⟩
      refine wp_seq (wp_region ?_)
      rw [List.range_eq_range']
      refine ops_ok hlA noCall_ok opsA.size 0 _ H0 t' _ W (by omega) hat0 hrest fun fr1 H1 ι1 a1 w1 k1 _ hat1 hfr1 => ?_
      show (Code.seq (Code.seq (Code.region idB opsB false) (Code.cond xo cT' cS)) cR).wp P _ a1 w1
      refine wp_seq (wp_seq (wp_region ?_))
      rw [putK_eq] at k1
      obtain ⟨hlen, hget⟩ := mapM_get hlB
      have hlen : lB.length + 1 = opsB.size := by simpa using hlen
      have h0 : 0 < opsB.size := by omega
      have ho0 : opsB[0]? = some opsB[0] := getElem?_pos _ _ _
      obtain ⟨ai, hai, hcomp⟩ := hget 0 opsB[0] (by rw [Array.getElem?_toList]; exact ho0)
      have hai : ai = ⟨d, none, .call (toPa kn) []⟩ := by simpa using hai.symm
      obtain ⟨d', g', hd, e7, hgd⟩ := compAI_some hcomp
      rw [hai] at e7
      have ed : d = d' := by injection e7
      have eg : g' = none := by injection e7 with _ q _; exact q.symm
      have eo : compOp P opsB[0] = some (.call (toPa kn) []) := by
        have : (compOp P opsB[0]).getD .bad = .call (toPa kn) [] := by injection e7 with _ _ q; exact q.symm
        cases hq : compOp P opsB[0] with
        | none => rw [hq] at this; cases this
        | some q => rw [hq] at this; exact congrArg some this
      subst ed
      have hguard : (opsB[0]).guard = none := by
        rcases hgd with ⟨q, _⟩ | ⟨_, _, _, _, _, _, q⟩
        · exact q
        · rw [eg] at q; cases q
      have hcall : ∃ c, (opsB[0]).op = .call c ∧ compCall P c = some (.call (toPa kn) []) := by
        cases ho : (opsB[0]).op
        case call c =>
          unfold compOp at eo
          rw [ho] at eo
          exact ⟨c, rfl, eo⟩
        all_goals exact (compOp_call (by rw [ho]; intro c e; cases e) eo).elim
      obtain ⟨c, ho, hcc2⟩ := hcall
      obtain ⟨hcv, hargs, fk, bk, hfk, hnk, hbk⟩ := compCall_fn hcc2
      have hempty : c.args = #[] := by
        have hm := (mapM_get (f := compOpd P) (l := c.args.toList) (ys := []) hargs).1
        exact Array.toList_eq_nil_iff.mp (List.eq_nil_of_length_eq_zero hm.symm)
      have hL : List.range opsB.size = 0 :: List.range' 1 lB.length := by
        rw [← hlen, List.range_eq_range']
        rfl
      rw [hL]
      show wpOps P opsB _ (0 :: List.range' 1 lB.length) a1 w1
      unfold wpOps
      rw [ho0]
      show (if Region.wanted opsB[0] (yielded opsB a1.tmps) then _ else _)
      have hw : Region.wanted opsB[0] (yielded opsB a1.tmps) = true := by unfold Region.wanted; rw [hguard]
      rw [hw, if_pos rfl]
      left
      have hrun : (execOp a1.eval opsB[0]).run P w1 = .ok (.enter kn #[]) w1 := by
        have hev : (Act.eval a1 (.func kn)) = .func (.func kn) #[] #[] := rfl
        rw [execOp_call ho, resolve_value hcv, hev, hempty]
        simp only [Deferred.ofValue, Sem.run_bind, Sem.run_pure, Result.andThen_ok, invoke]
        rw [show (#[] ++ Array.map a1.eval #[] ++ #[] : Array Value) = #[] by simp]
        exact run_callFunc_body hfk hnk hbk _
      unfold Oper.wp
      rw [hrun]
      have hkeep1 : ∀ b, b < W.heap.size → w1.heap[b]? = W.heap[b]? := fun b hb => hfr1.keep b (.inl hb)
      refine (hkn w1 (Nat.le_trans hn hfr1.size) fun x hx => knows_keep (hl x hx).2 hkeep1).mono ?_
      rintro e w2 ⟨rfl, hbel⟩
      have R2 : Rel (keepAll W) P.globals.size ι1 H1 w2.heap := hat1.ctx.rel.below hbel.size hbel.block
      have hat2 := hat1.put hd (Ext.refl ι1) R2 (v := .b true) (v' := .bool true) rfl
      have hfr2 : Fr (keepAll W) W w2 := ⟨hbel.os.trans hfr1.os, hbel.tape.trans hfr1.tape, hbel.output.trans hfr1.output, Nat.le_trans hfr1.size hbel.size, fun b hb => by
        have hb' : b < W.heap.size := by
          rcases hb with q | q
          · exact q
          · exact q.elim
        rw [hbel.block b (Nat.lt_of_lt_of_le hb' hfr1.size)]; exact hfr1.keep b hb⟩
      refine ops_ok hlB noCall_ok lB.length 1 ι1 H1 _ _ w2 (by omega) hat2 k1 fun fr3 H3 ι3 a3 w3 k3 _ hat3 hfr3 => ?_
      show (Code.cond xo cT' cS).wp P _ a3 w3
      rw [evK_eq] at k3
      obtain ⟨tt, e8, k4⟩ := vB_some k3
      cases tt with
      | true => cases k4
      | false =>
        have hvo := hat3.ctx.opd hxo
        rw [e8] at hvo
        refine wp_cond (VRb hvo) ?_
        rw [if_neg (by simp)]
        refine compC_skip hS ?_
        show cR.wp P _ a3 w3
        have k4 : runK Φ fuel Unit r fr3 H3 (leaveK res yesK) = some () := k4
        have hfr13 := hfr2.trans hfr3
        refine ((runK_ok hΦ (drawOK P) fuel).ok Unit (keepAll W) fn.ntmps cR r hR ι3 H3 fr3 a3 w3 _ () hat3 k4 _ ?_).1
        intro e fr' H' ι' a' w' h5 hext hat hfr
        have leave : resK res fr' H' (fun l => oneRes l H' yesK) = some () → a'.defers = [] ∧ ∃ v, (results fn a'.tmps).run P w' = .ok v w' ∧ (Ending.returned v = .returned (.bool true) ∧ Go.RowKit.Below W.heap.size W w') := by
          intro h6
          obtain ⟨v, v', h7, h8, h9⟩ := results_ok hat.ctx hrs h6
          rw [yesK_some h7] at h8
          have hall := hfr13.trans hfr
          exact ⟨hat.nd, v', h9, by rw [VRb h8], ⟨hall.os, hall.tape, hall.output, hall.size, fun b hb => hall.keep b (.inl hb)⟩⟩
        cases e with
        | norm => exact leave h5
        | ret => exact leave h5
        | exit id => cases h5
    · cases h
end
end Go.Vai
