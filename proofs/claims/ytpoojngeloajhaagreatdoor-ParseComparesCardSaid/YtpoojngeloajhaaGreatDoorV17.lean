/- VAI, part R: each operation, whole. -/
import Derived.Test.YtpoojngeloajhaaGreatDoorV16
namespace Go.Vai
section
variable {R : Type} {P : Program} {pr : Pr} {ng : Nat} {ι : Emb} {H : Heap} {fr : Tr AV} {a : Act} {w : World}
variable {k : HK R} {r : R} {call : CallK R}

/-- What a call is worth. -/
def CallOK (P : Program) (pr : Pr) (call : CallK R) : Prop :=
  ∀ (f : Nat) (args : List AV) (args' : Array Value) (ι : Emb) (H : Heap) (w : World) (k : HK R) (r : R), Rel pr P.globals.size ι H w.heap → VRs ι args args'.toList → call (toPa f) args H k = some r →
    (∃ fn c, P.funcs[f]? = some fn ∧ fn.body = some c ∧ fn.name ≠ "runtime.NumGoroutine") ∧
    Calls P f args' w fun e w' => ∃ v H' v' ι', k v H' = some r ∧ e = .returned v' ∧ Ext ι ι' ∧ Rel pr P.globals.size ι' H' w'.heap ∧ Fr pr w w' ∧ VR ι' v v'

/-- What an operation leaves, whatever comes behind it, where what is told goes on to r. -/
def SimK (P : Program) (pr : Pr) (ι : Emb) (o : Oper) (a : Act) (w : World) (k : HK R) (r : R) : Prop :=
  ∀ (next : Act → World → Prop) (Q : Exit → Act → World → Prop),
    (∀ v H' ι' v' w', k v H' = some r → Ext ι ι' → Rel pr P.globals.size ι' H' w'.heap → Fr pr w w' → VR ι' v v' → next (a.put o.dst v') w') → o.wp P a w next Q

theorem SimK.of {o : Oper} (h : ∃ v H', k v H' = some r ∧ Sim P pr ι o a w v H') : SimK P pr ι o a w k r := by
  obtain ⟨v, H', h1, h2⟩ := h
  exact fun next Q hk => h2 next Q fun ι' v' w' => hk v H' ι' v' w' h1

/-- A call of a function that has a body. -/
theorem run_callFunc_body {f : Nat} {fn : Func} {c : Code} (hf : P.funcs[f]? = some fn) (hn : fn.name ≠ "runtime.NumGoroutine") (hb : fn.body = some c) (args : Array Value) : (callFunc f args).run P w = .ok (.enter f args) w := by
  simp [callFunc, hf, hn, hb]

theorem CallOK.sim {o : Oper} (hc : CallOK P pr call) (C : Ctx P pr ι H fr a w) {f : Nat} {args : List AV} {args' : Array Value} (he : (execOp a.eval o).run P w = (callFunc f args').run P w) (hv : VRs ι args args'.toList)
    (h : call (toPa f) args H k = some r) : SimK P pr ι o a w k r := by
  obtain ⟨⟨fn, c, hf, hb, hn⟩, h2⟩ := hc f args args' ι H w k r C.rel hv h
  intro next Q hk
  unfold Oper.wp
  rw [he, run_callFunc_body hf hn hb]
  refine h2.mono ?_
  rintro e w' ⟨v, H', v', ι', h1, rfl, hext, hrel, hfr, hvr⟩
  exact hk v H' ι' v' w' h1 hext hrel hfr hvr

theorem PureOK.sim {o : Oper} {s : Sem Value} (C : Ctx P pr ι H fr a w) (h : PureOK P ι w H k r s) (he : execOp a.eval o = (do pure (.value (← s)) : Sem Next)) : ∃ v H', k v H' = some r ∧ Sim P pr ι o a w v H' := by
  obtain ⟨v, h1, h2⟩ := h.does C
  exact ⟨v, H, h1, h2.sim he⟩
theorem MemOK.sim {o : Oper} {s : Sem Value} (h : MemOK P pr ι w k r s) (he : execOp a.eval o = (do pure (.value (← s)) : Sem Next)) : ∃ v H', k v H' = some r ∧ Sim P pr ι o a w v H' := by
  obtain ⟨v, H', h1, h2⟩ := h
  exact ⟨v, H', h1, h2.sim he⟩

theorem execOp_call {o : Oper} {c : Call} (ho : o.op = .call c) : execOp a.eval o = (do let d ← resolve a.eval c o.type; invoke d.target d.args) := by
  unfold execOp; rw [ho]

theorem lookK_some {tbl : List (Nat × Pa)} {t : Nat} {f : Pa → Option R} {r : R} (h : lookK t tbl f = some r) : ∃ p, (t, p) ∈ tbl ∧ f p = some r := by
  induction tbl with
  | nil => cases h
  | cons x tbl ih =>
    have h : (Bool.casesOn (Nat.beq x.1 t) (lookK t tbl f) (f x.2) : Option R) = some r := h
    cases e : Nat.beq x.1 t with
    | true =>
      rw [e] at h
      have e := Nat.eq_of_beq_eq_true e
      exact ⟨x.2, by rw [← e]; exact List.mem_cons_self .., h⟩
    | false =>
      rw [e] at h
      obtain ⟨p, h1, h2⟩ := ih h
      exact ⟨p, List.mem_cons_of_mem _ h1, h2⟩

theorem ite_none {c : Prop} [Decidable c] {α : Type} {x y : α} (h : (if c then some x else none) = some y) : c ∧ x = y := by
  split at h
  · exact ⟨by assumption, Option.some.inj h⟩
  · cases h
theorem ite_none' {c : Prop} [Decidable c] {α : Type} {x : Option α} {y : α} (h : (if c then x else none) = some y) : c ∧ x = some y := by
  split at h
  · exact ⟨by assumption, h⟩
  · cases h
theorem ite_none'' {c : Prop} [Decidable c] {α : Type} {x : Option α} {y : α} (h : (if c then none else x) = some y) : ¬ c ∧ x = some y := by
  split at h
  · cases h
  · exact ⟨by assumption, h⟩

theorem mapOpdo {x : Option Operand} {x' : Option Opd} (h : compOpdo P x = some x') : x' = none → x = none := by
  intro e
  cases x with
  | none => rfl
  | some y => obtain ⟨_, _, e2⟩ := map_some h; rw [e] at e2; cases e2

/-- Conversions. -/
theorem conv_ok {s d : TypeId} {x : Operand} {x' : Opd} {q : AOp} (hc : compConv P s d x' = some q) (C : Ctx P pr ι H fr a w) (hx : compOpd P x = some x') (h : xopK q call fr H k = some r) : MemOK P pr ι w k r (convert s d (a.eval x)) := by
  have pm : PureOK P ι w H k r (convert s d (a.eval x)) → MemOK P pr ι w k r (convert s d (a.eval x)) := fun h => let ⟨v, h1, h2⟩ := h.does C; ⟨v, H, h1, h2⟩
  unfold compConv at hc
  split at hc
  · rename_i h1 h2; cases hc; exact pm (ok_cvi (call := call) h1 h2 C hx h)
  · rename_i h1 h2; cases hc; exact pm (ok_i2s (call := call) h1 h2 C hx h)
  · rename_i h1 h2; cases hc; exact pm (ok_cvs (call := call) h1 h2 C hx h)
  · rename_i h1 h2
    split at hc
    · rename_i h3 h4; cases hc; exact ok_s2b (call := call) h1 h2 h3 C hx h
    · rename_i h3 h4; cases hc; exact ok_s2r (call := call) h1 h2 h3 C hx h
    · cases hc
  · rename_i h1 h2
    split at hc
    · rename_i h3 h4; cases hc; exact pm (ok_b2s (call := call) h1 h2 h3 C hx h)
    · rename_i h3 h4; cases hc; exact pm (ok_r2s (call := call) h1 h2 h3 C hx h)
    · cases hc
  · rename_i h1 h2
    split at hc
    · rename_i h3; cases hc; exact pm (ok_p2u (call := call) h1 h2 h3 C hx h)
    · cases hc
  · rename_i h1 h2
    split at hc
    · rename_i h3
      obtain ⟨h4, h5⟩ := ite_none'' hc
      cases h5
      exact pm (ok_u2p (call := call) h1 h2 h3 h4 C hx h)
    · cases hc
  · cases hc

theorem not_call_ok {o : Oper} {q : AOp} (hn : ∀ c, o.op ≠ .call c) (hc : compOp P o = some q) (C : Ctx P pr ι H fr a w) (h : xopK q call fr H k = some r) : ∃ v H', k v H' = some r ∧ Sim P pr ι o a w v H' := by
  unfold compOp at hc
  split at hc
  · rename_i x ho
    obtain ⟨x', hx, e⟩ := map_some hc; subst e
    exact (ok_mv (call := call) C hx h).sim C (by unfold execOp; rw [ho]; rfl)
  · rename_i x ho
    obtain ⟨x', hx, e⟩ := map_some hc; subst e
    exact (ok_mv (call := call) C hx h).sim C (by unfold execOp; rw [ho]; rfl)
  · rename_i c x y ho
    obtain ⟨c', hcc, hc⟩ := bind_some hc
    obtain ⟨x', hx, hc⟩ := bind_some hc
    obtain ⟨y', hy, e⟩ := map_some hc; subst e
    exact (ok_pick (call := call) C hcc hx hy h).sim C (by unfold execOp; rw [ho]; simp)
  · rename_i e ho
    obtain ⟨zs, hz, e'⟩ := map_some hc; subst e'
    exact (ok_new (call := call) hz C h).sim (by unfold execOp; rw [ho])
  · rename_i e x ho
    obtain ⟨x', hx, e'⟩ := map_some hc; subst e'
    exact (ok_box (call := call) C hx h).sim (by unfold execOp; rw [ho])
  · rename_i t ps ho
    split at hc
    · rename_i fs ht
      obtain ⟨hall, hc⟩ := ite_none' hc
      obtain ⟨zs, hz, hc⟩ := bind_some hc
      obtain ⟨ps', hp, e⟩ := map_some hc; subst e
      exact (ok_buildS (call := call) ht hz hp hall C h).sim C (by unfold execOp; rw [ho])
    · rename_i m el ht
      obtain ⟨zs, hz, hc⟩ := bind_some hc
      obtain ⟨n, hn', hc⟩ := bind_some hc
      obtain ⟨ps', hp, e⟩ := map_some hc; subst e
      exact (ok_buildA (call := call) ht hz hn' hp C h).sim C (by unfold execOp; rw [ho])
    · cases hc
  · rename_i t len ps ho
    split at hc
    · rename_i el ht
      split at hc
      · rename_i zs n hz hn'
        obtain ⟨⟨hlim, hzl⟩, hc⟩ := ite_none' hc
        obtain ⟨ps', hp, e⟩ := map_some hc; subst e
        exact (ok_bsl (call := call) ht hz hn' hlim hzl hp C h).sim (by unfold execOp; rw [ho])
      · cases hc
    · cases hc
  · rename_i t x ho
    obtain ⟨x', hx, hc⟩ := bind_some hc
    obtain ⟨g, hg, hc⟩ := bind_some hc
    obtain ⟨n, hn', hc⟩ := bind_some hc
    obtain ⟨hgn, e⟩ := ite_none hc
    subst e
    exact (ok_ld (call := call) hg hn' (by simpa using hgn) C hx h).sim C (by unfold execOp; rw [ho])
  · rename_i t x y ho
    obtain ⟨x', hx, hc⟩ := bind_some hc
    obtain ⟨y', hy, hc⟩ := bind_some hc
    obtain ⟨n, hn', e⟩ := map_some hc; subst e
    obtain ⟨H', h1, w', hrun, hrel, hfr⟩ := ok_st (call := call) hn' C hx hy h
    refine ⟨un, H', h1, fun next Q hk => ?_⟩
    unfold Oper.wp execOp
    rw [ho]
    simp only [Sem.run_bind, hrun, Result.andThen_ok, Sem.run_pure, Oper.upon]
    exact hk ι undef w' (Ext.refl _) hrel hfr (un_undef _)
  · rename_i x ho
    obtain ⟨x', hx, e⟩ := map_some hc; subst e
    obtain ⟨v, h1, v', h2, h3⟩ := ok_nilck (call := call) C hx h ho
    refine ⟨v, H, h1, fun next Q hk => ?_⟩
    unfold Oper.wp
    rw [h3]
    exact hk ι v' w (Ext.refl _) C.rel (Fr.refl _ _) h2
  · rename_i op t x y c ho
    obtain ⟨x', hx, hc⟩ := bind_some hc
    obtain ⟨y', hy, e⟩ := map_some hc; subst e
    exact (ok_bin (call := call) C hx hy h).sim C (by unfold execOp; rw [ho])
  · rename_i op t x ho
    obtain ⟨x', hx, hc⟩ := bind_some hc
    split at hc
    · cases hc; exact (ok_not (call := call) C hx h).sim C (by unfold execOp; rw [ho])
    · cases hc; exact (ok_neg (call := call) C hx h).sim C (by unfold execOp; rw [ho])
    · cases hc; exact (ok_cpl (call := call) C hx h).sim C (by unfold execOp; rw [ho])
    · cases hc
  · rename_i s d x ho
    obtain ⟨x', hx, hc⟩ := bind_some hc
    exact (conv_ok hc C hx h).sim (by unfold execOp; rw [ho])
  · rename_i t x ho
    split at hc
    · cases hc
    · rename_i d hnd ht
      obtain ⟨x', hx, e⟩ := map_some hc; subst e
      exact (ok_mkif (call := call) ht (fun ms e => hnd ms e) C hx h).sim C (by unfold execOp; rw [ho])
    · cases hc
  · rename_i f first caps ho
    obtain ⟨first', h1, hc⟩ := bind_some hc
    obtain ⟨caps', h2, e⟩ := map_some hc; subst e
    exact (ok_mkfn (call := call) C h1 h2 h).sim C (by unfold execOp; rw [ho])
  · rename_i t l c ho
    split at hc
    · rename_i el ht
      split at hc
      · rename_i zs n b hz hn' hb
        obtain ⟨hzl, hc⟩ := ite_none' hc
        obtain ⟨l', hl, hc⟩ := bind_some hc
        obtain ⟨c', hcc, e⟩ := map_some hc; subst e
        exact (ok_mks (call := call) ht hz hn' hb hzl C hl hcc h).sim (by unfold execOp; rw [ho])
      · cases hc
    · cases hc
  · rename_i t x lo hi mx ho
    obtain ⟨hmh, hc⟩ := ite_none'' hc
    have hmh : mx = none ∨ hi ≠ none := by
      cases mx <;> cases hi <;> simp at hmh ⊢
    obtain ⟨x', hx, hc⟩ := bind_some hc
    obtain ⟨lo', hlo, hc⟩ := bind_some hc
    obtain ⟨hi', hhi, hc⟩ := bind_some hc
    obtain ⟨mx', hmx, hc⟩ := bind_some hc
    split at hc
    · rename_i n el ht
      split at hc
      · rename_i m hm; cases hc; exact (ok_sla (call := call) ht hm hmh C hx hlo hhi hmx h).sim C (by unfold execOp; rw [ho])
      · cases hc
    · rename_i ht
      split at hc
      · cases hc
        have hmn := mapOpdo hmx rfl
        subst hmn
        exact (ok_sls (call := call) ht C hx hlo hhi h).sim C (by unfold execOp; rw [ho]; rfl)
      · cases hc
    · rename_i el ht
      split at hc
      · rename_i m hm; cases hc; exact (ok_sll (call := call) ht hm hmh C hx hlo hhi hmx h).sim C (by unfold execOp; rw [ho])
      · cases hc
    · cases hc
  · rename_i s x f ho
    split at hc
    · rename_i fs hs
      split at hc
      · rename_i fd hf
        split at hc
        · rename_i n hn'
          obtain ⟨x', hx, e⟩ := map_some hc; subst e
          exact (ok_fa (call := call) hs hf hn' C hx h).sim C (by unfold execOp; rw [ho])
        · cases hc
      · cases hc
    · cases hc
  · rename_i t x f ho
    split at hc
    · rename_i fs ht
      split at hc
      · rename_i fd hf
        obtain ⟨g, hg, hc⟩ := bind_some hc
        obtain ⟨n, hn', hc⟩ := bind_some hc
        obtain ⟨x', hx, e⟩ := map_some hc; subst e
        exact (ok_fld (call := call) ht hf hg hn' C hx h).sim C (by unfold execOp; rw [ho])
      · cases hc
    · cases hc
  · rename_i t x i ho
    obtain ⟨x', hx, hc⟩ := bind_some hc
    obtain ⟨i', hi, hc⟩ := bind_some hc
    split at hc
    · rename_i n el ht
      obtain ⟨m, hm, e⟩ := map_some hc; subst e
      exact (ok_ixp (call := call) ht hm C hx hi h).sim C (by unfold execOp; rw [ho])
    · rename_i el ht
      obtain ⟨m, hm, e⟩ := map_some hc; subst e
      exact (ok_ixa (call := call) ht hm C hx hi h).sim C (by unfold execOp; rw [ho])
    · cases hc
  · rename_i t x i ho
    obtain ⟨x', hx, hc⟩ := bind_some hc
    obtain ⟨i', hi, hc⟩ := bind_some hc
    split at hc
    · rename_i ht; cases hc; exact (ok_ixs (call := call) ht C hx hi h).sim C (by unfold execOp; rw [ho])
    · rename_i n el ht
      obtain ⟨g, hg, hc⟩ := bind_some hc
      obtain ⟨m, hm, e⟩ := map_some hc; subst e
      exact (ok_ixg (call := call) ht hg hm C hx hi h).sim C (by unfold execOp; rw [ho])
    · cases hc
  · rename_i t x ho
    split at hc
    · rename_i ht
      obtain ⟨x', hx, e⟩ := map_some hc; subst e
      exact (ok_rng (call := call) ht C hx h).sim (by unfold execOp; rw [ho])
    · cases hc
  · rename_i x isS ho
    obtain ⟨e, hc⟩ := ite_none' hc
    subst e
    obtain ⟨x', hx, e⟩ := map_some hc; subst e
    exact (ok_nxt (call := call) C hx h).sim (by unfold execOp; rw [ho])
  · rename_i x xt t ok ho
    split at hc
    · cases hc
    · rename_i d hnd ht
      split at hc
      · rename_i z hz
        obtain ⟨zero, hzc, hc⟩ := bind_some hc
        obtain ⟨x', hx, e⟩ := map_some hc; subst e
        exact (ok_tas (call := call) ht (fun ms e => hnd ms e) hz hzc C hx h).sim C (by unfold execOp; rw [ho])
      · cases hc
    · cases hc
  · rename_i x n ho
    obtain ⟨x', hx, e⟩ := map_some hc; subst e
    exact (ok_ext (call := call) C hx h).sim C (by unfold execOp; rw [ho])
  · rename_i c ho
    exact (hn c ho).elim
  · cases hc
end
end Go.Vai
