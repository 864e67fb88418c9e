/- VAI, part d: the operations that turn no memory: what they leave. -/
import Derived.Test.YtpoojngeloajhaaGreatDoorV28
namespace Go.Vai
section
variable {R : Type} {P : Program} {pr : Pr} {ng : Nat} {ι : Emb} {H : Heap} {fr : Tr AV} {a : Act} {w : World}
variable {k : HK R} {r : R} {call : CallK R}

theorem PureOK.simL {o : Oper} {s : Sem Value} (C : Ctx P pr ι H fr a w) (h : PureOK P ι w H k r s) (he : execOp a.eval o = (do pure (.value (← s)) : Sem Next)) : ∃ v, k v H = some r ∧ Sim P pr ι o a w v H := by
  obtain ⟨v, h1, h2⟩ := h.does C
  exact ⟨v, h1, h2.sim he⟩

theorem conv_light {s d : TypeId} {x : Operand} {x' : Opd} {q : AOp} (hc : compConv P s d x' = some q) (C : Ctx P pr ι H fr a w) (hx : compOpd P x = some x') (hcl : clsOf q ≤ 1) (h : xopK q call fr H k = some r) : PureOK P ι w H k r (convert s d (a.eval x)) := by
  unfold compConv at hc
  split at hc
  · rename_i h1 h2; cases hc; exact (ok_cvi (call := call) h1 h2 C hx h)
  · rename_i h1 h2; cases hc; exact (ok_i2s (call := call) h1 h2 C hx h)
  · rename_i h1 h2; cases hc; exact (ok_cvs (call := call) h1 h2 C hx h)
  · rename_i h1 h2
    split at hc
    · rename_i h3 h4; cases hc; exact absurd hcl (by simp [clsOf])
    · rename_i h3 h4; cases hc; exact absurd hcl (by simp [clsOf])
    · cases hc
  · rename_i h1 h2
    split at hc
    · rename_i h3 h4; cases hc; exact (ok_b2s (call := call) h1 h2 h3 C hx h)
    · rename_i h3 h4; cases hc; exact (ok_r2s (call := call) h1 h2 h3 C hx h)
    · cases hc
  · rename_i h1 h2
    split at hc
    · rename_i h3; cases hc; exact (ok_p2u (call := call) h1 h2 h3 C hx h)
    · cases hc
  · rename_i h1 h2
    split at hc
    · rename_i h3
      obtain ⟨h4, h5⟩ := ite_none'' hc
      cases h5
      exact (ok_u2p (call := call) h1 h2 h3 h4 C hx h)
    · cases hc
  · cases hc

theorem not_call_light {o : Oper} {q : AOp} (hn : ∀ c, o.op ≠ .call c) (hc : compOp P o = some q) (C : Ctx P pr ι H fr a w) (hcl : clsOf q ≤ 1) (h : xopK q call fr H k = some r) : ∃ v, k v H = some r ∧ Sim P pr ι o a w v H := by
  unfold compOp at hc
  split at hc
  · rename_i x ho
    obtain ⟨x', hx, e⟩ := map_some hc; subst e
    exact (ok_mv (call := call) C hx h).simL C (by unfold execOp; rw [ho]; rfl)
  · rename_i x ho
    obtain ⟨x', hx, e⟩ := map_some hc; subst e
    exact (ok_mv (call := call) C hx h).simL C (by unfold execOp; rw [ho]; rfl)
  · rename_i c x y ho
    obtain ⟨c', hcc, hc⟩ := bind_some hc
    obtain ⟨x', hx, hc⟩ := bind_some hc
    obtain ⟨y', hy, e⟩ := map_some hc; subst e
    exact (ok_pick (call := call) C hcc hx hy h).simL C (by unfold execOp; rw [ho]; simp)
  · rename_i e ho
    obtain ⟨zs, hz, e'⟩ := map_some hc; subst e'
    exact absurd hcl (by simp [clsOf])
  · rename_i e x ho
    obtain ⟨x', hx, e'⟩ := map_some hc; subst e'
    exact absurd hcl (by simp [clsOf])
  · rename_i t ps ho
    split at hc
    · rename_i fs ht
      obtain ⟨hall, hc⟩ := ite_none' hc
      obtain ⟨zs, hz, hc⟩ := bind_some hc
      obtain ⟨ps', hp, e⟩ := map_some hc; subst e
      exact (ok_buildS (call := call) ht hz hp hall C h).simL C (by unfold execOp; rw [ho])
    · rename_i m el ht
      obtain ⟨zs, hz, hc⟩ := bind_some hc
      obtain ⟨n, hn', hc⟩ := bind_some hc
      obtain ⟨ps', hp, e⟩ := map_some hc; subst e
      exact (ok_buildA (call := call) ht hz hn' hp C h).simL C (by unfold execOp; rw [ho])
    · cases hc
  · rename_i t len ps ho
    split at hc
    · rename_i el ht
      split at hc
      · rename_i zs n hz hn'
        obtain ⟨⟨hlim, hzl⟩, hc⟩ := ite_none' hc
        obtain ⟨ps', hp, e⟩ := map_some hc; subst e
        exact absurd hcl (by simp [clsOf])
      · cases hc
    · cases hc
  · rename_i t x ho
    obtain ⟨x', hx, hc⟩ := bind_some hc
    obtain ⟨g, hg, hc⟩ := bind_some hc
    obtain ⟨n, hn', hc⟩ := bind_some hc
    obtain ⟨hgn, e⟩ := ite_none hc
    subst e
    exact (ok_ld (call := call) hg hn' (by simpa using hgn) C hx h).simL C (by unfold execOp; rw [ho])
  · rename_i t x y ho
    obtain ⟨x', hx, hc⟩ := bind_some hc
    obtain ⟨y', hy, hc⟩ := bind_some hc
    obtain ⟨n, hn', e⟩ := map_some hc; subst e
    exact absurd hcl (by simp [clsOf])
  · rename_i x ho
    obtain ⟨x', hx, e⟩ := map_some hc; subst e
    obtain ⟨v, h1, v', h2, h3⟩ := ok_nilck (call := call) C hx h ho
    refine ⟨v, h1, fun next Q hk => ?_⟩
    unfold Oper.wp
    rw [h3]
    exact hk ι v' w (Ext.refl _) C.rel (Fr.refl _ _) h2
  · rename_i op t x y c ho
    obtain ⟨x', hx, hc⟩ := bind_some hc
    obtain ⟨y', hy, e⟩ := map_some hc; subst e
    exact (ok_bin (call := call) C hx hy h).simL C (by unfold execOp; rw [ho])
  · rename_i op t x ho
    obtain ⟨x', hx, hc⟩ := bind_some hc
    split at hc
    · cases hc; exact (ok_not (call := call) C hx h).simL C (by unfold execOp; rw [ho])
    · cases hc; exact (ok_neg (call := call) C hx h).simL C (by unfold execOp; rw [ho])
    · cases hc; exact (ok_cpl (call := call) C hx h).simL C (by unfold execOp; rw [ho])
    · cases hc
  · rename_i s d x ho
    obtain ⟨x', hx, hc⟩ := bind_some hc
    exact (conv_light hc C hx hcl h).simL C (by unfold execOp; rw [ho])
  · rename_i t x ho
    split at hc
    · cases hc
    · rename_i d hnd ht
      obtain ⟨x', hx, e⟩ := map_some hc; subst e
      exact (ok_mkif (call := call) ht (fun ms e => hnd ms e) C hx h).simL C (by unfold execOp; rw [ho])
    · cases hc
  · rename_i f first caps ho
    obtain ⟨first', h1, hc⟩ := bind_some hc
    obtain ⟨caps', h2, e⟩ := map_some hc; subst e
    exact (ok_mkfn (call := call) C h1 h2 h).simL C (by unfold execOp; rw [ho])
  · rename_i t l c ho
    split at hc
    · rename_i el ht
      split at hc
      · rename_i zs n b hz hn' hb
        obtain ⟨hzl, hc⟩ := ite_none' hc
        obtain ⟨l', hl, hc⟩ := bind_some hc
        obtain ⟨c', hcc, e⟩ := map_some hc; subst e
        exact absurd hcl (by simp [clsOf])
      · cases hc
    · cases hc
  · rename_i t x lo hi mx ho
    obtain ⟨hmh, hc⟩ := ite_none'' hc
    have hmh : mx = none ∨ hi ≠ none := by
      cases mx <;> cases hi <;> simp at hmh ⊢
    obtain ⟨x', hx, hc⟩ := bind_some hc
    obtain ⟨lo', hlo, hc⟩ := bind_some hc
    obtain ⟨hi', hhi, hc⟩ := bind_some hc
    obtain ⟨mx', hmx, hc⟩ := bind_some hc
    split at hc
    · rename_i n el ht
      split at hc
      · rename_i m hm; cases hc; exact (ok_sla (call := call) ht hm hmh C hx hlo hhi hmx h).simL C (by unfold execOp; rw [ho])
      · cases hc
    · rename_i ht
      split at hc
      · cases hc
        have hmn := mapOpdo hmx rfl
        subst hmn
        exact (ok_sls (call := call) ht C hx hlo hhi h).simL C (by unfold execOp; rw [ho]; rfl)
      · cases hc
    · rename_i el ht
      split at hc
      · rename_i m hm; cases hc; exact (ok_sll (call := call) ht hm hmh C hx hlo hhi hmx h).simL C (by unfold execOp; rw [ho])
      · cases hc
    · cases hc
  · rename_i s x f ho
    split at hc
    · rename_i fs hs
      split at hc
      · rename_i fd hf
        split at hc
        · rename_i n hn'
          obtain ⟨x', hx, e⟩ := map_some hc; subst e
          exact (ok_fa (call := call) hs hf hn' C hx h).simL C (by unfold execOp; rw [ho])
        · cases hc
      · cases hc
    · cases hc
  · rename_i t x f ho
    split at hc
    · rename_i fs ht
      split at hc
      · rename_i fd hf
        obtain ⟨g, hg, hc⟩ := bind_some hc
        obtain ⟨n, hn', hc⟩ := bind_some hc
        obtain ⟨x', hx, e⟩ := map_some hc; subst e
        exact (ok_fld (call := call) ht hf hg hn' C hx h).simL C (by unfold execOp; rw [ho])
      · cases hc
    · cases hc
  · rename_i t x i ho
    obtain ⟨x', hx, hc⟩ := bind_some hc
    obtain ⟨i', hi, hc⟩ := bind_some hc
    split at hc
    · rename_i n el ht
      obtain ⟨m, hm, e⟩ := map_some hc; subst e
      exact (ok_ixp (call := call) ht hm C hx hi h).simL C (by unfold execOp; rw [ho])
    · rename_i el ht
      obtain ⟨m, hm, e⟩ := map_some hc; subst e
      exact (ok_ixa (call := call) ht hm C hx hi h).simL C (by unfold execOp; rw [ho])
    · cases hc
  · rename_i t x i ho
    obtain ⟨x', hx, hc⟩ := bind_some hc
    obtain ⟨i', hi, hc⟩ := bind_some hc
    split at hc
    · rename_i ht; cases hc; exact (ok_ixs (call := call) ht C hx hi h).simL C (by unfold execOp; rw [ho])
    · rename_i n el ht
      obtain ⟨g, hg, hc⟩ := bind_some hc
      obtain ⟨m, hm, e⟩ := map_some hc; subst e
      exact (ok_ixg (call := call) ht hg hm C hx hi h).simL C (by unfold execOp; rw [ho])
    · cases hc
  · rename_i t x ho
    split at hc
    · rename_i ht
      obtain ⟨x', hx, e⟩ := map_some hc; subst e
      exact absurd hcl (by simp [clsOf])
    · cases hc
  · rename_i x isS ho
    obtain ⟨e, hc⟩ := ite_none' hc
    subst e
    obtain ⟨x', hx, e⟩ := map_some hc; subst e
    exact absurd hcl (by simp [clsOf])
  · rename_i x xt t ok ho
    split at hc
    · cases hc
    · rename_i d hnd ht
      split at hc
      · rename_i z hz
        obtain ⟨zero, hzc, hc⟩ := bind_some hc
        obtain ⟨x', hx, e⟩ := map_some hc; subst e
        exact (ok_tas (call := call) ht (fun ms e => hnd ms e) hz hzc C hx h).simL C (by unfold execOp; rw [ho])
      · cases hc
    · cases hc
  · rename_i x n ho
    obtain ⟨x', hx, e⟩ := map_some hc; subst e
    exact (ok_ext (call := call) C hx h).simL C (by unfold execOp; rw [ho])
  · rename_i c ho
    exact (hn c ho).elim
  · cases hc
theorem call_light {o : Oper} {c : Call} {q : AOp} (ho : o.op = .call c) (hc : compCall P c = some q) (C : Ctx P pr ι H fr a w) (hcl : clsOf q ≤ 1) (h : xopK q call fr H k = some r) : ∃ v, k v H = some r ∧ Sim P pr ι o a w v H := by
  unfold compCall at hc
  split at hc
  · rename_i f hcv
    have hq := bind_some hc
    clear hc
    obtain ⟨args, hargs, hc⟩ := hq
    have ha := C.opds hargs
    split at hc
    · rename_i fn hf
      have hq := ite_none'' hc
      clear hc
      obtain ⟨hn, hc⟩ := hq
      split at hc
      · rename_i body hb
        cases hc
        exact absurd hcl (by simp [clsOf])
      · rename_i hb
        have hq := ite_none'' hc
        clear hc
        obtain ⟨hor, hc⟩ := hq
        have hor : fn.origin = "" := by simpa using hor
        split at hc
        · rename_i hname
          split at hc
          · rename_i x'
            cases hc
            obtain ⟨x, hx, hx'⟩ := one_arg hargs
            obtain ⟨v, h1, h2⟩ := (ok_mv (call := call) C hx' h).does C
            exact ⟨v, h1, extern_sim ho hcv hf hn hb (findNext_none (by rw [hname]; exact look_next1) hor) (find_noEscape hname) (by rw [hx, map_one]; exact h2)⟩
          · cases hc
        · split at hc
          · rename_i hname
            split at hc
            · rename_i n' t hrt
              split at hc
              · rename_i el ht
                cases hc
                have hrt := toList_one hrt
                obtain ⟨x, hx, hx'⟩ := one_arg hargs
                exact absurd hcl (by simp [clsOf])
              · cases hc
            · cases hc
          · split at hc
            · rename_i hname
              split at hc
              · rename_i x' y'
                cases hc
                obtain ⟨x, y, hxy, hx', hy'⟩ := two_args hargs
                obtain ⟨v, h1, h2⟩ := (ok_ixb (call := call) C hx' hy' h).does C
                exact ⟨v, h1, extern_sim ho hcv hf hn hb (findNext_none (by rw [hname]; exact look_next3) hor) (find_indexByte hname) (by rw [hxy, map_two]; exact h2)⟩
              · cases hc
            · cases hc
    · cases hc
  · rename_i f hnf hcv
    have hq := bind_some hc
    clear hc
    obtain ⟨f', hf', hc⟩ := hq
    obtain ⟨args, hargs, e⟩ := map_some hc; subst e
    have ha := C.opds hargs
    exact absurd hcl (by simp [clsOf])
  · rename_i recv name hcv
    have hq := bind_some hc
    clear hc
    obtain ⟨x', hx', hc⟩ := hq
    obtain ⟨args, hargs, e⟩ := map_some hc; subst e
    have ha := C.opds hargs
    exact absurd hcl (by simp [clsOf])
  · rename_i b hcv
    have hq := bind_some hc
    clear hc
    obtain ⟨args, hargs, hc⟩ := hq
    split at hc
    · rename_i x' t hat
      have hat := toList_one hat
      obtain ⟨x, hx, hx'⟩ := one_arg hargs
      split at hc
      · rename_i ht; cases hc
        exact ((ok_len (str := true) (t := t) (call := call) (ty := o.type) ht C hx' h).simL C (builtin_exec ho hcv (by rw [hat, hx, map_one]; rfl)))
      · rename_i el ht; cases hc
        exact ((ok_len (str := false) (t := t) (call := call) (ty := o.type) ⟨_, ht⟩ C hx' h).simL C (builtin_exec ho hcv (by rw [hat, hx, map_one]; rfl)))
      · rename_i n el ht; cases hc
        exact ((ok_lenc (fr := fr) (call := call) (ty := o.type) (v := a.eval x) (.inl ⟨_, ht⟩) h).simL C (builtin_exec ho hcv (by rw [hat, hx, map_one]; rfl)))
      · rename_i ar ht
        split at hc
        · rename_i n el hta; cases hc
          exact ((ok_lenc (fr := fr) (call := call) (ty := o.type) (v := a.eval x) (.inr ⟨_, _, ht, hta⟩) h).simL C (builtin_exec ho hcv (by rw [hat, hx, map_one]; rfl)))
        · cases hc
      · cases hc
    · rename_i x' t hat
      have hat := toList_one hat
      obtain ⟨x, hx, hx'⟩ := one_arg hargs
      split at hc
      · rename_i el ht; cases hc
        exact ((ok_cap (call := call) (ty := o.type) ht C hx' h).simL C (builtin_exec ho hcv (by rw [hat, hx, map_one]; rfl)))
      · cases hc
    · rename_i x' y' t u hat
      have hat := toList_two hat
      obtain ⟨x, y, hxy, hx', hy'⟩ := two_args hargs
      split at hc
      · cases hc
      · rename_i el du hnd ht hu
        split at hc
        · rename_i n bb zs hn hb hz
          have hq := ite_none hc
          clear hc
          obtain ⟨hzl, hc⟩ := hq
          subst hc
          exact absurd hcl (by simp [clsOf])
        · cases hc
      · cases hc
    · rename_i x' y' t u hat
      have hat := toList_two hat
      obtain ⟨x, y, hxy, hx', hy'⟩ := two_args hargs
      split at hc
      · rename_i el ht
        split at hc
        · rename_i n hn; cases hc
          exact absurd hcl (by simp [clsOf])
        · cases hc
      · cases hc
    · rename_i x' y' l hat; cases hc
      obtain ⟨x, y, hxy, hx', hy'⟩ := two_args hargs
      exact ((ok_mm (isMax := false) (call := call) (ts := c.argTypes) (ty := o.type) C hx' hy' h).simL C (builtin_exec ho hcv (by rw [hxy, map_two]; rfl)))
    · rename_i x' y' l hat; cases hc
      obtain ⟨x, y, hxy, hx', hy'⟩ := two_args hargs
      exact ((ok_mm (isMax := true) (call := call) (ts := c.argTypes) (ty := o.type) C hx' hy' h).simL C (builtin_exec ho hcv (by rw [hxy, map_two]; rfl)))
    · rename_i x' l hat; cases hc
      obtain ⟨x, hx, hx'⟩ := one_arg hargs
      exact ((ok_usd (call := call) (ts := c.argTypes) (ty := o.type) C hx' h).simL C (builtin_exec ho hcv (by rw [hx, map_one]; rfl)))
    · rename_i x' y' t u hat
      have hat := toList_two hat
      obtain ⟨x, y, hxy, hx', hy'⟩ := two_args hargs
      split at hc
      · rename_i el ht
        split at hc
        · rename_i he hn
          have hq := ite_none'' hc
          clear hc
          obtain ⟨h0, hc⟩ := hq
          cases hc
          exact absurd hcl (by simp [clsOf])
        · cases hc
      · cases hc
    · cases hc


/-- An operation that turns no memory. -/
theorem light_ok {o : Oper} {q : AOp} (hc : compOp P o = some q) (hcl : clsOf q ≤ 1) (C : Ctx P pr ι H fr a w) (h : xopK q call fr H k = some r) : ∃ v, k v H = some r ∧ Sim P pr ι o a w v H := by
  by_cases hn : ∃ c, o.op = .call c
  · obtain ⟨c, ho⟩ := hn
    have : compCall P c = some q := by unfold compOp at hc; rw [ho] at hc; exact hc
    exact call_light ho this C hcl h
  · exact not_call_light (fun c e => hn ⟨c, e⟩) hc C hcl h
end
end Go.Vai
