/- VAI, part S: calls; each operation, calls among them. -/
import Derived.Test.YtpoojngeloajhaaGreatDoorV17
namespace Go.Vai
section
variable {R : Type} {P : Program} {pr : Pr} {ng : Nat} {ι : Emb} {H : Heap} {fr : Tr AV} {a : Act} {w : World}
variable {k : HK R} {r : R} {call : CallK R}

theorem look_next1 : Extern.allNextRows.lookup "internal/abi.NoEscape" = none := by decide
theorem look_next2 : Extern.allNextRows.lookup "internal/bytealg.MakeNoZero" = none := by decide
theorem look_next3 : Extern.allNextRows.lookup "internal/bytealg.IndexByteString" = none := by decide
theorem look_next0 : Extern.allNextRows.lookup "" = none := by decide
theorem look_gen0 : Extern.allGenericRows.lookup "internal/abi.NoEscape" = none := by kernel_rfl
theorem look_gen1 : Extern.allGenericRows.lookup "internal/bytealg.MakeNoZero" = none := by kernel_rfl
theorem look_gen2 : Extern.allGenericRows.lookup "internal/bytealg.IndexByteString" = none := by kernel_rfl
theorem look_ty0 : Extern.allTypedRows.lookup "internal/abi.NoEscape" = none := by kernel_rfl
theorem look_ty1 : Extern.allTypedRows.lookup "internal/bytealg.MakeNoZero" = some Extern.BytealgMakeNoZero.makeNoZero := by kernel_rfl
theorem look_ty2 : Extern.allTypedRows.lookup "internal/bytealg.IndexByteString" = none := by kernel_rfl
theorem look_row0 : Extern.allRows.lookup "internal/abi.NoEscape" = some Extern.AbiNoEscape.same := by kernel_rfl
theorem look_row2 : Extern.allRows.lookup "internal/bytealg.IndexByteString" = some Extern.BytealgIndexByte.indexByte := by kernel_rfl

theorem findNext_none {fn : Func} (h : Extern.allNextRows.lookup fn.name = none) (ho : fn.origin = "") : Extern.findNext fn = none := by
  unfold Extern.findNext
  simp [h, ho, look_next0]

theorem find_noEscape {fn : Func} (h : fn.name = "internal/abi.NoEscape") : Extern.find fn = some Extern.AbiNoEscape.same := by
  unfold Extern.find
  simp [h, look_gen0, look_ty0, look_row0]
theorem find_makeNoZero {fn : Func} (h : fn.name = "internal/bytealg.MakeNoZero") : Extern.find fn = some (Extern.BytealgMakeNoZero.makeNoZero fn.params fn.resultTypes) := by
  unfold Extern.find
  simp [h, look_gen1, look_ty1]
theorem find_indexByte {fn : Func} (h : fn.name = "internal/bytealg.IndexByteString") : Extern.find fn = some Extern.BytealgIndexByte.indexByte := by
  unfold Extern.find
  simp [h, look_gen2, look_ty2, look_row2]

theorem resolve_value {ρ : Operand → Value} {c : Call} {ty : TypeId} {f : Operand} (h : c.callee = .value f) : resolve ρ c ty = Deferred.ofValue (ρ f) (c.args.map ρ) := by
  unfold resolve; rw [h]
theorem resolve_builtin {ρ : Operand → Value} {c : Call} {ty : TypeId} {b : Builtin} (h : c.callee = .builtin b) : resolve ρ c ty = pure { target := .builtin b c.argTypes ty (c.args.map fun | .const _ => true | _ => false), args := c.args.map ρ } := by
  unfold resolve; rw [h]; rfl
theorem resolve_invoke {ρ : Operand → Value} {c : Call} {ty : TypeId} {x : Operand} {name : String} (h : c.callee = .invoke x name) : resolve ρ c ty = pure { target := .fn (.method name) #[], args := #[ρ x] ++ c.args.map ρ } := by
  unfold resolve; rw [h]

/-- An entry of the library's, called. -/
theorem extern_sim {o : Oper} {c : Call} {f : Nat} {fn : Func} {e : Array Value → Sem Value} {v : AV} {H' : Heap} (ho : o.op = .call c) (hcv : c.callee = .value (.func f)) (hf : P.funcs[f]? = some fn) (hn : fn.name ≠ "runtime.NumGoroutine") (hb : fn.body = none)
    (h1 : Extern.findNext fn = none) (h2 : Extern.find fn = some e) (h : Does P pr ι w (e (c.args.map a.eval)) v H') : Sim P pr ι o a w v H' := by
  obtain ⟨v', w', ι', h3, h4, h5, h6, h7⟩ := h
  intro next Q hk
  unfold Oper.wp
  have hrun : (execOp a.eval o).run P w = .ok (.value v') w' := by
    have : (Act.eval a (.func f)) = .func (.func f) #[] #[] := rfl
    rw [execOp_call ho, resolve_value hcv, this]
    simp only [Deferred.ofValue, Sem.run_bind, Sem.run_pure, Result.andThen_ok, invoke, Array.empty_append, Array.append_empty]
    rw [run_callFunc_extern hf (by simpa using hn) (by rw [hb]; rfl) h1 h2, h3]
    rfl
  rw [hrun]
  exact hk ι' v' w' h4 h5 h6 h7

theorem opds_list {xs : Array Operand} {os : List Opd} (h : compOpds P xs = some os) : ∃ l : List Operand, xs = l.toArray ∧ l.mapM (compOpd P) = some os := ⟨xs.toList, by simp, h⟩

theorem one_arg {xs : Array Operand} {x' : Opd} (h : compOpds P xs = some [x']) : ∃ x, xs = #[x] ∧ compOpd P x = some x' := by
  obtain ⟨l, e, hl⟩ := opds_list h
  cases l with
  | nil => cases mapM_nil_some hl
  | cons x l =>
    obtain ⟨y, ys, h1, h2, e2⟩ := mapM_some_cons hl
    cases e2
    cases l with
    | nil => exact ⟨x, e, h1⟩
    | cons z l => obtain ⟨_, _, _, _, e3⟩ := mapM_some_cons h2; cases e3
theorem two_args {xs : Array Operand} {x' y' : Opd} (h : compOpds P xs = some [x', y']) : ∃ x y, xs = #[x, y] ∧ compOpd P x = some x' ∧ compOpd P y = some y' := by
  obtain ⟨l, e, hl⟩ := opds_list h
  cases l with
  | nil => cases mapM_nil_some hl
  | cons x l =>
    obtain ⟨_, ys, h1, h2, e2⟩ := mapM_some_cons hl
    cases e2
    cases l with
    | nil => cases mapM_nil_some h2
    | cons z l =>
      obtain ⟨_, ys, h3, h4, e3⟩ := mapM_some_cons h2
      cases e3
      cases l with
      | nil => exact ⟨x, z, e, h1, h3⟩
      | cons z l => obtain ⟨_, _, _, _, e3⟩ := mapM_some_cons h4; cases e3

theorem toList_one {α : Type} {xs : Array α} {x : α} (h : xs.toList = [x]) : xs = #[x] := by rw [← Array.toArray_toList (xs := xs), h]
theorem toList_two {α : Type} {xs : Array α} {x y : α} (h : xs.toList = [x, y]) : xs = #[x, y] := by rw [← Array.toArray_toList (xs := xs), h]

theorem map_one (f : Operand → Value) (x : Operand) : Array.map f #[x] = #[f x] := by simp
theorem map_two (f : Operand → Value) (x y : Operand) : Array.map f #[x, y] = #[f x, f y] := by simp

/-- A builtin, called. -/
theorem builtin_exec {o : Oper} {c : Call} {b : Builtin} {s : Sem Value} (ho : o.op = .call c) (hcv : c.callee = .builtin b)
    (hs : builtin b c.argTypes o.type (c.args.map fun | .const _ => true | _ => false) (c.args.map a.eval) = (do pure (.value (← s)) : Sem Next)) : execOp a.eval o = (do pure (.value (← s)) : Sem Next) := by
  rw [execOp_call ho, resolve_builtin hcv]
  show (invoke (.builtin b c.argTypes o.type (c.args.map fun | .const _ => true | _ => false)) (c.args.map a.eval)) = _
  exact hs

theorem method_ok {t : Nat} {pa : Pa} {name : String} (h : invRow P name t = some (t, pa)) (y : Value) : ∃ f, pa = toPa f ∧ (method (P.types.size + Made.depth) t y name).run P w = .ok (f, y) w := by
  unfold invRow at h
  obtain ⟨i, hi, h⟩ := bind_some h
  obtain ⟨m, hm, h⟩ := bind_some h
  obtain ⟨hp, h⟩ := ite_none' h
  have hd : P.types.size + Made.depth = (P.types.size + (Made.depth - 1)) + 1 := rfl
  rw [hd]
  unfold method
  have hpl : m.path.toList = [] := by rw [hp]
  split at h
  · cases h
  · rename_i f d hnp hmf hu
    cases h
    refine ⟨f, rfl, ?_⟩
    simp only [Sem.run_bind, run_info hi, Result.andThen_ok, hm, hpl, follow, Sem.run_pure, hmf]
    cases d <;> first | (exact (hnp _ rfl).elim) | simp [receiverAt, run_underlying hu, Place.get]
  · rename_i f el hmf hu
    cases h
    refine ⟨f, rfl, ?_⟩
    simp only [Sem.run_bind, run_info hi, Result.andThen_ok, hm, hpl, follow, Sem.run_pure, hmf]
    simp [receiverAt, run_underlying hu, Place.get]
  · cases h

theorem fnF_some {f : Fn} {g : Nat → Option R} {r : R} (h : fnF f g = some r) : ∃ n, f = .func n ∧ g n = some r := by
  cases f <;> first | (cases h; done) | exact ⟨_, rfl, h⟩

theorem call_ok {o : Oper} {c : Call} {q : AOp} (ho : o.op = .call c) (hc : compCall P c = some q) (hcall : CallOK P pr call) (C : Ctx P pr ι H fr a w) (h : xopK q call fr H k = some r) : SimK P pr ι o a w k r := by
  unfold compCall at hc
  split at hc
  · rename_i f hcv
    have hq := bind_some hc
    clear hc
    obtain ⟨args, hargs, hc⟩ := hq
    have ha := C.opds hargs
    split at hc
    · rename_i fn hf
      have hq := ite_none'' hc
      clear hc
      obtain ⟨hn, hc⟩ := hq
      split at hc
      · rename_i body hb
        cases hc
        have h : evsK fr args (fun args => call (toPa f) args H k) = some r := h
        rw [evsK_eq] at h
        refine hcall.sim C (f := f) (args' := c.args.map a.eval) ?_ ha h
        have : (Act.eval a (.func f)) = .func (.func f) #[] #[] := rfl
        rw [execOp_call ho, resolve_value hcv, this]
        simp only [Deferred.ofValue, Sem.run_bind, Sem.run_pure, Result.andThen_ok, invoke, Array.empty_append, Array.append_empty]
      · rename_i hb
        have hq := ite_none'' hc
        clear hc
        obtain ⟨hor, hc⟩ := hq
        have hor : fn.origin = "" := by simpa using hor
        split at hc
        · rename_i hname
          split at hc
          · rename_i x'
            cases hc
            obtain ⟨x, hx, hx'⟩ := one_arg hargs
            obtain ⟨v, h1, h2⟩ := (ok_mv (call := call) C hx' h).does C
            exact SimK.of ⟨v, H, h1, extern_sim ho hcv hf hn hb (findNext_none (by rw [hname]; exact look_next1) hor) (find_noEscape hname) (by rw [hx, map_one]; exact h2)⟩
          · cases hc
        · split at hc
          · rename_i hname
            split at hc
            · rename_i n' t hrt
              split at hc
              · rename_i el ht
                cases hc
                have hrt := toList_one hrt
                obtain ⟨x, hx, hx'⟩ := one_arg hargs
                obtain ⟨v, H', h1, h2⟩ := ok_mnz (call := call) (ps := fn.params) ht C hx' h
                exact SimK.of ⟨v, H', h1, extern_sim ho hcv hf hn hb (findNext_none (by rw [hname]; exact look_next2) hor) (find_makeNoZero hname) (by rw [hx, hrt, map_one]; exact h2)⟩
              · cases hc
            · cases hc
          · split at hc
            · rename_i hname
              split at hc
              · rename_i x' y'
                cases hc
                obtain ⟨x, y, hxy, hx', hy'⟩ := two_args hargs
                obtain ⟨v, h1, h2⟩ := (ok_ixb (call := call) C hx' hy' h).does C
                exact SimK.of ⟨v, H, h1, extern_sim ho hcv hf hn hb (findNext_none (by rw [hname]; exact look_next3) hor) (find_indexByte hname) (by rw [hxy, map_two]; exact h2)⟩
              · cases hc
            · cases hc
    · cases hc
  · rename_i f hnf hcv
    have hq := bind_some hc
    clear hc
    obtain ⟨f', hf', hc⟩ := hq
    obtain ⟨args, hargs, e⟩ := map_some hc; subst e
    have ha := C.opds hargs
    have h : evK fr f' (fun f => evsK fr args fun args => callvK call f args H k) = some r := h
    rw [evK_eq, evsK_eq] at h
    unfold callvK at h
    rcases vF_some h with ⟨_, h1⟩ | ⟨g, first, caps, e, h1⟩
    · cases h1
    · obtain ⟨n, e2, h2⟩ := fnF_some h1
      have hv := C.opd hf'
      rw [e] at hv
      obtain ⟨first', caps', hve, hfv, hcv2⟩ := hv
      refine hcall.sim C (f := n) (args' := first' ++ (c.args.map a.eval) ++ caps') ?_ ?_ h2
      · rw [execOp_call ho, resolve_value hcv, hve, e2]
        simp only [Deferred.ofValue, Sem.run_bind, Sem.run_pure, Result.andThen_ok, invoke]
      · rw [Array.toList_append, Array.toList_append, List.append_assoc]
        exact VRs_append hfv (VRs_append ha hcv2)
  · rename_i recv name hcv
    have hq := bind_some hc
    clear hc
    obtain ⟨x', hx', hc⟩ := hq
    obtain ⟨args, hargs, e⟩ := map_some hc; subst e
    have ha := C.opds hargs
    have h : evK fr x' (fun x => evsK fr args fun args => vE x none fun t v => lookK t (invTbl P name) fun f => call f (v :: args) H k) = some r := h
    rw [evK_eq, evsK_eq] at h
    rcases vE_some h with ⟨_, h1⟩ | ⟨t, y, e, h1⟩
    · cases h1
    · obtain ⟨pa, hmem, h2⟩ := lookK_some h1
      have hv := C.opd hx'
      rw [e] at hv
      obtain ⟨y', hve, hyv⟩ := hv
      obtain ⟨t', _, hrow⟩ := List.mem_filterMap.mp hmem
      have htt : t' = t := by
        unfold invRow at hrow
        obtain ⟨i, hi, hrow⟩ := bind_some hrow
        obtain ⟨m, hm, hrow⟩ := bind_some hrow
        obtain ⟨hp, hrow⟩ := ite_none' hrow
        split at hrow <;> first | (cases hrow; done) | (cases hrow; rfl)
      subst htt
      obtain ⟨f, ef, hmeth⟩ := method_ok (w := w) hrow y'
      subst ef
      refine hcall.sim C (f := f) (args' := #[y'] ++ c.args.map a.eval) ?_ ?_ h2
      · rw [execOp_call ho, resolve_invoke hcv, hve]
        simp only [Sem.run_bind, Sem.run_pure, Result.andThen_ok, invoke]
        have e1 : (#[Value.iface t' y'] ++ c.args.map a.eval)[0]? = some (Value.iface t' y') := by rw [Array.getElem?_append_left (Nat.one_pos)]; rfl
        have e2 : (#[Value.iface t' y'] ++ c.args.map a.eval).extract 1 (#[Value.iface t' y'] ++ c.args.map a.eval).size = c.args.map a.eval := by
          apply Array.ext'
          simp [List.take_of_length_le]
        rw [e1, e2]
        simp only [callMethod, Sem.run_bind, run_program, Result.andThen_ok, hmeth]
      · exact ⟨y', _, by simp, hyv, ha⟩
  · rename_i b hcv
    have hq := bind_some hc
    clear hc
    obtain ⟨args, hargs, hc⟩ := hq
    split at hc
    · rename_i x' t hat
      have hat := toList_one hat
      obtain ⟨x, hx, hx'⟩ := one_arg hargs
      split at hc
      · rename_i ht; cases hc
        exact SimK.of ((ok_len (str := true) (t := t) (call := call) (ty := o.type) ht C hx' h).sim C (builtin_exec ho hcv (by rw [hat, hx, map_one]; rfl)))
      · rename_i el ht; cases hc
        exact SimK.of ((ok_len (str := false) (t := t) (call := call) (ty := o.type) ⟨_, ht⟩ C hx' h).sim C (builtin_exec ho hcv (by rw [hat, hx, map_one]; rfl)))
      · rename_i n el ht; cases hc
        exact SimK.of ((ok_lenc (fr := fr) (call := call) (ty := o.type) (v := a.eval x) (.inl ⟨_, ht⟩) h).sim C (builtin_exec ho hcv (by rw [hat, hx, map_one]; rfl)))
      · rename_i ar ht
        split at hc
        · rename_i n el hta; cases hc
          exact SimK.of ((ok_lenc (fr := fr) (call := call) (ty := o.type) (v := a.eval x) (.inr ⟨_, _, ht, hta⟩) h).sim C (builtin_exec ho hcv (by rw [hat, hx, map_one]; rfl)))
        · cases hc
      · cases hc
    · rename_i x' t hat
      have hat := toList_one hat
      obtain ⟨x, hx, hx'⟩ := one_arg hargs
      split at hc
      · rename_i el ht; cases hc
        exact SimK.of ((ok_cap (call := call) (ty := o.type) ht C hx' h).sim C (builtin_exec ho hcv (by rw [hat, hx, map_one]; rfl)))
      · cases hc
    · rename_i x' y' t u hat
      have hat := toList_two hat
      obtain ⟨x, y, hxy, hx', hy'⟩ := two_args hargs
      split at hc
      · cases hc
      · rename_i el du hnd ht hu
        split at hc
        · rename_i n bb zs hn hb hz
          have hq := ite_none hc
          clear hc
          obtain ⟨hzl, hc⟩ := hq
          subst hc
          exact SimK.of ((ok_app (call := call) (ty := o.type) ht hu (fun kd e => hnd kd e) hn hb hz hzl C hx' hy' h).sim (builtin_exec ho hcv (by rw [hat, hxy, map_two]; rfl)))
        · cases hc
      · cases hc
    · rename_i x' y' t u hat
      have hat := toList_two hat
      obtain ⟨x, y, hxy, hx', hy'⟩ := two_args hargs
      split at hc
      · rename_i el ht
        split at hc
        · rename_i n hn; cases hc
          exact SimK.of ((ok_cpy (call := call) (ty := o.type) ht hn C hx' hy' h).sim (builtin_exec ho hcv (by rw [hat, hxy, map_two]; rfl)))
        · cases hc
      · cases hc
    · rename_i x' y' l hat; cases hc
      obtain ⟨x, y, hxy, hx', hy'⟩ := two_args hargs
      exact SimK.of ((ok_mm (isMax := false) (call := call) (ts := c.argTypes) (ty := o.type) C hx' hy' h).sim C (builtin_exec ho hcv (by rw [hxy, map_two]; rfl)))
    · rename_i x' y' l hat; cases hc
      obtain ⟨x, y, hxy, hx', hy'⟩ := two_args hargs
      exact SimK.of ((ok_mm (isMax := true) (call := call) (ts := c.argTypes) (ty := o.type) C hx' hy' h).sim C (builtin_exec ho hcv (by rw [hxy, map_two]; rfl)))
    · rename_i x' l hat; cases hc
      obtain ⟨x, hx, hx'⟩ := one_arg hargs
      exact SimK.of ((ok_usd (call := call) (ts := c.argTypes) (ty := o.type) C hx' h).sim C (builtin_exec ho hcv (by rw [hx, map_one]; rfl)))
    · rename_i x' y' t u hat
      have hat := toList_two hat
      obtain ⟨x, y, hxy, hx', hy'⟩ := two_args hargs
      split at hc
      · rename_i el ht
        split at hc
        · rename_i he hn
          have hq := ite_none'' hc
          clear hc
          obtain ⟨h0, hc⟩ := hq
          cases hc
          exact SimK.of ((ok_ustr (call := call) (ty := o.type) ht hn h0 C hx' hy' h).sim (builtin_exec ho hcv (by rw [hat, hxy, map_two]; rfl)))
        · cases hc
      · cases hc
    · cases hc

theorem op_ok {o : Oper} {q : AOp} (hc : compOp P o = some q) (hcall : CallOK P pr call) (C : Ctx P pr ι H fr a w) (h : xopK q call fr H k = some r) : SimK P pr ι o a w k r := by
  by_cases hn : ∃ c, o.op = .call c
  · obtain ⟨c, ho⟩ := hn
    have : compCall P c = some q := by unfold compOp at hc; rw [ho] at hc; exact hc
    exact call_ok ho this hcall C h
  · exact SimK.of (not_call_ok (fun c e => hn ⟨c, e⟩) hc C h)
end
end Go.Vai
