/- VAI, part U: code, calls, and the whole. -/
import Derived.Test.YtpoojngeloajhaaGreatDoorV19
import Derived.Below
namespace Go.Vai
section
variable {R : Type} {P : Program} {pr : Pr} {n : Nat} {ι : Emb} {H : Heap} {fr : Tr AV} {a : Act} {w : World}
variable {r : R} {call : CallK R}

section
variable {ng : Nat}
/-- Memory that has grown alone. -/
theorem Rel.below {h h' : Array Obj} (R : Rel pr ng ι H h) (hs : h.size ≤ h'.size) (hk : ∀ b, b < h.size → h'[b]? = h[b]?) : Rel pr ng ι H h' :=
  ⟨R.fresh, R.freshH, fun a => (R.dom a).mono (Ext.refl ι) (fun _ e => e) fun _ hj => hk _ (R.lt _ _ hj), R.sep, fun a _ hj => Nat.lt_of_lt_of_le (R.lt a _ hj) hs, fun b hb => Nat.lt_of_lt_of_le (R.prot b hb) hs, R.glob, R.resv⟩

end
def exitOf : Ex → Exit
  | .norm => .normal
  | .exit id => .exit id
  | .ret => .ret

/-- Within a loop, a round done. -/
def InLoop (P : Program) (c : Code) (Q : Exit → Act → World → Prop) (a : Act) (w : World) : Prop :=
  ∀ (b : Frame) (k : List Item) (cs : List Frame), ∃ e a' w', Q e a' w' ∧ Arrives P (lone (b.at a (.inLoop c :: k)) cs w) b k cs e a' w'

theorem loop_round {c : Code} {Q : Exit → Act → World → Prop} (h : c.wp P (Exit.then (InLoop P c Q) Q) a w) (b : Frame) (k : List Item) (cs : List Frame) :
    ∃ e a' w', Q e a' w' ∧ Arrives P (lone (b.at a (.code c :: .inLoop c :: k)) cs w) b k cs e a' w' := by
  obtain ⟨e, a₁, w₁, hq, harr⟩ := h b (.inLoop c :: k) cs
  cases e with
  | normal =>
    obtain ⟨e₂, a₂, w₂, hq₂, harr₂⟩ := hq b k cs
    exact ⟨e₂, a₂, w₂, hq₂, .of_steps harr harr₂⟩
  | exit id => exact ⟨_, a₁, w₁, hq, .pass (x := .inLoop c) rfl (fun _ _ => .inl (by simp)) harr⟩
  | goto l => exact ⟨_, a₁, w₁, hq, .pass (x := .inLoop c) rfl (fun _ _ => .inl (by simp)) harr⟩
  | ret => exact ⟨_, a₁, w₁, hq, .pass (x := .inLoop c) rfl (fun _ _ => .inl (by simp)) harr⟩
  | panic ch => exact ⟨_, a₁, w₁, hq, .pass (x := .inLoop c) rfl (fun _ _ => .inl (by simp)) harr⟩
  | outgrown => exact ⟨_, a₁, w₁, hq, .pass (x := .inLoop c) rfl (fun _ _ => .inl (by simp)) harr⟩

theorem inLoop_of {c : Code} {Q : Exit → Act → World → Prop} (h : c.wp P (Exit.then (InLoop P c Q) Q) a w) : InLoop P c Q a w := by
  intro b k cs
  obtain ⟨e, a', w', hq, harr⟩ := loop_round h b k cs
  exact ⟨e, a', w', hq, .of_steps (.one step_inLoop) harr⟩
theorem loop_of {c : Code} {Q : Exit → Act → World → Prop} (h : c.wp P (Exit.then (InLoop P c Q) Q) a w) : (Code.loop c).wp P Q a w := by
  intro b k cs
  obtain ⟨e, a', w', hq, harr⟩ := loop_round h b k cs
  exact ⟨e, a', w', hq, .of_steps (.one step_loop) harr⟩

/-- What a run of code is worth. -/
structure RunOK (P : Program) (run : Run1) : Prop where
  bad : ∀ R fr H k, run R .bad fr H k = none
  ok : ∀ (R : Type) (pr : Pr) (n : Nat) (cd : Code) (ac : AC), compC P n cd = some ac → ∀ (ι : Emb) (H : Heap) (fr : Tr AV) (a : Act) (w : World) (k : XK R) (r : R), At P pr n ι H fr a w → run R ac fr H k = some r →
    ∀ Q : Exit → Act → World → Prop, (∀ e fr' H' ι' a' w', k e fr' H' = some r → Ext ι ι' → At P pr n ι' H' fr' a' w' → Fr pr w w' → Q (exitOf e) a' w') →
      cd.wp P Q a w ∧ ∀ c, cd = .loop c → InLoop P c Q a w

/-- What calls are worth. -/
def CallsOK (P : Program) (call : Call1) : Prop := ∀ (R : Type) (pr : Pr), CallOK P pr (call R)

def dfl : AF := .mk .bad []
/-- A function that is known by a contract: what it tells of its arguments alone; it leaves all that was there. -/
def PrimOK (P : Program) (f : Nat) (g : List AV → Option AV) : Prop :=
  (∃ fn c, P.funcs[f]? = some fn ∧ fn.body = some c ∧ fn.name ≠ "runtime.NumGoroutine") ∧
  ∀ (ι : Emb) (args : List AV) (args' : Array Value) (w : World) (v : AV), P.globals.size ≤ w.heap.size → VRs ι args args'.toList → g args = some v →
    Calls P f args' w fun e w' => ∃ v', e = .returned v' ∧ VR ι v v' ∧ Go.RowKit.Below w.heap.size w w'
/-- A table of functions. -/
def TblOK (P : Program) (Φ : Tr AF) : Prop := ∀ f : Nat, Tr.get dfl Φ (toPa f) = dfl ∨ (∃ fn, P.funcs[f]? = some fn ∧ compF P fn = some (Tr.get dfl Φ (toPa f))) ∨ ∃ g, Tr.get dfl Φ (toPa f) = .prim g ∧ PrimOK P f g

/-- A region that draws. -/
def DrawOK (P : Program) : Prop :=
  ∀ (call : Call1), CallsOK P call → ∀ (R : Type) (pr : Pr) (n id : Nat) (ops : Array Oper) (l : List AI) (nA : Nat) (xs : List (AI × DI)), ops.toList.mapM (compAI P n ops) = some l → compDraw P ops l = some (.draw nA xs) →
    ∀ (ι : Emb) (H : Heap) (fr : Tr AV) (a : Act) (w : World) (k : Tr AV → Heap → Option R) (r : R), At P pr n ι H fr a w → draw0K call nA xs fr H k = some r →
      ∀ Q : Exit → Act → World → Prop, (∀ fr' H' ι' a' w', k fr' H' = some r → Ext ι ι' → At P pr n ι' H' fr' a' w' → Fr pr w w' → Q .normal a' w') → (Code.region id ops true).wp P Q a w

theorem argsK_eq : ∀ (l : List AV) (i : Nat) (t : Tr AV) (k : Tr AV → Option R), ∃ t', argsK l i t k = k t' ∧ ∀ j, Tr.get un t' (toPa j) = if i ≤ j ∧ j < i + l.length then (l[j - i]?).getD un else Tr.get un t (toPa j)
  | [], i, t, k => ⟨t, rfl, fun j => by rw [if_neg (by simp only [List.length_nil]; omega)]⟩
  | v :: l, i, t, k => by
    have e : argsK (v :: l) i t k = setK un v (toPa i) t (fun t => forceN (Nat.succ i) fun i => argsK l i t k) := rfl
    rw [e, setK_eq, forceN_eq]
    obtain ⟨t', h1, h2⟩ := argsK_eq l (Nat.succ i) (Tr.set un v t (toPa i)) k
    refine ⟨t', h1, fun j => ?_⟩
    rw [h2, Tr.get_set]
    by_cases h : j = i
    · subst h
      rw [if_neg (by omega), if_pos rfl, if_pos ⟨by omega, by simp⟩]
      simp
    · have hne : ¬ toPa i = toPa j := fun e => h (toPa_inj e).symm
      by_cases g : Nat.succ i ≤ j ∧ j < Nat.succ i + l.length
      · rw [if_pos g, if_pos ⟨by omega, by simp; omega⟩]
        have : j - i = (j - (Nat.succ i)) + 1 := by omega
        rw [this]; simp
      · rw [if_neg g, if_neg hne, if_neg (by simp; omega)]

theorem leaf_get (p : Pa) : Tr.get un (.leaf : Tr AV) p = un := Tr.get_leaf un p

/-- The frame that a call begins with. -/
theorem args_ok {args : List AV} {args' : Array Value} (hv : VRs ι args args'.toList) {t' : Tr AV} (h : ∀ j, Tr.get un t' (toPa j) = if 0 ≤ j ∧ j < 0 + args.length then (args[j - 0]?).getD un else Tr.get un (.leaf : Tr AV) (toPa j)) (m : Nat) :
    FR ι t' { tmps := args' ++ Array.replicate m undef, defers := [] } := by
  intro t
  have hl := VRs_length hv
  have hsz : args'.size = args.length := by simpa using hl
  rw [h]
  show VR ι _ ((args' ++ Array.replicate m undef).getD t undef)
  rw [Array.getD_eq_getD_getElem?]
  by_cases g : t < args.length
  · rw [if_pos ⟨by omega, by omega⟩, Nat.sub_zero]
    have hx : args[t]? = some args[t] := List.getElem?_eq_getElem g
    obtain ⟨y, hy, hvy⟩ := VRs_get hv t _ hx
    rw [Array.getElem?_append_left (by omega), ← Array.getElem?_toList, hy, hx]
    exact hvy
  · rw [if_neg (by omega), leaf_get]
    rw [Array.getElem?_append_right (by omega), Array.getElem?_replicate]
    split <;> exact un_undef ι

theorem res_ok (C : Ctx P pr ι H fr a w) : ∀ (rs : List ResultVar) (l : List ARes) (f : List AV → Option R) (r : R), rs.mapM (compRes P) = some l → resK l fr H f = some r →
    ∃ avs vs, f avs = some r ∧ VRs ι avs vs ∧ (rs.mapM (fun x => (match x with | .tmp t => pure (a.tmps.getD t undef) | .cell p t => do loadVar t (← asAddr (a.tmps.getD p undef)) : Sem Value))).run P w = .ok vs w
  | [], l, f, r, hl, h => by
    rw [mapM_nil_some hl] at h
    exact ⟨[], [], h, rfl, rfl⟩
  | x :: rs, l, f, r, hl, h => by
    obtain ⟨y, ys, h1, h2, e⟩ := mapM_some_cons hl
    subst e
    rw [List.mapM_cons]
    cases x with
    | tmp t =>
      cases h1
      have h : getK un (toPa t) fr (fun v => resK ys fr H fun vs => f (v :: vs)) = some r := h
      rw [getK_eq] at h
      obtain ⟨avs, vs, h3, h4, h5⟩ := res_ok C rs ys _ r h2 h
      exact ⟨_, _, h3, ⟨_, _, rfl, C.fr t, h4⟩, by simp only [Sem.run_bind, Sem.run_pure, Result.andThen_ok, h5]⟩
    | cell p t =>
      unfold compRes at h1
      obtain ⟨g, hg, h1⟩ := bind_some h1
      obtain ⟨m, hm, h1⟩ := bind_some h1
      obtain ⟨hgm, e⟩ := ite_none h1
      subst e
      have h : getK un (toPa p) fr (fun v => resCell g m v H fun v => resK ys fr H fun vs => f (v :: vs)) = some r := h
      rw [getK_eq] at h
      unfold resCell at h
      have hv := C.fr p
      rcases vP_some h with ⟨_, h3⟩ | ⟨pa, off, e, h3⟩
      · cases h3
      · rw [e] at hv
        obtain ⟨j, hj, hve⟩ := hv
        obtain ⟨v, h4, j', v', hj', hvr, hrun⟩ := loadK_ok C hg hm (by simpa using hgm) h3
        rw [hj] at hj'; cases hj'
        obtain ⟨avs, vs, h5, h6, h7⟩ := res_ok C rs ys _ r h2 h4
        refine ⟨_, _, h5, ⟨_, _, rfl, hvr, h6⟩, ?_⟩
        have hve : a.tmps.getD p undef = .pointer (some ⟨j.blk, j.d + off, none⟩) := hve
        have q1 : (do loadVar t (← asAddr (a.tmps.getD p undef)) : Sem Value).run P w = .ok v' w := by
          rw [hve]
          simp only [asAddr, Sem.run_bind, Sem.run_pure, Result.andThen_ok, hrun]
        rw [Sem.run_bind]
        show ((do loadVar t (← asAddr (a.tmps.getD p undef)) : Sem Value).run P w).andThen _ = _
        rw [q1, Result.andThen_ok, Sem.run_bind, h7]
        rfl

theorem run_array_mapM {α β : Type} {f : α → Sem β} {l : Array α} {vs : List β} (h : (l.toList.mapM f).run P w = .ok vs w) : (l.mapM f).run P w = .ok vs.toArray w := by
  rw [Array.mapM_eq_mapM_toList, Sem.run_map, h]
  rfl

theorem results_ok (C : Ctx P pr ι H fr a w) {fn : Func} {l : List ARes} {k : HK R} (hl : fn.results.toList.mapM (compRes P) = some l) (h : resK l fr H (fun l => oneRes l H k) = some r) :
    ∃ v v', k v H = some r ∧ VR ι v v' ∧ (results fn a.tmps).run P w = .ok v' w := by
  obtain ⟨avs, vs, h1, h2, h3⟩ := res_ok C _ _ _ _ hl h
  have h4 := run_array_mapM h3
  have hrun : ∀ v', (if h : vs.toArray.size = 1 then vs.toArray[0] else .tuple vs.toArray) = v' → (results fn a.tmps).run P w = .ok v' w := by
    intro v' hv'
    unfold results
    rw [Sem.run_bind]
    refine (congrArg (fun q => Result.andThen q _) h4).trans ?_
    simp only [Result.andThen_ok, Sem.run_pure, hv']
  cases avs with
  | nil =>
    cases h2
    exact ⟨_, _, h1, un_undef ι, hrun _ rfl⟩
  | cons x avs =>
    obtain ⟨y, ys, e, hy, hys⟩ := h2
    subst e
    cases avs with
    | nil => cases hys; exact ⟨_, _, h1, hy, hrun _ rfl⟩
    | cons x2 avs =>
      obtain ⟨y2, ys2, e, hy2, hys2⟩ := hys
      subst e
      exact ⟨.tu _, .tuple _, h1, ⟨_, rfl, _, _, rfl, hy, _, _, rfl, hy2, hys2⟩, hrun _ (by rw [dif_neg (by simp)])⟩

theorem compF_some {fn : Func} {af : AF} (h : compF P fn = some af) : fn.name ≠ "runtime.NumGoroutine" ∧ ∃ c ac l, fn.body = some c ∧ compC P fn.ntmps c = some ac ∧ fn.results.toList.mapM (compRes P) = some l ∧ af = .mk ac l := by
  unfold compF at h
  obtain ⟨h0, h1⟩ := ite_none'' h
  obtain ⟨c, hc, h2⟩ := bind_some h1
  obtain ⟨ac, hac, h3⟩ := bind_some h2
  obtain ⟨l, hl, e⟩ := map_some h3
  exact ⟨h0, c, ac, l, hc, hac, hl, e.symm⟩

theorem callK_ok {Φ : Tr AF} {run : Run1} (hΦ : TblOK P Φ) (hrun : RunOK P run) : CallsOK P (callK Φ run) := by
  intro R pr f args args' ι H w k r hrel hv h
  unfold callK at h
  rw [getK_eq] at h
  rcases hΦ f with e | ⟨fn, hf, hc⟩ | ⟨g, e, hfn, hg⟩
  rotate_right
  · have e : Tr.get (.mk .bad []) Φ (toPa f) = .prim g := e
    rw [e] at h
    replace h : (Option.casesOn (g args) none fun v => k v H : Option R) = some r := h
    cases hv1 : g args with
    | none => rw [hv1] at h; cases h
    | some v =>
      rw [hv1] at h
      have hroom : P.globals.size ≤ w.heap.size := by
        rcases Nat.lt_or_ge w.heap.size P.globals.size with q | q
        · obtain ⟨n', m', e'⟩ := hrel.glob w.heap.size q
          have := hrel.lt _ _ e'
          exact absurd this (Nat.lt_irrefl _)
        · exact q
      refine ⟨hfn, (hg ι args args' w v hroom hv hv1).mono ?_⟩
      rintro e w' ⟨v', rfl, hvr, hb⟩
      exact ⟨v, H, v', ι, h, rfl, Ext.refl _, hrel.below hb.size hb.block, ⟨hb.os, hb.tape, hb.output, hb.size, fun b hb' => hb.block b (hrel.prot b hb')⟩, hvr⟩
  · have e : Tr.get (.mk .bad []) Φ (toPa f) = .mk .bad [] := e
    rw [e] at h
    obtain ⟨t', h1, _⟩ := argsK_eq args 0 .leaf (fun fr => run R .bad fr H (leaveK [] k))
    have h : argsK args 0 .leaf (fun fr => run R .bad fr H (leaveK [] k)) = some r := h
    rw [h1, hrun.bad] at h
    cases h
  · obtain ⟨hn, c, ac, l, hb, hac, hl, e⟩ := compF_some hc
    have e : Tr.get (.mk .bad []) Φ (toPa f) = .mk ac l := e
    rw [e] at h
    have h : argsK args 0 .leaf (fun fr => run R ac fr H (leaveK l k)) = some r := h
    obtain ⟨t', h1, h2⟩ := argsK_eq args 0 .leaf (fun fr => run R ac fr H (leaveK l k))
    rw [h1] at h
    refine ⟨⟨fn, c, hf, hb, hn⟩, calls_of_wp hf hb ?_⟩
    refine (hrun.ok R pr fn.ntmps c ac hac ι H t' _ w _ r ⟨⟨hrel, args_ok hv h2 _⟩, by show fn.ntmps ≤ (args' ++ Array.replicate (fn.ntmps - args'.size) undef).size; simp; omega, rfl⟩ h _ ?_).1
    intro e fr' H' ι' a' w' h3 hext hat hfr
    have leave : resK l fr' H' (fun l => oneRes l H' k) = some r → a'.defers = [] ∧ ∃ v, (results fn a'.tmps).run P w' = .ok v w' ∧ ∃ v1 H1 v' ι1, k v1 H1 = some r ∧ Ending.returned v = .returned v' ∧ Ext ι ι1 ∧ Rel pr P.globals.size ι1 H1 w'.heap ∧ Fr pr w w' ∧ VR ι1 v1 v' := by
      intro h4
      obtain ⟨v, v', h5, h6, h7⟩ := results_ok hat.ctx hl h4
      exact ⟨hat.nd, v', h7, v, H', v', ι', h5, rfl, hext, hat.ctx.rel, hfr, h6⟩
    cases e with
    | norm => exact leave h3
    | ret => exact leave h3
    | exit id => cases h3
end
end Go.Vai
