/- VAI, part T: regions, run in the text's order; code; calls. -/
import Derived.Test.YtpoojngeloajhaaGreatDoorV18
namespace Go.Vai
section
variable {R : Type} {P : Program} {pr : Pr} {n : Nat} {ι : Emb} {H : Heap} {fr : Tr AV} {a : Act} {w : World}
variable {r : R} {call : CallK R}

/-- Where one stands in a function's body: n slots, nothing deferred. -/
structure At (P : Program) (pr : Pr) (n : Nat) (ι : Emb) (H : Heap) (fr : Tr AV) (a : Act) (w : World) : Prop where
  ctx : Ctx P pr ι H fr a w
  sz : n ≤ a.tmps.size
  nd : a.defers = []

theorem FR.put {ι : Emb} {fr : Tr AV} {a : Act} (h : FR ι fr a) {d : Tmp} (hd : d < a.tmps.size) {v : AV} {v' : Value} (hv : VR ι v v') : FR ι (Tr.set un v fr (toPa d)) (a.put (some d) v') := by
  intro t
  rw [Tr.get_set]
  by_cases e : d = t
  · subst e
    rw [if_pos rfl]
    have : (a.put (some d) v').tmps.getD d undef = v' := by
      show (a.tmps.setIfInBounds d v').getD d undef = v'
      rw [Array.getD_eq_getD_getElem?, Array.getElem?_setIfInBounds]
      simp [hd]
    rw [this]; exact hv
  · rw [if_neg (fun e' => e (toPa_inj e'))]
    have : (a.put (some d) v').tmps.getD t undef = a.tmps.getD t undef := by
      show (a.tmps.setIfInBounds d v').getD t undef = _
      rw [Array.getD_eq_getD_getElem?, Array.getD_eq_getD_getElem?, Array.getElem?_setIfInBounds, if_neg e]
    rw [this]; exact h t

theorem At.put {ι' : Emb} {H' : Heap} {w' : World} (h : At P pr n ι H fr a w) {dst : Option Tmp} {d : Option Pa} (hd : compDst n dst = some d) (hext : Ext ι ι') (hrel : Rel pr P.globals.size ι' H' w'.heap) {v : AV} {v' : Value} (hv : VR ι' v v') :
    At P pr n ι' H' (Vai.put d v fr) (a.put dst v') w' := by
  cases dst with
  | none =>
    cases hd
    exact ⟨⟨hrel, h.ctx.fr.mono hext⟩, h.sz, h.nd⟩
  | some t =>
    unfold compDst at hd
    obtain ⟨ht, e⟩ := ite_none hd
    subst e
    refine ⟨⟨hrel, (h.ctx.fr.mono hext).put (Nat.lt_of_lt_of_le ht h.sz) hv⟩, ?_, h.nd⟩
    show n ≤ (a.tmps.setIfInBounds t v').size
    rw [Array.size_setIfInBounds]; exact h.sz

theorem wantV_some {v : AV} {want : Bool} {f : Bool → Option R} (h : wantV v want f = some r) : (∃ x, v = .b x ∧ f (x == want) = some r) ∨ ∃ l, v = .tu l ∧ f false = some r := by
  cases v <;> first | (cases h; done) | skip
  case b x => exact .inl ⟨x, rfl, by rw [← bEq_eq]; exact h⟩
  case tu l => exact .inr ⟨l, rfl, h⟩

/-- Is an operation wanted? -/
theorem want_ok {ops : Array Oper} {o : Oper} {g : Option (Pa × Bool)} (hC : At P pr n ι H fr a w)
    (hg : (o.guard = none ∧ g = none) ∨ ∃ j want t, o.guard = some (j, want) ∧ (ops[j]?).bind (·.dst) = some t ∧ t < n ∧ g = some (toPa t, want)) {f : Bool → Option R} (h : wantK g fr f = some r) :
    f (Region.wanted o (yielded ops a.tmps)) = some r := by
  rcases hg with ⟨h1, h2⟩ | ⟨j, want, t, h1, h2, h3, h4⟩
  · subst h2
    have : Region.wanted o (yielded ops a.tmps) = true := by unfold Region.wanted; rw [h1]
    rw [this]; exact h
  · subst h4
    have h : getK un (toPa t) fr (fun v => wantV v want f) = some r := h
    rw [getK_eq] at h
    have hv := hC.ctx.fr t
    have hlt : t < a.tmps.size := Nat.lt_of_lt_of_le h3 hC.sz
    have hslot : a.tmps[t]? = some (a.tmps.getD t undef) := by
      rw [Array.getD_eq_getD_getElem?, getElem?_pos a.tmps t hlt]; rfl
    unfold Region.wanted
    rw [h1]
    show f (yielded ops a.tmps j == some want) = some r
    have hy : yielded ops a.tmps j = match a.tmps.getD t undef with | .bool b => some b | _ => none := by
      unfold yielded
      rw [h2]
      show (match a.tmps[t]? with | some (.bool b) => some b | _ => none) = _
      rw [hslot]
      cases a.tmps.getD t undef <;> rfl
    rcases wantV_some h with ⟨x, e, h5⟩ | ⟨l, e, h5⟩
    · rw [e] at hv
      rw [hy, VRb hv]
      cases x <;> cases want <;> exact h5
    · rw [e] at hv
      obtain ⟨cs, hve, _⟩ := hv
      rw [hy, hve]
      exact h5

theorem compAI_some {ops : Array Oper} {o : Oper} {ai : AI} (h : compAI P n ops o = some ai) :
    ∃ d g, compDst n o.dst = some d ∧ ai = ⟨d, g, (compOp P o).getD .bad⟩ ∧
      ((o.guard = none ∧ g = none) ∨ ∃ j want t, o.guard = some (j, want) ∧ (ops[j]?).bind (·.dst) = some t ∧ t < n ∧ g = some (toPa t, want)) := by
  unfold compAI at h
  obtain ⟨d, hd, h1⟩ := bind_some h
  clear h
  split at h1
  · rename_i hg
    cases h1
    exact ⟨d, none, hd, rfl, .inl ⟨hg, rfl⟩⟩
  · rename_i j want hg
    split at h1
    · rename_i t ht
      obtain ⟨hlt, e⟩ := ite_none h1
      subst e
      exact ⟨d, _, hd, rfl, .inr ⟨j, want, t, hg, ht, hlt, rfl⟩⟩
    · cases h1

theorem op_getD {o : Oper} {k : HK R} (h : xopK ((compOp P o).getD .bad) call fr H k = some r) : ∃ q, compOp P o = some q ∧ xopK q call fr H k = some r := by
  cases hq : compOp P o with
  | none => rw [hq] at h; cases h
  | some q => rw [hq] at h; exact ⟨q, rfl, h⟩

theorem mapM_get {α β : Type} {f : α → Option β} : ∀ {l : List α} {ys : List β}, l.mapM f = some ys → ys.length = l.length ∧ ∀ (i : Nat) (x : α), l[i]? = some x → ∃ y, ys[i]? = some y ∧ f x = some y
  | [], ys, h => by rw [mapM_nil_some h]; exact ⟨rfl, fun i x hx => by simp at hx⟩
  | x :: l, ys, h => by
    obtain ⟨y, ys', h1, h2, e⟩ := mapM_some_cons h
    subst e
    obtain ⟨h3, h4⟩ := mapM_get h2
    refine ⟨by simp [h3], fun i z hz => ?_⟩
    cases i with
    | zero => simp at hz; subst hz; exact ⟨y, by simp, h1⟩
    | succ i => simpa using h4 i z (by simpa using hz)

theorem ops_ok {ops : Array Oper} {l : List AI} (hl : ops.toList.mapM (compAI P n ops) = some l) (hcall : CallOK P pr call) {k : Tr AV → Heap → Option R} {Q : Exit → Act → World → Prop} :
    ∀ (m i : Nat) (ι : Emb) (H : Heap) (fr : Tr AV) (a : Act) (w : World), i + m = ops.size → At P pr n ι H fr a w → opsK call (l.drop i) fr H k = some r →
      (∀ fr' H' ι' a' w', k fr' H' = some r → Ext ι ι' → At P pr n ι' H' fr' a' w' → Fr pr w w' → Q .normal a' w') → wpOps P ops Q (List.range' i m) a w
  | 0, i, ι, H, fr, a, w, hi, hC, h, hq => by
    have hlen := (mapM_get hl).1
    have : l.drop i = [] := List.drop_of_length_le (by rw [hlen]; simp; omega)
    rw [this] at h
    exact hq fr H ι a w h (Ext.refl _) hC (Fr.refl _ _)
  | m + 1, i, ι, H, fr, a, w, hi, hC, h, hq => by
    obtain ⟨hlen, hget⟩ := mapM_get hl
    have hlt : i < ops.size := by omega
    have hoi : ops[i]? = some ops[i] := getElem?_pos _ _ _
    obtain ⟨ai, hai, hcomp⟩ := hget i ops[i] (by rw [Array.getElem?_toList]; exact hoi)
    have hdrop : l.drop i = ai :: l.drop (i + 1) := by
      rw [List.drop_eq_getElem_cons (by rw [hlen]; simpa using hlt)]
      congr 1
      rw [List.getElem?_eq_getElem (by rw [hlen]; simpa using hlt)] at hai
      exact Option.some.inj hai
    rw [hdrop] at h
    have h : aiK call ai fr H (fun fr H => opsK call (l.drop (i + 1)) fr H k) = some r := h
    obtain ⟨d, g, hd, e, hg⟩ := compAI_some hcomp
    subst e
    have h : wantK g fr (ai2 d ((compOp P ops[i]).getD .bad) call fr H fun fr H => opsK call (l.drop (i + 1)) fr H k) = some r := h
    have h := want_ok hC hg h
    show wpOps P ops Q (i :: List.range' (i + 1) m) a w
    unfold wpOps
    rw [hoi]
    show (if Region.wanted ops[i] (yielded ops a.tmps) then _ else _)
    unfold ai2 at h
    cases hw : Region.wanted ops[i] (yielded ops a.tmps) with
    | false =>
      rw [hw] at h
      have h : putK d un fr (fun fr => opsK call (l.drop (i + 1)) fr H k) = some r := h
      rw [putK_eq] at h
      rw [if_neg (by simp)]
      exact ops_ok hl hcall m (i + 1) ι H _ _ w (by omega) (hC.put hd (Ext.refl _) hC.ctx.rel (un_undef _)) h hq
    | true =>
      rw [hw] at h
      have h : xopK ((compOp P ops[i]).getD .bad) call fr H (fun v H => putK d v fr fun fr => opsK call (l.drop (i + 1)) fr H k) = some r := h
      obtain ⟨q, hq1, hq2⟩ := op_getD h
      rw [if_pos rfl]
      left
      refine op_ok hq1 hcall hC.ctx hq2 _ _ fun v H' ι' v' w' h1 hext hrel hfr hv => ?_
      have h1 : putK d v fr (fun fr => opsK call (l.drop (i + 1)) fr H' k) = some r := h1
      rw [putK_eq] at h1
      exact ops_ok hl hcall m (i + 1) ι' H' _ _ w' (by omega) (hC.put hd hext hrel hv) h1
        (fun fr' H'' ι'' a' w'' h2 hext' hat hfr' => hq fr' H'' ι'' a' w'' h2 (hext.trans hext') hat (hfr.trans hfr'))
end
end Go.Vai
