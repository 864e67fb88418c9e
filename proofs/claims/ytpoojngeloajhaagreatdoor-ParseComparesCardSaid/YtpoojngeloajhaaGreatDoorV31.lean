/- VAI, part f: a region that draws: from its compiled form to its places; DrawOK, and with it the soundness of the whole. -/
import Derived.Test.YtpoojngeloajhaaGreatDoorV30
namespace Go.Vai

/-! Ids that are kept. -/
def keepL : Nat → Pa → List Pa
  | 0, _ => []
  | n + 1, p => p :: keepL n p.succ
def keepE : Nat → Pa → Pa
  | 0, p => p
  | n + 1, p => keepE n p.succ
theorem keepK_eq {R : Type} : ∀ (n : Nat) (p : Pa) (k : List Pa → Pa → Option R), keepK n p k = k (keepL n p) (keepE n p)
  | 0, _, _ => rfl
  | n + 1, p, k => by
    show succK p (fun q => keepK n q fun l r => k (p :: l) r) = _
    rw [succK_eq, keepK_eq n]; rfl
theorem keepE_toN : ∀ (n : Nat) (p : Pa), (keepE n p).toN = p.toN + n
  | 0, _ => rfl
  | n + 1, p => by
    show (keepE n p.succ).toN = _
    rw [keepE_toN n, Pa.toN_succ]; omega
theorem keepL_get : ∀ (n : Nat) (p : Pa) (i : Nat) (q : Pa), (keepL n p)[i]? = some q → q.toN = p.toN + i ∧ i < n
  | 0, p, i, q, h => by simp [keepL] at h
  | n + 1, p, 0, q, h => by
    have : p = q := by simpa [keepL] using h
    subst this; exact ⟨rfl, by omega⟩
  | n + 1, p, i + 1, q, h => by
    obtain ⟨h1, h2⟩ := keepL_get n p.succ i q (by simpa [keepL] using h)
    rw [Pa.toN_succ] at h1
    exact ⟨by omega, by omega⟩

theorem cntH_succ (heavy : Nat → Bool) (l : List Nat) (m : Nat) (h : m < l.length) : cntH heavy l (m + 1) = cntH heavy l m + (if heavy (l.getD m 0) then 1 else 0) := by
  unfold cntH
  rw [List.take_succ_eq_append_getElem h, List.filter_append, List.length_append]
  have : l.getD m 0 = l[m] := by rw [List.getD_eq_getElem?_getD, List.getElem?_eq_getElem h]; rfl
  rw [this]
  cases e : heavy l[m] <;> simp [e]

section
variable {P : Program} {call : Call1} {n : Nat} {ops : Array Oper}

/-- What the compiled form of a region that draws says. -/
theorem compDraw_inv {l : List AI} {nA : Nat} {xs : List (AI × DI)} (h : compDraw P ops l = some (.draw nA xs)) :
    drawOk P ops l (drawOrd ops l) = true ∧ (drawOrd ops l).mapM (drawRow ops l (drawOrd ops l)) = some xs ∧ nA = ((List.range l.length).filter fun i => clsAt l i == 2).length := by
  unfold compDraw at h
  obtain ⟨h1, h2⟩ := ite_none' h
  obtain ⟨ys, h3, e⟩ := map_some h2
  cases e
  exact ⟨h1, h3, rfl⟩

theorem drawRow_inv {l : List AI} {ord : List Nat} {i : Nat} {x : AI × DI} (h : drawRow ops l ord i = some x) :
    ∃ a, l[i]? = some a ∧ looksOk ops i a = true ∧ x = (a, ⟨clsOf a.o, loAt (Region.before ops) (heavyAt l) ord l.length i⟩) := by
  unfold drawRow at h
  obtain ⟨a, h1, h2⟩ := bind_some h
  obtain ⟨h3, h4⟩ := ite_none h2
  exact ⟨a, h1, h3, h4.symm⟩

theorem drawOK (P : Program) : DrawOK P := by
  intro call hcall R pr n id ops l nA xs hl hdraw ι H fr a w k r hat h Q hQ
  obtain ⟨hok, hxs, hnA⟩ := compDraw_inv hdraw
  obtain ⟨hlen, hget⟩ := mapM_get hl
  have hlen : l.length = ops.size := by rw [hlen]; simp
  unfold drawOk at hok
  rw [Bool.and_eq_true, Bool.and_eq_true, Bool.and_eq_true] at hok
  obtain ⟨⟨⟨hmix, hclose⟩, hslots⟩, horder⟩ := hok
  rw [hlen] at hclose hslots horder
  generalize hord : drawOrd ops l = ord at *
  have F := ordOK_of hclose hslots horder
  generalize hb : Region.before ops = b at *
  obtain ⟨hxlen, hxget⟩ := mapM_get hxs
  have hxl : xs.length = ops.size := by rw [hxlen]; exact F.len
  have ordg : ∀ p, p < ops.size → ord[p]? = some (ord.getD p 0) := fun p hp => by
    have : p < ord.length := by rw [F.len]; exact hp
    rw [List.getD_eq_getElem?_getD, List.getElem?_eq_getElem this]; rfl
  have row : ∀ p, p < ops.size → ∃ x o a', xs[p]? = some x ∧ ops[ord.getD p 0]? = some o ∧ l[ord.getD p 0]? = some a' ∧ looksOk ops (ord.getD p 0) a' = true ∧ compAI P n ops o = some a' ∧ x = (a', ⟨clsOf a'.o, loAt b (heavyAt l) ord ops.size (ord.getD p 0)⟩) := by
    intro p hp
    obtain ⟨x, hx, hr⟩ := hxget p _ (ordg p hp)
    obtain ⟨a', h1, h2, h3⟩ := drawRow_inv hr
    have hi := F.lt p hp
    have ho : ops[ord.getD p 0]? = some ops[ord.getD p 0] := getElem?_pos _ _ _
    obtain ⟨a'', h4, h5⟩ := hget (ord.getD p 0) _ (by rw [Array.getElem?_toList]; exact ho)
    rw [h1] at h4; cases h4
    exact ⟨x, _, a', hx, ho, h1, h2, h5, by rw [h3, hb, hlen]⟩
  obtain ⟨nx, t⟩ := H
  have h : keepK nA nx (fun ids nx => drawK call xs fr ⟨nx, t⟩ [⟨nx, t⟩] 0 ids k) = some r := h
  rw [keepK_eq] at h
  obtain ⟨S, V, W, hS0, hstep, hend⟩ := draw_trace xs ⟨fr, ⟨keepE nA nx, t⟩, [⟨keepE nA nx, t⟩], 0, keepL nA nx⟩ (fun x hx => by
    obtain ⟨p, hp, e⟩ := List.getElem_of_mem hx
    obtain ⟨x', o, a', h1, _, _, _, _, h6⟩ := row p (by omega)
    rw [List.getElem?_eq_getElem hp, e] at h1
    cases h1
    rw [h6]; exact clsOf_le _) h
  rw [hxl] at hend
  let X : Nat → AI × DI := fun p => (xs[p]?).getD (⟨none, none, .bad⟩, ⟨0, 0⟩)
  let O : Nat → Oper := fun p => (ops[ord.getD p 0]?).getD default
  have rowX : ∀ p, p < ops.size → ∃ a', xs[p]? = some (X p) ∧ ops[ord.getD p 0]? = some (O p) ∧ l[ord.getD p 0]? = some a' ∧ looksOk ops (ord.getD p 0) a' = true ∧ compAI P n ops (O p) = some a' ∧ X p = (a', ⟨clsOf a'.o, loAt b (heavyAt l) ord ops.size (ord.getD p 0)⟩) := by
    intro p hp
    obtain ⟨x, o, a', h1, h2, h3, h4, h5, h6⟩ := row p hp
    have e1 : X p = x := by show (xs[p]?).getD _ = x; rw [h1]; rfl
    have e2 : O p = o := by show (ops[ord.getD p 0]?).getD _ = o; rw [h2]; rfl
    exact ⟨a', by rw [e1]; exact h1, by rw [e2]; exact h2, h3, h4, by rw [e2]; exact h5, by rw [e1]; exact h6⟩
  have heavyX : ∀ p, p < ops.size → (heavyAt l (ord.getD p 0) = true ↔ (X p).2.cls = 3) := by
    intro p hp
    obtain ⟨a', _, _, h3, _, _, h6⟩ := rowX p hp
    rw [h6]
    unfold heavyAt clsAt
    rw [h3]
    simp
  have stepX : ∀ p, p < ops.size → DStep call (X p) (S p) (V p) (W p) (S (p + 1)) := fun p hp => by
    obtain ⟨a', h1, _⟩ := rowX p hp
    exact hstep p _ h1
  have cntX : ∀ m, m ≤ ops.size → (S m).n = cntH (heavyAt l) ord m := by
    intro m
    induction m with
    | zero => intro _; rw [hS0]; rfl
    | succ m ih =>
      intro hm
      have ih := ih (by omega)
      have st := stepX m (by omega)
      have hx := heavyX m (by omega)
      rw [cntH_succ _ _ _ (by rw [F.len]; omega), ← ih]
      by_cases e3 : (X m).2.cls = 3
      · rw [if_pos (hx.mpr e3)]; exact (st.hard e3).2.1
      · rw [if_neg (fun e => e3 (hx.mp e))]
        by_cases e2 : (X m).2.cls = 2
        · exact (st.mid e2).2.1
        · have : (X m).2.cls ≤ 3 := by obtain ⟨a', _, _, _, _, _, h6⟩ := rowX m (by omega); rw [h6]; exact clsOf_le _
          exact (st.light (by omega)).2.2.1
  let G : Rg P call n ops := {
    I := fun p => ord.getD p 0
    O := O
    X := X
    S := S
    V := V
    W := W
    hang := fun p q => (b.getD (ord.getD p 0) 0).testBit (ord.getD q 0) = true
    lt := F.lt
    op := fun p hp => by obtain ⟨a', _, h2, _⟩ := rowX p hp; exact h2
    pos := F.all
    inj := F.inj
    edge := fun p e hp he hbd => by
      obtain ⟨a', _, h2, _⟩ := rowX p hp
      obtain ⟨h3, h4⟩ := F.edge _ _ e (F.lt p hp) h2 he hbd
      obtain ⟨q, hq, e1⟩ := F.all _ h3
      exact ⟨q, hq, e1.symm, by rw [e1]; exact h4⟩
    close := fun p q hp hq hh => by
      obtain ⟨a', _, h2, _⟩ := rowX p hp
      obtain ⟨e, he, hbd, h3⟩ := F.close _ _ _ (F.lt p hp) h2 (F.lt q hq) hh
      obtain ⟨h4, _⟩ := F.edge _ _ e (F.lt p hp) h2 he hbd
      obtain ⟨t', ht', e1⟩ := F.all _ h4
      refine ⟨e, he, hbd, t', ht', e1.symm, ?_⟩
      rcases h3 with h3 | h3
      · exact .inl (F.inj _ _ ht' hq (by rw [e1, h3]))
      · exact .inr (by rw [e1]; exact h3)
    slots := fun p q d hp hq hpq hd hn => by
      obtain ⟨_, _, h2, _⟩ := rowX p hp
      obtain ⟨_, _, h3, _⟩ := rowX q hq
      exact F.slots _ _ _ _ d (F.lt p hp) (F.lt q hq) (fun e => hpq (F.inj p q hp hq e)) h2 h3 hd hn
    ahead := fun p q hp hq hh => F.ahead p q hp hq hh
    heavy := fun p q hp hq h3 => F.heavy p q hp hq ((heavyX p hp).mpr h3)
    dst := fun p hp => by
      obtain ⟨a', _, _, _, _, h5, h6⟩ := rowX p hp
      obtain ⟨d, g, h7, h8, _⟩ := compAI_some h5
      rw [h6, h8]; exact h7
    comp := fun p hp => by
      obtain ⟨a', _, _, _, _, h5, h6⟩ := rowX p hp
      obtain ⟨d, g, h7, h8, _⟩ := compAI_some h5
      rw [h6, h8]
    guard := fun p hp => by
      obtain ⟨a', _, _, _, _, h5, h6⟩ := rowX p hp
      obtain ⟨d, g, h7, h8, h9⟩ := compAI_some h5
      rw [h6, h8]; exact h9
    cls := fun p hp => by obtain ⟨a', _, _, _, _, _, h6⟩ := rowX p hp; rw [h6]
    cls3 := fun p hp => by obtain ⟨a', _, _, _, _, _, h6⟩ := rowX p hp; rw [h6]; exact clsOf_le _
    makes := fun p hp h2 => by
      obtain ⟨a', _, h3, _, h4, _, h6⟩ := rowX p hp
      unfold looksOk at h4
      rw [h3] at h4
      have h4 : ((!(clsOf a'.o == 2) || Vai.makes (O p).op) && (AOp.opds a'.o).all fun x => Opd.casesOn x (fun p_1 => ((O p).looksAt ops).any fun t => p_1.same (toPa t)) (fun _ => true)) = true := h4
      rw [Bool.and_eq_true] at h4
      have h5 : clsOf a'.o = 2 := by rw [h6] at h2; exact h2
      have := h4.1
      rw [h5] at this
      simpa using this
    looks := fun p x hp hx pa e => by
      obtain ⟨a', _, h3, _, h4, _, h6⟩ := rowX p hp
      unfold looksOk at h4
      rw [h3] at h4
      have h4 : ((!(clsOf a'.o == 2) || Vai.makes (O p).op) && (AOp.opds a'.o).all fun x => Opd.casesOn x (fun p_1 => ((O p).looksAt ops).any fun t => p_1.same (toPa t)) (fun _ => true)) = true := h4
      rw [Bool.and_eq_true] at h4
      rw [h6] at hx
      have := List.all_eq_true.mp h4.2 x hx
      subst e
      have this : (((O p).looksAt ops).any fun t => pa.same (toPa t)) = true := this
      obtain ⟨t', ht', e1⟩ := List.any_eq_true.mp this
      exact ⟨t', ht', Pa.same_eq e1⟩
    step := stepX
    lo := fun p hp => by
      obtain ⟨a', _, _, _, _, _, h6⟩ := rowX p hp
      rw [h6]
      rcases loAt_some b (heavyAt l) ord (ord.getD p 0) ops.size with h1 | ⟨q, hq, h1, h2, h3⟩
      · exact .inl h1
      · refine .inr ⟨q, hq, (heavyX q hq).mp h1, h2, ?_⟩
        rw [cntX (q + 1) (by omega)]
        exact h3 }
  have hids : ∀ m, m ≤ ops.size → ∃ c, (∀ i y, (S m).ids[i]? = some y → y.toN = nx.toN + c + i ∧ y.toN < nx.toN + nA) ∧ ∀ p, p < m → (X p).2.cls = 2 → nx.toN ≤ (G.id p).toN ∧ (G.id p).toN < nx.toN + c ∧ (G.id p).toN < nx.toN + nA ∧ ∀ q, q < p → (X q).2.cls = 2 → (G.id q).toN < (G.id p).toN := by
    intro m
    induction m with
    | zero =>
      intro _
      refine ⟨0, fun i y hy => ?_, fun p hp => by omega⟩
      rw [hS0] at hy
      obtain ⟨h1, h2⟩ := keepL_get _ _ _ _ hy
      omega
    | succ m ih =>
      intro hm
      obtain ⟨c, h1, h2⟩ := ih (by omega)
      have st := stepX m (by omega)
      by_cases e2 : (X m).2.cls = 2
      · obtain ⟨_, _, idm, h3⟩ := st.mid e2
        have hid : G.id m = idm := by show (S m).ids.headD .h = idm; rw [h3]; rfl
        have h0 := h1 0 idm (by rw [h3]; rfl)
        refine ⟨c + 1, fun i y hy => ?_, fun p hp hp2 => ?_⟩
        · have := h1 (i + 1) y (by rw [h3]; exact hy)
          omega
        · by_cases e : p = m
          · subst e
            rw [hid]
            refine ⟨by omega, by omega, by omega, fun q hq hq2 => ?_⟩
            have := h2 q hq hq2
            omega
          · have := h2 p (by omega) hp2
            exact ⟨this.1, by omega, this.2.2.1, this.2.2.2⟩
      · have hids : (S (m + 1)).ids = (S m).ids := by
          by_cases e3 : (X m).2.cls = 3
          · exact (st.hard e3).2.2
          · have : (X m).2.cls ≤ 3 := by obtain ⟨a', _, _, _, _, _, h6⟩ := rowX m (by omega); rw [h6]; exact clsOf_le _
            exact (st.light (by omega)).2.2.2
        refine ⟨c, fun i y hy => h1 i y (by rw [← hids]; exact hy), fun p hp hp2 => ?_⟩
        by_cases e : p = m
        · subst e; exact (e2 hp2).elim
        · exact h2 p (by omega) hp2
  obtain ⟨c, _, hidall⟩ := hids ops.size (Nat.le_refl _)
  have hId : G.Ids pr := by
    refine ⟨fun p q hp hq hp2 hq2 e => ?_, fun p hp hp2 hres => ?_⟩
    · rcases Nat.lt_trichotomy p q with g | g | g
      · have := (hidall q hq hq2).2.2.2 p g hp2; rw [e] at this; omega
      · exact g
      · have := (hidall p hp hp2).2.2.2 q g hq2; rw [e] at this; omega
    · have h1 := (hidall p hp hp2).1
      have h2 := (hat.ctx.rel.resv _ hres).2
      have h2 : (G.id p).toN < nx.toN := h2
      omega
  have hS0H : (G.S 0).H = ⟨keepE nA nx, t⟩ := by show (S 0).H = _; rw [hS0]
  have hinit : (G.S 0).Gs = [(G.S 0).H] := by show (S 0).Gs = [(S 0).H]; rw [hS0]
  have hL : ∀ p, G.L (Array.replicate ops.size false) p = false := fun p => by
    unfold Rg.L
    rw [Array.getD_eq_getD_getElem?, Array.getElem?_replicate]
    split <;> rfl
  have hnw : ∀ q, ¬ G.wait (Array.replicate ops.size false) 0 q := fun q hq => by
    have := hq.2.2.1; rw [hL] at this; cases this
  have Inv0 : G.Inv pr ι { w with drawn := w.drawn + 1 } (Array.replicate ops.size false) 0 (fun _ => 0) ι a { w with drawn := w.drawn + 1 } := by
    refine ⟨by simp, fun p q _ _ h1 => (by rw [hL] at h1; cases h1), Nat.zero_le _, .inl rfl, fun p hp => (by omega), fun p _ _ _ => hL p, fun s => ?_, hat.sz, hat.nd, fun p hp => (hnw p hp).elim, fun p q hp => (hnw p hp).elim, ?_, Ext.refl _, Fr.refl _ _⟩
    · have e1 : Tr.get un (G.fr (Array.replicate ops.size false) ops.size) (toPa s) = Tr.get un (G.S 0).fr (toPa s) := by
        have := frL_cut (L := G.L (Array.replicate ops.size false)) (d := G.d) (V := G.V) (fr0 := (G.S 0).fr) (q := toPa s) (m := 0) ops.size (fun q _ _ _ => hL q)
        rw [Nat.zero_add] at this
        exact this
      have e2 : (G.S 0).fr = fr := by show (S 0).fr = fr; rw [hS0]
      rw [e1, e2]; exact hat.ctx.fr s
    · rw [hS0H]
      refine hat.ctx.rel.reserve (by rw [keepE_toN]; omega) rfl ?_ ?_
      · funext b'
        exact propext ⟨fun q => q.elim (fun q => q) fun ⟨p, hp, _⟩ => (hnw p hp).elim, fun q => .inl q⟩
      · rintro x (q | ⟨p, hp, hp2, _, e⟩)
        · exact .inl q
        · refine .inr ?_
          rw [← e, keepE_toN]
          have := hidall p hp hp2
          exact ⟨this.1, this.2.2.1⟩
  have hany := Rg.Inv.any (w0 := { w with drawn := w.drawn + 1 }) hcall hinit hId (Q := Q) (fun ι' a' w' hext hfr hat' => hQ _ _ ι' a' w' hend hext hat' ⟨hfr.os, hfr.tape, hfr.output, hfr.size, hfr.keep⟩) ops.size _ 0 (fun _ => 0) ι a _ Inv0 (by
    unfold Rg.cnt
    exact Nat.le_trans (List.length_filter_le _ _) (by simp))
  refine wp_region_draw fun t' => ?_
  simp only [Region.schedule, hmix, if_true]
  exact wpAny_sound ops.size t' _ a _ hany

/-- A function called: what the abstract run tells, the call gives. -/
theorem go_ok {R : Type} {Φ : Tr AF} {pr : Pr} (hΦ : TblOK P Φ) {fuel f : Nat} {args : List AV} {args' : Array Value} {ι : Emb} {H : Heap} {w : World} {k : HK R} {r : R} (hrel : Rel pr P.globals.size ι H w.heap) (hv : VRs ι args args'.toList)
    (h : goK Φ fuel (toPa f) args H k = some r) :
    Calls P f args' w fun e w' => ∃ v H' v' ι', k v H' = some r ∧ e = .returned v' ∧ Ext ι ι' ∧ Rel pr P.globals.size ι' H' w'.heap ∧ Fr pr w w' ∧ VR ι' v v' := goK_ok hΦ (drawOK P) hrel hv h
end
end Go.Vai
