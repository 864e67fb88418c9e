/- VAI, part W: what an operation looks at. -/
import Derived.Test.YtpoojngeloajhaaGreatDoorV21
namespace Go.Vai
section
variable {R : Type} {P : Program} {pr : Pr} {ι : Emb} {H : Heap} {fr fr' : Tr AV}

theorem evs_congr {l : List Opd} (h : ∀ x ∈ l, ev fr x = ev fr' x) : l.map (ev fr) = l.map (ev fr') := List.map_congr_left h
theorem evo_congr {o : Option Opd} (h : ∀ x ∈ o.toList, ev fr x = ev fr' x) : o.map (ev fr) = o.map (ev fr') := by
  cases o with
  | none => rfl
  | some x => simp only [Option.map_some]; rw [h x (by simp)]

theorem fillK_congr : ∀ (ps : List (Nat × Nat × Opd)) (cs : List AV) (k : List AV → Option R), (∀ x ∈ ps.map (·.2.2), ev fr x = ev fr' x) → fillK fr ps cs k = fillK fr' ps cs k
  | [], _, _, _ => rfl
  | p :: ps, cs, k, h => by
    show (evK fr p.2.2 fun v => cellsK v fun l => fill1K p.1 p.2.1 cs l fun cs => fillK fr ps cs k) = (evK fr' p.2.2 fun v => cellsK v fun l => fill1K p.1 p.2.1 cs l fun cs => fillK fr' ps cs k)
    have e : (fun cs => fillK fr ps cs k) = fun cs => fillK fr' ps cs k := funext fun cs => fillK_congr ps cs k fun x hx => h x (by simp only [List.map_cons, List.mem_cons]; exact .inr hx)
    rw [evK_eq, evK_eq, h p.2.2 (by simp), e]

/-- An operation looks at its operands alone. -/
theorem xop_congr {o : AOp} (h : ∀ x ∈ o.opds, ev fr x = ev fr' x) (call : CallK R) (H : Heap) (k : HK R) : xopK o call fr H k = xopK o call fr' H k := by
  cases o
  case build zs ps => exact fillK_congr ps _ _ h
  case bsl e sz len zs ps => exact fillK_congr ps _ _ h
  case mkfn f first caps =>
    have h1 := evs_congr (l := first) fun x hx => h x (List.mem_append_left _ hx)
    have h2 := evs_congr (l := caps) fun x hx => h x (List.mem_append_right _ hx)
    show xMkfn f first caps call fr H k = xMkfn f first caps call fr' H k
    unfold xMkfn
    rw [evsK_eq, evsK_eq, evsK_eq, evsK_eq, h1, h2]
  case sls x lo hi =>
    have h0 := h x (by simp [AOp.opds])
    have h1 := evo_congr (o := lo) fun x hx => h x (by simp [AOp.opds]; right; left; simpa using hx)
    have h2 := evo_congr (o := hi) fun x hx => h x (by simp [AOp.opds]; right; right; simpa using hx)
    show xSls x lo hi call fr H k = xSls x lo hi call fr' H k
    unfold xSls
    rw [evK_eq, evK_eq, evoK_eq, evoK_eq, evoK_eq, evoK_eq, h0, h1, h2]
  case sll sz x lo hi mx =>
    have h0 := h x (by simp [AOp.opds])
    have h1 := evo_congr (o := lo) fun x hx => h x (by simp [AOp.opds]; right; left; simpa using hx)
    have h2 := evo_congr (o := hi) fun x hx => h x (by simp [AOp.opds]; right; right; left; simpa using hx)
    have h3 := evo_congr (o := mx) fun x hx => h x (by simp [AOp.opds]; right; right; right; simpa using hx)
    show xSll sz x lo hi mx call fr H k = xSll sz x lo hi mx call fr' H k
    unfold xSll
    rw [evK_eq, evK_eq, evoK_eq, evoK_eq, evoK_eq, evoK_eq, evoK_eq, evoK_eq, h0, h1, h2, h3]
  case sla n sz x lo hi mx =>
    have h0 := h x (by simp [AOp.opds])
    have h1 := evo_congr (o := lo) fun x hx => h x (by simp [AOp.opds]; right; left; simpa using hx)
    have h2 := evo_congr (o := hi) fun x hx => h x (by simp [AOp.opds]; right; right; left; simpa using hx)
    have h3 := evo_congr (o := mx) fun x hx => h x (by simp [AOp.opds]; right; right; right; simpa using hx)
    show xSla n sz x lo hi mx call fr H k = xSla n sz x lo hi mx call fr' H k
    unfold xSla
    rw [evK_eq, evK_eq, evoK_eq, evoK_eq, evoK_eq, evoK_eq, evoK_eq, evoK_eq, h0, h1, h2, h3]
  case call f as =>
    have h1 := evs_congr (l := as) h
    show xCall f as call fr H k = xCall f as call fr' H k
    unfold xCall
    rw [evsK_eq, evsK_eq, h1]
  case callv f as =>
    have h0 := h f (by simp [AOp.opds])
    have h1 := evs_congr (l := as) fun x hx => h x (by simp [AOp.opds, hx])
    show xCallv f as call fr H k = xCallv f as call fr' H k
    unfold xCallv
    rw [evK_eq, evK_eq, evsK_eq, evsK_eq, h0, h1]
  case inv tbl x as =>
    have h0 := h x (by simp [AOp.opds])
    have h1 := evs_congr (l := as) fun x hx => h x (by simp [AOp.opds, hx])
    show xInv tbl x as call fr H k = xInv tbl x as call fr' H k
    unfold xInv
    rw [evK_eq, evK_eq, evsK_eq, evsK_eq, h0, h1]
  case pick c x y =>
    have h0 := h c (by simp [AOp.opds])
    have h1 := h x (by simp [AOp.opds])
    have h2 := h y (by simp [AOp.opds])
    show xPick c x y call fr H k = xPick c x y call fr' H k
    unfold xPick
    simp only [evK_eq, h0, h1, h2]
  all_goals
    simp only [AOp.opds, List.mem_cons, List.not_mem_nil, or_false, forall_eq_or_imp, forall_eq] at h
    simp only [xopK, xMv, xNew, xBox, mkBox, mkNew, xLd, xSt, xNilck, xBin, xNot, xNeg, xCpl, xCvi, xCvs, xI2s, xS2b, xB2s, xS2r, xR2s, xP2u, xU2p, xMkif, xFa, xFld, xIxa, xIxp, xIxs, xIxg, xExt, xLen, xLenc, xCap, xApp, xCpy, xMm, xMks, xRng, xNxt, xTas, xUsd, xUstr, xMnz, xIxb, xBad, evK_eq, h]

/-- The operations of class 0 look at no memory, and call nothing. -/
theorem pure_mem {o : AOp} (h : clsOf o = 0) (call call' : CallK R) (fr : Tr AV) (H H0 : Heap) (k : HK R) : xopK o call fr H k = xopK o call' fr H0 (fun v _ => k v H) := by
  cases o <;> first | (exfalso; simp [clsOf] at h; done) | rfl
/-- Those of class 1 turn none. -/
theorem read_mem {o : AOp} (h : clsOf o = 1) (call call' : CallK R) (fr : Tr AV) (H : Heap) (k : HK R) : xopK o call fr H k = xopK o call' fr H (fun v _ => k v H) := by
  cases o <;> first | (exfalso; simp [clsOf] at h; done) | rfl

theorem wantK_none {R : Type} (k : Bool → Option R) : wantK none fr k = k true := rfl
/-- Is it wanted? -/
noncomputable def wantB (g : Option (Pa × Bool)) (fr : Tr AV) : Option Bool := wantK g fr some
theorem wantK_eq (g : Option (Pa × Bool)) (fr : Tr AV) (k : Bool → Option R) : wantK g fr k = (wantB g fr).bind k := by
  unfold wantB
  cases g with
  | none => rfl
  | some x =>
    show (getK un x.1 fr fun v => wantV v x.2 k) = (getK un x.1 fr fun v => wantV v x.2 some).bind k
    rw [getK_eq, getK_eq]
    cases Tr.get un fr x.1 <;> rfl
theorem wantB_congr {p : Pa} {b : Bool} (h : Tr.get un fr p = Tr.get un fr' p) : wantB (some (p, b)) fr = wantB (some (p, b)) fr' := by
  show (getK un p fr fun v => wantV v b some) = (getK un p fr' fun v => wantV v b some)
  rw [getK_eq, getK_eq, h]

theorem capEq_eq {a b : Option Nat} (h : capEq a b = true) : a = b := by
  cases a <;> cases b <;> first | rfl | (cases h; done) | exact congrArg some (Nat.eq_of_beq_eq_true h)
theorem casesB {a b : Bool} (h : (Bool.casesOn a false b : Bool) = true) : a = true ∧ b = true := by cases a <;> cases b <;> first | exact ⟨rfl, rfl⟩ | cases h
theorem oB_some {x : Option Bool} (h : oB x = true) : x = some true := by cases x <;> first | (cases h; done) | exact congrArg some h
theorem avEq1_eq {x y : AV} (h : avEq1 x y = true) : x = y := by
  cases x <;> try (cases h; done)
  case b x =>
    obtain ⟨y, e, h1⟩ := vB_some (oB_some h)
    subst e
    have h1 := Option.some.inj h1
    rw [bEq_eq] at h1
    have : x = y := by simpa using h1
    rw [this]
  case i k n =>
    obtain ⟨k', m, e, h1⟩ := vI_some (oB_some h)
    subst e
    have h1 := Option.some.inj h1
    obtain ⟨h2, h3⟩ := casesB h1
    rw [iEq_eq] at h3
    have h3 : n = m := by simpa using h3
    rw [kix_inj h2, h3]
  case s l n =>
    obtain ⟨l', m, e, h1⟩ := vS_some (oB_some h)
    subst e
    have h1 := Option.some.inj h1
    obtain ⟨h2, h3⟩ := casesB h1
    rw [Nat.eq_of_beq_eq_true h2, Nat.eq_of_beq_eq_true h3]
  case p a o =>
    rcases vP_some (oB_some h) with ⟨_, h1⟩ | ⟨b, o', e, h1⟩
    · cases h1
    · subst e
      obtain ⟨h2, h3⟩ := casesB (Option.some.inj h1)
      rw [Pa.same_eq h2, Nat.eq_of_beq_eq_true h3]
  case np =>
    rcases vP_some (oB_some h) with ⟨e, _⟩ | ⟨b, o', e, h1⟩
    · exact e.symm
    · cases h1
  case sl a o l c z =>
    rcases vL_some (oB_some h) with ⟨_, h1⟩ | ⟨b, o', l', c', z', e, h1⟩
    · cases h1
    · subst e
      obtain ⟨h2, h3⟩ := casesB (Option.some.inj h1)
      obtain ⟨h4, h5⟩ := casesB h3
      obtain ⟨h6, h7⟩ := casesB h5
      obtain ⟨h8, h9⟩ := casesB h7
      rw [Pa.same_eq h2, Nat.eq_of_beq_eq_true h4, Nat.eq_of_beq_eq_true h6, Nat.eq_of_beq_eq_true h8, capEq_eq h9]
  case ns =>
    rcases vL_some (oB_some h) with ⟨e, _⟩ | ⟨b, o', l', c', z', e, h1⟩
    · exact e.symm
    · cases h1
  case nf =>
    rcases vF_some (oB_some h) with ⟨e, _⟩ | ⟨f, a, c, e, h1⟩
    · exact e.symm
    · cases h1
  case ni =>
    rcases vE_some (oB_some h) with ⟨e, _⟩ | ⟨t, v, e, h1⟩
    · exact e.symm
    · cases h1
theorem avEqs_eq : ∀ {xs ys : List AV}, avEqs xs ys = true → xs = ys
  | [], [], _ => rfl
  | [], _ :: _, h => by cases h
  | _ :: _, [], h => by cases h
  | x :: xs, y :: ys, h => by
    have h : (Bool.casesOn (avEq1 x y) false (avEqs xs ys) : Bool) = true := h
    obtain ⟨h1, h2⟩ := casesB h
    rw [avEq1_eq h1, avEqs_eq h2]
theorem avEq_eq {x y : AV} (h : avEq x y = true) : x = y := by
  unfold avEq at h
  cases ho : oneC x with
  | true => rw [ho] at h; exact avEq1_eq h
  | false =>
    rw [ho] at h
    obtain ⟨xs, e, h1⟩ := vA_some (oB_some h)
    obtain ⟨ys, e2, h2⟩ := vA_some h1
    rw [e, e2, avEqs_eq (Option.some.inj h2)]
end
end Go.Vai
