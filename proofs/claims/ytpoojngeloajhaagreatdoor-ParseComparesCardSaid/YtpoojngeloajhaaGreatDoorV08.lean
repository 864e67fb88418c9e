/- VAI, part H: each operation that turns no memory. -/
import Derived.Test.YtpoojngeloajhaaGreatDoorV07
namespace Go.Vai
section
variable {R : Type} {P : Program} {pr : Pr} {ι : Emb} {H : Heap} {fr : Tr AV} {a : Act} {w : World}

theorem binOp_eql_other {t : TypeId} {x y : Value} (h1 : ∀ k n, x ≠ .int k n) (h2 : ∀ s, x ≠ .string s) (h3 : ∀ k b, x ≠ .float k b) (h4 : ∀ k p q, x ≠ .complex k p q) :
    binOp .eql t x y = (do pure (.bool (← Op.equal t x y))) := by
  cases x <;> cases y <;> first | rfl | (exact (h1 _ _ rfl).elim) | (exact (h2 _ rfl).elim) | (exact (h3 _ _ rfl).elim) | (exact (h4 _ _ _ rfl).elim)
theorem binOp_neq_other {t : TypeId} {x y : Value} (h1 : ∀ k n, x ≠ .int k n) (h2 : ∀ s, x ≠ .string s) (h3 : ∀ k b, x ≠ .float k b) (h4 : ∀ k p q, x ≠ .complex k p q) :
    binOp .neq t x y = (do pure (.bool (!(← Op.equal t x y)))) := by
  cases x <;> cases y <;> first | rfl | (exact (h1 _ _ rfl).elim) | (exact (h2 _ rfl).elim) | (exact (h3 _ _ rfl).elim) | (exact (h4 _ _ _ rfl).elim)

/-- No value that is told is a float. -/
theorem VR_not_float {x : AV} {v : Value} (hx : VR ι x v) (hu : x ≠ .u) : (∀ k b, v ≠ .float k b) ∧ ∀ k p q, v ≠ .complex k p q := by
  cases x with
  | u => exact (hu rfl).elim
  | b _ => have hx : v = _ := hx; subst hx; simp
  | i _ _ => have hx : v = _ := hx; subst hx; simp
  | s _ _ => obtain ⟨_, rfl, _⟩ := hx; simp
  | p _ _ => obtain ⟨_, _, rfl⟩ := hx; simp
  | np => have hx : v = _ := hx; subst hx; simp
  | sl _ _ _ _ _ => obtain ⟨_, _, _, rfl, _⟩ := hx; simp
  | ns => have hx : v = _ := hx; subst hx; simp
  | fn _ _ _ => obtain ⟨_, _, rfl, _⟩ := hx; simp
  | nf => have hx : v = _ := hx; subst hx; simp
  | ifc _ _ => obtain ⟨_, rfl, _⟩ := hx; simp
  | ni => have hx : v = _ := hx; subst hx; simp
  | ag _ => obtain ⟨_, rfl, _⟩ := hx; simp
  | tu _ => obtain ⟨_, rfl, _⟩ := hx; simp
  | mp _ _ _ => obtain ⟨_, rfl, _⟩ := hx; simp
  | nm => have hx : v = _ := hx; subst hx; simp

theorem eTab_u {ek : EK} {y : AV} {c : Bool → Option R} {r : R} (h : eTab ek .u y c = some r) : False := by
  cases ek <;> cases h

theorem binE_ok {op : BinOp} {t : TypeId} {x y : Operand} {xv yv : AV} {c : AV → Option R} {r : R} {x' y' : Value} (hx : VR ι xv x') (hy : VR ι yv y')
    (h : binE op (match op with | .eql => compEK P t x y | .neq => compEK P t x y | _ => .no) xv yv c = some r) :
    ∃ v, c v = some r ∧ ∃ v', VR ι v v' ∧ (do eqGuard op t x y x' y'; binOp op t x' y' : Sem Value).run P w = .ok v' w := by
  have hne : xv ≠ .u := by
    intro e; subst e
    cases op <;> first | (cases h; done) | exact (eTab_u h).elim
  obtain ⟨hf1, hf2⟩ := VR_not_float hx hne
  cases op <;> first | (cases h; done) | skip
  case eql =>
    obtain ⟨b, hb, ⟨hg, he⟩, h1, h2⟩ := eTab_ok (w := w) (.inl rfl) h hx hy
    rw [boolK_eq] at hb
    refine ⟨_, hb, .bool b, rfl, ?_⟩
    rw [binOp_eql_other h1 h2 hf1 hf2]
    simp [hg, he]
  case neq =>
    obtain ⟨b, hb, ⟨hg, he⟩, h1, h2⟩ := eTab_ok (w := w) (.inr rfl) h hx hy
    rw [notK_eq] at hb
    refine ⟨_, hb, .bool !b, rfl, ?_⟩
    rw [binOp_neq_other h1 h2 hf1 hf2]
    simp [hg, he]

theorem guard_none {op : BinOp} {t : TypeId} {x y : Operand} {x' y' : Value} (h1 : x' ≠ .nilIface) (h2 : ∀ cs, x' ≠ .agg cs) : (eqGuard op t x y x' y').run P w = .ok () w :=
  eqGuard_plain (.inl h1) (.inl h2)

theorem ltTab_conc {op : BinOp} {z : Int} {b : Nat} {c : AV → Option R} {q : R} (hz : z < b) (h : ltTab op c = some q) : iShift op = false ∧ iTab op .i64 z (.ofNat b) c = some q := by
  have e1 : iLt z (.ofNat b) = true := by rw [iLt_eq]; exact decide_eq_true hz
  have e2 : iLt (.ofNat b) z = false := by rw [iLt_eq]; exact decide_eq_false (by show ¬ (b : Int) < z; omega)
  have e3 : iEq z (.ofNat b) = false := by rw [iEq_eq]; exact beq_eq_false_iff_ne.mpr (by show z ≠ (b : Int); omega)
  cases op <;> first | (cases h; done) | (refine ⟨rfl, ?_⟩; first
    | (show boolK (iLt z _) c = _; rw [e1]; exact h) | (show notK (iLt _ z) c = _; rw [e2]; exact h) | (show boolK (iLt _ z) c = _; rw [e2]; exact h) | (show notK (iLt z _) c = _; rw [e1]; exact h) | (show boolK (iEq z _) c = _; rw [e3]; exact h) | (show notK (iEq z _) c = _; rw [e3]; exact h))
theorem gtTab_conc {op : BinOp} {z : Int} {b : Nat} {c : AV → Option R} {q : R} (hz : (b : Int) < z) (h : gtTab op c = some q) : iShift op = false ∧ iTab op .i64 z (.ofNat b) c = some q := by
  have e1 : iLt z (.ofNat b) = false := by rw [iLt_eq]; exact decide_eq_false (by show ¬ z < (b : Int); omega)
  have e2 : iLt (.ofNat b) z = true := by rw [iLt_eq]; exact decide_eq_true hz
  have e3 : iEq z (.ofNat b) = false := by rw [iEq_eq]; exact beq_eq_false_iff_ne.mpr (by show z ≠ (b : Int); omega)
  cases op <;> first | (cases h; done) | (refine ⟨rfl, ?_⟩; first
    | (show boolK (iLt z _) c = _; rw [e1]; exact h) | (show notK (iLt _ z) c = _; rw [e2]; exact h) | (show boolK (iLt _ z) c = _; rw [e2]; exact h) | (show notK (iLt z _) c = _; rw [e1]; exact h) | (show boolK (iEq z _) c = _; rw [e3]; exact h) | (show notK (iEq z _) c = _; rw [e3]; exact h))
theorem geTab_conc {op : BinOp} {z : Int} {b : Nat} {c : AV → Option R} {q : R} (hz : (b : Int) ≤ z) (h : geTab op c = some q) : iShift op = false ∧ iTab op .i64 z (.ofNat b) c = some q := by
  have e1 : iLt z (.ofNat b) = false := by rw [iLt_eq]; exact decide_eq_false (by show ¬ z < (b : Int); omega)
  cases op <;> first | (cases h; done) | (refine ⟨rfl, ?_⟩; first
    | (show boolK (iLt z _) c = _; rw [e1]; exact h) | (show notK (iLt z _) c = _; rw [e1]; exact h))
theorem cmpM_conc {n r s : Nat} {z : Int} (hs : SymI n r s z) {op : BinOp} {b : Nat} {c : AV → Option R} {q : R} (h : cmpM s op b c = some q) : iShift op = false ∧ iTab op .i64 z (.ofNat b) c = some q := by
  match s, hs, h with
  | 0, hs, h =>
    have h : guardK (Nat.beq b 0) (geTab op c) = some q := h
    obtain ⟨h1, h2⟩ := guardK_some h
    have h1 := Nat.eq_of_beq_eq_true h1
    rcases hs with ⟨e, _⟩ | ⟨_, _, m, e, _, _⟩ | ⟨e, _⟩
    · cases e
    · subst e; subst h1
      exact geTab_conc (by show ((0 : Nat) : Int) ≤ (m : Int); omega) h2
    · cases e
  | 1, hs, h =>
    have h : ltTab op c = some q := h
    rcases hs with ⟨_, m, e, _⟩ | ⟨e, _⟩ | ⟨e, _⟩
    · subst e
      exact ltTab_conc (by have := Int.negSucc_lt_zero m; omega) h
    · exact (e rfl).elim
    · cases e
  | s + 2, hs, h =>
    replace h : (Bool.casesOn (Nat.beq (s + 2) EU) (guardK (Nat.blt b (s + 2)) (gtTab op c)) none : Option R) = some q := h
    have he : Nat.beq (s + 2) EU = false := by
      cases e : Nat.beq (s + 2) EU with
      | false => rfl
      | true => rw [e] at h; cases h
    rw [he] at h
    obtain ⟨h1, h2⟩ := guardK_some h
    have h1 := Nat.blt_eq.mp h1
    rcases hs with ⟨e, _⟩ | ⟨_, _, m, e, _, h3⟩ | ⟨e, _⟩
    · omega
    · subst e
      exact gtTab_conc (by show (b : Int) < (m : Int); omega) h2
    · rw [e, Nat.beq_refl] at he; cases he
theorem remM_conc {n r s : Nat} {z : Int} (hs : SymI n r s z) (hn : n ≠ 0) {c : AV → Option R} {q : R} (h : remM r s c = some q) : iTab .rem .i64 z (.ofNat n) c = some q := by
  show (Bool.casesOn (iEq (.ofNat n) (.ofNat 0)) (forceI (Int.tmod z (.ofNat n)) fun x => c (.i .i64 x)) none : Option R) = some q
  have e0 : iEq (.ofNat n) (.ofNat 0) = false := by rw [iEq_eq]; exact beq_eq_false_iff_ne.mpr (by show (n : Int) ≠ 0; omega)
  rw [e0]
  show forceI (Int.tmod z (.ofNat n)) (fun x => c (.i .i64 x)) = some q
  rw [forceI_eq]
  unfold remM at h
  have he : Nat.beq s EU = false := by
    cases e : Nat.beq s EU with
    | false => rfl
    | true => rw [e] at h; cases h
  rw [he] at h
  replace h : remM2 r s c = some q := h
  unfold remM2 at h
  rcases hs with ⟨e, m, e1, e2⟩ | ⟨e, _, m, e1, e2, _⟩ | ⟨e, _⟩
  rotate_right
  · rw [e, Nat.beq_refl] at he; cases he
  · subst e; subst e1
    have h : (Nat.casesOn r (c (.i .i64 (.ofNat 0))) fun m => c (.i .i64 (.negSucc m)) : Option R) = some q := h
    have ht : Int.tmod (.negSucc m) (.ofNat n) = -(Int.ofNat r) := by show -(Int.ofNat (Nat.succ m % n)) = _; rw [← e2]
    show c (.i .i64 (Int.tmod (.negSucc m) (.ofNat n))) = some q
    rw [ht]
    cases r with
    | zero => exact h
    | succ r => exact h
  · have hb : Nat.beq s 1 = false := by
      cases hb : Nat.beq s 1 with
      | false => rfl
      | true => exact (e (Nat.eq_of_beq_eq_true hb)).elim
    rw [hb] at h
    subst e1
    have ht : Int.tmod (.ofNat m) (.ofNat n) = .ofNat r := by show Int.ofNat (m % n) = _; rw [e2]
    show c (.i .i64 (Int.tmod (.ofNat m) (.ofNat n))) = some q
    rw [ht]; exact h

theorem binM_conc {n r s : Nat} {z : Int} (hs : SymI n r s z) {op : BinOp} {ek : EK} {y : AV} {c : AV → Option R} {q : R} (h : binK op ek (.mp n r s) y c = some q) : binK op ek (.i .i64 z) y c = some q := by
  have h : (vI y fun k b => guardK (Nat.beq (kix k) 3) (iN b fun b => match op with
    | .rem => guardK (Nat.beq n b) (Nat.casesOn b none fun _ => remM r s c)
    | op => cmpM s op b c)) = some q := h
  obtain ⟨k, b, e, h1⟩ := vI_some h
  subst e
  obtain ⟨hk, h2⟩ := guardK_some h1
  obtain rfl : k = .i64 := kix_inj (b := .i64) hk
  obtain ⟨m, e, h3⟩ := iN_some h2
  subst e
  show (Bool.casesOn (iShift op) (guardK (Nat.beq (kix .i64) (kix .i64)) (iTab op .i64 z (.ofNat m) c)) (iTab op .i64 z (.ofNat m) c) : Option R) = some q
  have fin : iShift op = false ∧ iTab op .i64 z (.ofNat m) c = some q → (Bool.casesOn (iShift op) (guardK (Nat.beq (kix .i64) (kix .i64)) (iTab op .i64 z (.ofNat m) c)) (iTab op .i64 z (.ofNat m) c) : Option R) = some q := fun ⟨g1, g2⟩ => by
    rw [g1]; exact g2
  refine fin ?_
  cases op
  case rem =>
    have h3 : guardK (Nat.beq n m) (Nat.casesOn m none fun _ => remM r s c) = some q := h3
    obtain ⟨h4, h5⟩ := guardK_some h3
    have h4 := Nat.eq_of_beq_eq_true h4
    subst h4
    cases n with
    | zero => cases h5
    | succ n => exact ⟨rfl, remM_conc hs (by omega) h5⟩
  all_goals exact cmpM_conc hs h3

theorem binK_ok {op : BinOp} {t : TypeId} {x y : Operand} {xv yv : AV} {c : AV → Option R} {r : R} {x' y' : Value} (hx : VR ι xv x') (hy : VR ι yv y')
    (h : binK op (match op with | .eql => compEK P t x y | .neq => compEK P t x y | _ => .no) xv yv c = some r) :
    ∃ v, c v = some r ∧ ∃ v', VR ι v v' ∧ (do eqGuard op t x y x' y'; binOp op t x' y' : Sem Value).run P w = .ok v' w := by
  cases xv with
  | i k n =>
    obtain ⟨k', b, e, hd⟩ := binI_ok (x := .i k n) (ek := .no) h
    subst e
    have hx : x' = _ := hx
    have hy : y' = _ := hy
    subst hx hy
    obtain ⟨v, h1, v', h2, h3⟩ := hd t
    refine ⟨v, h1, v', h2 ι, ?_⟩
    simp only [Sem.run_bind, guard_none (P := P) (w := w) (op := op) (t := t) (x := x) (y := y) (x' := .int k n) (y' := .int k' b) (by simp) (by simp), Result.andThen_ok, h3]
  | s l n =>
    obtain ⟨l', n', e, hd⟩ := binS_ok (x := .s l n) (ek := .no) h
    subst e
    obtain ⟨s, rfl, hs⟩ := hx
    obtain ⟨s', rfl, hs'⟩ := hy
    obtain ⟨v, h1, v', h2, h3⟩ := hd s s' hs hs' t
    refine ⟨v, h1, v', h2 ι, ?_⟩
    simp only [Sem.run_bind, guard_none (P := P) (w := w) (op := op) (t := t) (x := x) (y := y) (x' := .string s) (y' := .string s') (by simp) (by simp), Result.andThen_ok, h3]
  | u => exact binE_ok hx hy h
  | b _ => exact binE_ok hx hy h
  | p _ _ => exact binE_ok hx hy h
  | np => exact binE_ok hx hy h
  | sl _ _ _ _ _ => exact binE_ok hx hy h
  | ns => exact binE_ok hx hy h
  | fn _ _ _ => exact binE_ok hx hy h
  | nf => exact binE_ok hx hy h
  | ifc _ _ => exact binE_ok hx hy h
  | ni => exact binE_ok hx hy h
  | ag _ => exact binE_ok hx hy h
  | tu _ => exact binE_ok hx hy h
  | mp n' r' s' =>
    obtain ⟨z, rfl, hs⟩ := hx
    obtain ⟨k', b, e, hd⟩ := binI_ok (x := .i .i64 z) (ek := .no) (binM_conc hs h)
    subst e
    have hy : y' = _ := hy
    subst hy
    obtain ⟨v, h1, v', h2, h3⟩ := hd t
    refine ⟨v, h1, v', h2 ι, ?_⟩
    simp only [Sem.run_bind, guard_none (P := P) (w := w) (op := op) (t := t) (x := x) (y := y) (x' := .int .i64 z) (y' := .int k' b) (by simp) (by simp), Result.andThen_ok, h3]
  | nm => exact binE_ok hx hy h

/-- What an operation that turns no memory is asked: told, it is done, and memory is as it was. -/
def PureOK (P : Program) (ι : Emb) (w : World) (H : Heap) (k : HK R) (r : R) (s : Sem Value) : Prop :=
  ∃ v, k v H = some r ∧ ∃ v', VR ι v v' ∧ s.run P w = .ok v' w

theorem PureOK.does {k : HK R} {r : R} {s : Sem Value} (C : Ctx P pr ι H fr a w) (h : PureOK P ι w H k r s) : ∃ v, k v H = some r ∧ Does P pr ι w s v H :=
  let ⟨v, h1, _, h2, h3⟩ := h; ⟨v, h1, C.pure h3 h2⟩

section
variable {k : HK R} {r : R} {call : CallK R}

theorem map_some {α β : Type} {f : α → β} {x : Option α} {y : β} (h : x.map f = some y) : ∃ z, x = some z ∧ f z = y := Option.map_eq_some_iff.mp h
theorem bind_some {α β : Type} {f : α → Option β} {x : Option α} {y : β} (h : x.bind f = some y) : ∃ z, x = some z ∧ f z = some y := Option.bind_eq_some_iff.mp h

theorem ok_mv {x : Operand} {o : Opd} (C : Ctx P pr ι H fr a w) (hx : compOpd P x = some o) (h : xMv o call fr H k = some r) : PureOK P ι w H k r (pure (a.eval x)) := by
  unfold xMv at h; rw [evK_eq] at h
  exact ⟨_, h, _, C.opd hx, rfl⟩

theorem ok_pick {c x y : Operand} {c' x' y' : Opd} (C : Ctx P pr ι H fr a w) (hc : compOpd P c = some c') (hx : compOpd P x = some x') (hy : compOpd P y = some y') (h : xPick c' x' y' call fr H k = some r) :
    PureOK P ι w H k r (do pure (if ← asBool (a.eval c) then a.eval x else a.eval y)) := by
  unfold xPick at h; rw [evK_eq] at h
  obtain ⟨t, e, h1⟩ := vB_some h
  have hcv := C.opd hc
  rw [e] at hcv
  have hcv : a.eval c = .bool t := hcv
  cases t with
  | true =>
    have h1 : evK fr x' (fun v => k v H) = some r := h1
    rw [evK_eq] at h1
    exact ⟨_, h1, _, C.opd hx, by simp [hcv, asBool]⟩
  | false =>
    have h1 : evK fr y' (fun v => k v H) = some r := h1
    rw [evK_eq] at h1
    exact ⟨_, h1, _, C.opd hy, by simp [hcv, asBool]⟩

theorem ok_bin {op : BinOp} {t : TypeId} {x y : Operand} {x' y' : Opd} (C : Ctx P pr ι H fr a w) (hx : compOpd P x = some x') (hy : compOpd P y = some y')
    (h : xBin op (match op with | .eql => compEK P t x y | .neq => compEK P t x y | _ => .no) x' y' call fr H k = some r) :
    PureOK P ι w H k r (do eqGuard op t x y (a.eval x) (a.eval y); binOp op t (a.eval x) (a.eval y)) := by
  unfold xBin at h; rw [evK_eq, evK_eq] at h
  exact binK_ok (C.opd hx) (C.opd hy) h

theorem ok_not {x : Operand} {x' : Opd} (C : Ctx P pr ι H fr a w) (hx : compOpd P x = some x') (h : xNot x' call fr H k = some r) : PureOK P ι w H k r (Op.unary .not (a.eval x)) := by
  unfold xNot at h; rw [evK_eq] at h
  obtain ⟨t, e, h1⟩ := vB_some h
  have hv := C.opd hx
  rw [e] at hv
  have hv : a.eval x = .bool t := hv
  rw [notK_eq] at h1
  exact ⟨_, h1, .bool !t, rfl, by rw [hv]; rfl⟩

theorem ok_neg {x : Operand} {x' : Opd} (C : Ctx P pr ι H fr a w) (hx : compOpd P x = some x') (h : xNeg x' call fr H k = some r) : PureOK P ι w H k r (Op.unary .neg (a.eval x)) := by
  unfold xNeg at h; rw [evK_eq] at h
  obtain ⟨kd, n, e, h1⟩ := vI_some h
  have hv := C.opd hx
  rw [e] at hv
  have hv : a.eval x = .int kd n := hv
  rw [intK_eq] at h1
  exact ⟨_, h1, .int kd (kd.wrap (0 - n)), rfl, by rw [hv]; rfl⟩

theorem ones_ok (kd : IntKind) : BitVec.ofInt kd.bits (if kd.signed then -1 else kd.max) = BitVec.allOnes kd.bits := by cases kd <;> decide

theorem ok_cpl {x : Operand} {x' : Opd} (C : Ctx P pr ι H fr a w) (hx : compOpd P x = some x') (h : xCpl x' call fr H k = some r) : PureOK P ι w H k r (Op.unary .xor (a.eval x)) := by
  unfold xCpl at h; rw [evK_eq] at h
  obtain ⟨kd, n, e, h1⟩ := vI_some h
  obtain ⟨hr, h2⟩ := guardK_some h1
  obtain ⟨m, em, h3⟩ := iN_some h2
  have hv := C.opd hx
  rw [e, em] at hv
  have hv : a.eval x = .int kd (.ofNat m) := hv
  rw [em] at hr
  have hm := inR_nat hr
  rw [hv]
  have key : Op.unary .xor (.int kd (.ofNat m)) = Op.intBits .xor kd (if kd.signed then -1 else kd.max) (.ofNat m) := rfl
  rw [key]
  cases hb : Nat.beq (loN kd) 0 with
  | true =>
    have h4 : cplN kd m (fun v => k v H) = natV kd (Nat.sub (Nat.sub (moN kd) 1) m) (fun v => k v H) := by unfold cplN; rw [hb]
    rw [h4, natV_eq] at h3
    refine ⟨_, h3, _, rfl, ?_⟩
    have hl : loN kd = 0 := Nat.eq_of_beq_eq_true hb
    simp only [Op.intBits]
    rw [ones_ok, BitVec.allOnes_xor, ofInt_nat, BitVec.toNat_not, BitVec.toNat_ofNat]
    cases kd <;> simp only [loN] at hl <;> first | (exact absurd hl (by decide)) | skip
    all_goals
      simp only [hiN] at hm
      simp only [IntKind.bits, moN]
      rw [Nat.mod_eq_of_lt (by omega)]
      congr 2
      simp only [IntKind.wrap, IntKind.bits, IntKind.signed]
      simp
      omega
  | false =>
    have h4 : cplN kd m (fun v => k v H) = k (.i kd (.negSucc m)) H := by unfold cplN; rw [hb]
    rw [h4] at h3
    refine ⟨_, h3, _, rfl, ?_⟩
    have hl : loN kd ≠ 0 := Nat.ne_of_beq_eq_false hb
    simp only [Op.intBits]
    rw [ones_ok, BitVec.allOnes_xor, ofInt_nat, BitVec.toNat_not, BitVec.toNat_ofNat]
    cases kd <;> simp only [loN] at hl <;> first | (exact absurd rfl hl) | skip
    all_goals
      simp only [hiN] at hm
      simp only [IntKind.bits]
      rw [Nat.mod_eq_of_lt (by omega)]
      congr 2
      simp only [IntKind.wrap, IntKind.bits, IntKind.signed]
      simp
      omega
end
end
end Go.Vai
