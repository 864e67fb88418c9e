/- VAI, part F: operations that turn no memory: what is told is what the model's operation gives. -/
import Derived.Test.YtpoojngeloajhaaGreatDoorV05
import Derived.Laws.Entries
import Derived.ChangeKeysEq
namespace Go.Vai
section
variable {R : Type}

theorem un_undef (ι : Emb) : VR ι un undef := ⟨#[], rfl, rfl⟩

/-- A frame against the model's. -/
def FR (ι : Emb) (fr : Tr AV) (a : Act) : Prop := ∀ t, VR ι (Tr.get un fr (toPa t)) (a.tmps.getD t undef)
theorem FR.mono {ι ι' : Emb} {fr : Tr AV} {a : Act} (h : FR ι fr a) (hx : Ext ι ι') : FR ι' fr a := fun t => VR_mono hx _ _ (h t)

theorem ofConst1_ok (ι : Emb) {v : Value} {x : AV} (h : ofConst1 v = some x) : VR ι x v := by
  unfold ofConst1 at h
  split at h <;> first | (cases h; done) | (cases h; first | rfl | exact ⟨_, rfl, by simp, rfl⟩)

theorem mapM_some_cons {α β : Type} {f : α → Option β} {x : α} {l : List α} {ys : List β} (h : (x :: l).mapM f = some ys) :
    ∃ y ys', f x = some y ∧ l.mapM f = some ys' ∧ ys = y :: ys' := by
  rw [List.mapM_cons] at h
  cases hx : f x with
  | none => rw [hx] at h; cases h
  | some y =>
    rw [hx] at h
    cases hl : l.mapM f with
    | none => rw [hl] at h; cases h
    | some ys' => rw [hl] at h; cases h; exact ⟨y, ys', rfl, rfl, rfl⟩

theorem mapM_nil_some {α β : Type} {f : α → Option β} {ys : List β} (h : ([] : List α).mapM f = some ys) : ys = [] := by
  rw [List.mapM_nil] at h; cases h; rfl

theorem consts_ok (ι : Emb) : ∀ {vs : List Value} {xs : List AV}, vs.mapM ofConst1 = some xs → VRs ι xs vs
  | [], _, h => by rw [mapM_nil_some h]; rfl
  | v :: vs, _, h => by
    obtain ⟨y, ys, h1, h2, rfl⟩ := mapM_some_cons h
    exact ⟨v, vs, rfl, ofConst1_ok ι h1, consts_ok ι h2⟩

theorem ofConst_ok (ι : Emb) {v : Value} {x : AV} (h : ofConst v = some x) : VR ι x v := by
  unfold ofConst at h
  split at h
  · rename_i cs
    cases hm : cs.toList.mapM ofConst1 with
    | none => rw [hm] at h; cases h
    | some xs => rw [hm] at h; cases h; exact ⟨cs, rfl, consts_ok ι hm⟩
  · exact ofConst1_ok ι h

/-- Where one stands. -/
structure Ctx (P : Program) (pr : Pr) (ι : Emb) (H : Heap) (fr : Tr AV) (a : Act) (w : World) : Prop where
  rel : Rel pr P.globals.size ι H w.heap
  fr : FR ι fr a

variable {P : Program} {pr : Pr} {ι : Emb} {H : Heap} {fr : Tr AV} {a : Act} {w : World}

theorem Ctx.opd (C : Ctx P pr ι H fr a w) {x : Operand} {o : Opd} (h : compOpd P x = some o) : VR ι (ev fr o) (a.eval x) := by
  cases x with
  | tmp t => cases h; exact C.fr t
  | const v =>
    simp only [compOpd, Option.map_eq_some_iff] at h
    obtain ⟨y, hy, rfl⟩ := h
    exact ofConst_ok ι hy
  | global g =>
    simp only [compOpd] at h
    split at h
    · rename_i hg
      cases h
      obtain ⟨n, m, e⟩ := C.rel.glob g hg
      exact ⟨_, e, rfl⟩
    · cases h
  | func f => cases h; exact ⟨#[], #[], rfl, rfl, rfl⟩

theorem Ctx.opds (C : Ctx P pr ι H fr a w) {xs : Array Operand} {os : List Opd} (h : compOpds P xs = some os) : VRs ι (os.map (ev fr)) (xs.map a.eval).toList := by
  unfold compOpds at h
  rw [Array.toList_map]
  generalize xs.toList = l at h
  clear xs
  induction l generalizing os with
  | nil => rw [mapM_nil_some h]; rfl
  | cons x l ih =>
    obtain ⟨y, ys, h1, h2, rfl⟩ := mapM_some_cons h
    exact ⟨_, _, rfl, C.opd h1, ih h2⟩

/-- What an operation leaves, whatever comes behind it. -/
def Sim (P : Program) (pr : Pr) (ι : Emb) (o : Oper) (a : Act) (w : World) (v : AV) (H' : Heap) : Prop :=
  ∀ (next : Act → World → Prop) (Q : Exit → Act → World → Prop),
    (∀ ι' v' w', Ext ι ι' → Rel pr P.globals.size ι' H' w'.heap → Fr pr w w' → VR ι' v v' → next (a.put o.dst v') w') → o.wp P a w next Q

/-- What a computation that gives a value leaves. -/
def Does (P : Program) (pr : Pr) (ι : Emb) (w : World) (s : Sem Value) (v : AV) (H' : Heap) : Prop :=
  ∃ v' w' ι', s.run P w = .ok v' w' ∧ Ext ι ι' ∧ Rel pr P.globals.size ι' H' w'.heap ∧ Fr pr w w' ∧ VR ι' v v'

theorem Does.sim {o : Oper} {v : AV} {H' : Heap} {s : Sem Value} (h : Does P pr ι w s v H') (he : execOp a.eval o = (do pure (.value (← s)) : Sem Next)) : Sim P pr ι o a w v H' := by
  obtain ⟨v', w', ι', h1, h2, h3, h4, h5⟩ := h
  intro next Q hk
  unfold Oper.wp
  rw [he]
  simp only [Sem.run_bind, h1, Result.andThen_ok, Sem.run_pure, Oper.upon]
  exact hk ι' v' w' h2 h3 h4 h5

theorem Ctx.pure (C : Ctx P pr ι H fr a w) {s : Sem Value} {v : AV} {v' : Value} (hs : s.run P w = .ok v' w) (hv : VR ι v v') : Does P pr ι w s v H :=
  ⟨v', w, ι, hs, Ext.refl _, C.rel, Fr.refl _ _, hv⟩

theorem Told.does {c : AV → Option R} {r : R} {s : Sem Value} (C : Ctx P pr ι H fr a w) (h : Told c r s) : ∃ v, c v = some r ∧ Does P pr ι w s v H := by
  obtain ⟨v, h1, v', h2, h3⟩ := h
  exact ⟨v, h1, C.pure (h3 P w) (h2 ι)⟩

/-! '=='. -/
theorem eqCell_ok {kind : Nat} {x y : AV} {c : Bool → Option R} {r : R} (h : eqCellK kind x y c = some r) :
    ∃ b, c b = some r ∧ ∀ x' y', VR ι x x' → VR ι y y' → ∀ (P : Program) (w : World) (d : Nat) (t : TypeId),
      ((kind = 0 ∧ P.underlying t = some .bool) ∨ (kind = 1 ∧ ∃ k, P.underlying t = some (.int k)) ∨ (kind = 2 ∧ P.underlying t = some .string)) →
      (Op.equalIn (d + 1) t x' y').run P w = .ok b w := by
  unfold eqCellK at h
  split at h
  · obtain ⟨p, e1, h1⟩ := vB_some h
    obtain ⟨q, e2, h2⟩ := vB_some h1
    rw [forceB_eq, bEq_eq] at h2
    refine ⟨_, h2, fun x' y' hx hy P w d t ht => ?_⟩
    subst e1 e2
    have hx : x' = .bool p := hx
    have hy : y' = .bool q := hy
    subst hx hy
    rcases ht with ⟨_, ht⟩ | ⟨h0, _⟩ | ⟨h0, _⟩
    · simp [Op.equalIn, run_underlying ht]
    · cases h0
    · cases h0
  · obtain ⟨k, p, e1, h1⟩ := vI_some h
    obtain ⟨k', q, e2, h2⟩ := vI_some h1
    obtain ⟨hk, h3⟩ := guardK_some h2
    have hk := kix_inj hk
    rw [forceB_eq, iEq_eq] at h3
    refine ⟨_, h3, fun x' y' hx hy P w d t ht => ?_⟩
    subst e1 e2 hk
    have hx : x' = .int k p := hx
    have hy : y' = .int k q := hy
    subst hx hy
    rcases ht with ⟨h0, _⟩ | ⟨_, k2, ht⟩ | ⟨h0, _⟩
    · cases h0
    · simp [Op.equalIn, run_underlying ht]
    · cases h0
  · obtain ⟨l, p, e1, h1⟩ := vS_some h
    obtain ⟨l', q, e2, h2⟩ := vS_some h1
    rw [forceB_eq] at h2
    refine ⟨_, h2, fun x' y' hx hy P w d t ht => ?_⟩
    subst e1 e2
    obtain ⟨s, rfl, hs⟩ := hx
    obtain ⟨s', rfl, hs'⟩ := hy
    rcases ht with ⟨h0, _⟩ | ⟨h0, _⟩ | ⟨_, ht⟩
    · cases h0
    · cases h0
    · have e : sEq l p l' q = (s == s') := by
        have e1 : (s == s') = (s.data == s'.data) := by cases s; cases s'; rfl
        rw [sEq_eq hs hs', ByteArray.toList_eq, ByteArray.toList_eq, e1, Bool.eq_iff_iff, beq_iff_eq, beq_iff_eq]
        exact ⟨fun h => Array.toList_inj.mp h, fun h => by rw [h]⟩
      simp [Op.equalIn, run_underlying ht, e]
  · cases h

/-- The fields of a flat struct, as they are compared. -/
theorem flat_loop (P : Program) (w : World) : ∀ (fs : List Field) (ks : List Nat) (xs ys : List AV) (xs' ys' : Array Value) (o : Nat) (c : Bool → Option R) (r : R),
    fs.mapM (flatKind P) = some ks → (∀ i f, fs[i]? = some f → f.offset = o + i) → VRs ι xs (xs'.toList.drop o) → VRs ι ys (ys'.toList.drop o) → eqCellsK ks xs ys c = some r →
    ∃ b, c b = some r ∧ ∀ d, ((forIn fs ((none, ()) : Option Bool × Unit) fun f _ => (do
        if f.name ≠ "_" then
          if !(← Op.equalIn (d + 1) f.type (← part f.type xs' f.offset) (← part f.type ys' f.offset)) then return ForInStep.done (some false, ())
        return ForInStep.yield (none, ()) : Sem (ForInStep (Option Bool × Unit))))).run P w = .ok (if b then none else some false, ()) w := by
  intro fs
  induction fs with
  | nil =>
    intro ks xs ys xs' ys' o c r hk ho hx hy h
    rw [mapM_nil_some hk] at h
    cases xs with
    | cons x xs => cases h
    | nil => cases ys with
      | cons y ys => cases h
      | nil => exact ⟨true, h, fun d => by simp⟩
  | cons f fs ih =>
    intro ks xs ys xs' ys' o c r hk ho hx hy h
    obtain ⟨kind, ks, hf, hk', rfl⟩ := mapM_some_cons hk
    cases xs with
    | nil => cases h
    | cons x xs => cases ys with
      | nil => cases h
      | cons y ys =>
        have h : eqCellK kind x y (fun r => eqCellsK ks xs ys fun s => c (Bool.casesOn r false s)) = some r := h
        obtain ⟨b1, h1, hb1⟩ := eqCell_ok (ι := ι) h
        obtain ⟨x1, xr, ex, hx1, hxr⟩ := hx
        obtain ⟨y1, yr, ey, hy1, hyr⟩ := hy
        have hoff : f.offset = o := by have := ho 0 f (by simp); omega
        have gx : xs'[o]? = some x1 := by
          have : (xs'.toList.drop o)[0]? = some x1 := by rw [ex]; rfl
          simpa [List.getElem?_drop] using this
        have gy : ys'[o]? = some y1 := by
          have : (ys'.toList.drop o)[0]? = some y1 := by rw [ey]; rfl
          simpa [List.getElem?_drop] using this
        have dx : xr = xs'.toList.drop (o + 1) := by
          have : (xs'.toList.drop o).tail = xr := by rw [ex]; rfl
          rw [← this, List.tail_drop]
        have dy : yr = ys'.toList.drop (o + 1) := by
          have : (ys'.toList.drop o).tail = yr := by rw [ey]; rfl
          rw [← this, List.tail_drop]
        subst dx dy
        obtain ⟨b2, h2, hrun⟩ := ih ks xs ys xs' ys' (o + 1) (fun s => c (Bool.casesOn b1 false s)) r hk' (fun i g hg => by have := ho (i + 1) g (by simpa using hg); omega) hxr hyr h1
        have hname : f.name ≠ "_" := by
          intro e; unfold flatKind at hf; rw [if_pos e] at hf; cases hf
        have hty : ((kind = 0 ∧ P.underlying f.type = some .bool) ∨ (kind = 1 ∧ ∃ k, P.underlying f.type = some (.int k)) ∨ (kind = 2 ∧ P.underlying f.type = some .string)) := by
          unfold flatKind at hf; rw [if_neg hname] at hf
          split at hf <;> first | (cases hf; done) | skip
          · rename_i e; cases hf; exact .inl ⟨rfl, e⟩
          · rename_i e; cases hf; exact .inr (.inl ⟨rfl, _, e⟩)
          · rename_i e; cases hf; exact .inr (.inr ⟨rfl, e⟩)
        have hagg : (isAgg f.type).run P w = .ok false w := by
          rcases hty with ⟨_, e⟩ | ⟨_, k, e⟩ | ⟨_, e⟩ <;> simp [isAgg, run_underlying e]
        have px : (part f.type xs' f.offset).run P w = .ok x1 w := by simp [part, hagg, hoff, gx]
        have py : (part f.type ys' f.offset).run P w = .ok y1 w := by simp [part, hagg, hoff, gy]
        have he := fun d => hb1 x1 y1 hx1 hy1 P w d f.type hty
        cases b1 with
        | true =>
          refine ⟨b2, h2, fun d => ?_⟩
          rw [List.forIn_cons]
          simp only [Sem.run_bind, hname, ne_eq, not_false_eq_true, if_true, px, py, he, Result.andThen_ok, Bool.not_true, Bool.false_eq_true, if_false, Sem.run_pure]
          exact hrun d
        | false =>
          refine ⟨false, h2, fun d => ?_⟩
          rw [List.forIn_cons]
          simp only [Sem.run_bind, hname, ne_eq, not_false_eq_true, if_true, px, py, he, Result.andThen_ok, Bool.not_false, Sem.run_pure]
          rfl
end
end Go.Vai
