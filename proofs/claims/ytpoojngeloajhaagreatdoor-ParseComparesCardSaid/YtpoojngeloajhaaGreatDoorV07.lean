/- VAI, part G: '==' whole; the operations on two values. -/
import Derived.Test.YtpoojngeloajhaaGreatDoorV06
namespace Go.Vai
section
variable {R : Type} {P : Program} {pr : Pr} {ι : Emb} {H : Heap} {fr : Tr AV} {a : Act} {w : World}

theorem eqGuardIn_flat (P : Program) (w : World) : ∀ (fs : List Field) (ks : List Nat), fs.mapM (flatKind P) = some ks → ∀ d, (fs.any fun f => f.name != "_" && P.eqGuardType (d + 1) f.type) = false
  | [], _, _, _ => rfl
  | f :: fs, ks, h, d => by
    obtain ⟨kind, ks', hf, hk, rfl⟩ := mapM_some_cons h
    rw [List.any_cons, eqGuardIn_flat P w fs ks' hk d, Bool.or_false]
    unfold flatKind at hf
    split at hf
    · cases hf
    · split at hf <;> first | (cases hf; done) | (rename_i e; simp [Program.eqGuardType, e])

theorem run_info {t : TypeId} {i : TypeInfo} (h : P.info? t = some i) : (typeInfo t).run P w = .ok i w := by simp [typeInfo, h]
theorem run_size {t : TypeId} {n : Nat} (h : szOf P t = some n) : (sizeOf t).run P w = .ok n w := by
  simp only [szOf, Option.map_eq_some_iff] at h
  obtain ⟨i, hi, hn⟩ := h
  simp [sizeOf, run_info hi, hn]
theorem eq_nil_ptr {t e : TypeId} (ht : P.underlying t = some (.pointer e)) (b : Option Addr) : (Op.equal t (.pointer none) (.pointer b)).run P w = .ok b.isNone w := by
  have : ∀ d, (Op.equalIn (d + 1) t (.pointer none) (.pointer b)).run P w = .ok b.isNone w := fun d => by simp [Op.equalIn, run_underlying ht]
  exact this 9999
theorem eq_ptr_nil {t e : TypeId} (ht : P.underlying t = some (.pointer e)) (b : Addr) : (Op.equal t (.pointer (some b)) (.pointer none)).run P w = .ok false w := by
  have : ∀ d, (Op.equalIn (d + 1) t (.pointer (some b)) (.pointer none)).run P w = .ok false w := fun d => by simp [Op.equalIn, run_underlying ht]
  exact this 9999
theorem eq_ptr_same {t e : TypeId} {n : Nat} (ht : P.underlying t = some (.pointer e)) (hs : szOf P e = some (n + 1)) (b o o' : Nat) : (Op.equal t (.pointer (some ⟨b, o, none⟩)) (.pointer (some ⟨b, o', none⟩))).run P w = .ok ((⟨b, o, none⟩ : Addr) == ⟨b, o', none⟩) w := by
  have : ∀ d, (Op.equalIn (d + 1) t (.pointer (some ⟨b, o, none⟩)) (.pointer (some ⟨b, o', none⟩))).run P w = .ok ((⟨b, o, none⟩ : Addr) == ⟨b, o', none⟩) w := fun d => by
    simp [Op.equalIn, run_underlying ht, run_size hs, sameAddr]
  exact this 9999
theorem eq_nil_slice {t e : TypeId} (ht : P.underlying t = some (.slice e)) (b : Option Addr) (l c : Nat) : (Op.equal t (.slice none 0 0) (.slice b l c)).run P w = .ok b.isNone w := by
  have : ∀ d, (Op.equalIn (d + 1) t (.slice none 0 0) (.slice b l c)).run P w = .ok b.isNone w := fun d => by simp [Op.equalIn, run_underlying ht]
  exact this 9999
theorem eq_slice_nil {t e : TypeId} (ht : P.underlying t = some (.slice e)) (b : Addr) (l c : Nat) : (Op.equal t (.slice (some b) l c) (.slice none 0 0)).run P w = .ok false w := by
  have : ∀ d, (Op.equalIn (d + 1) t (.slice (some b) l c) (.slice none 0 0)).run P w = .ok false w := fun d => by simp [Op.equalIn, run_underlying ht]
  exact this 9999
theorem eq_nil_nil_func {t : TypeId} {ps rs v} (ht : P.underlying t = some (.func ps rs v)) : (Op.equal t .nilFunc .nilFunc).run P w = .ok true w := by
  have : ∀ d, (Op.equalIn (d + 1) t .nilFunc .nilFunc).run P w = .ok true w := fun d => by simp [Op.equalIn, run_underlying ht]
  exact this 9999
theorem eq_nil_func {t : TypeId} {ps rs v} (ht : P.underlying t = some (.func ps rs v)) (f : Fn) (a c : Array Value) : (Op.equal t .nilFunc (.func f a c)).run P w = .ok false w := by
  have : ∀ d, (Op.equalIn (d + 1) t .nilFunc (.func f a c)).run P w = .ok false w := fun d => by simp [Op.equalIn, run_underlying ht]
  exact this 9999
theorem eq_func_nil {t : TypeId} {ps rs v} (ht : P.underlying t = some (.func ps rs v)) (f : Fn) (a c : Array Value) : (Op.equal t (.func f a c) .nilFunc).run P w = .ok false w := by
  have : ∀ d, (Op.equalIn (d + 1) t (.func f a c) .nilFunc).run P w = .ok false w := fun d => by simp [Op.equalIn, run_underlying ht]
  exact this 9999
theorem eq_nil_nil_iface {t : TypeId} {ms} (ht : P.underlying t = some (.interface ms)) : (Op.equal t .nilIface .nilIface).run P w = .ok true w := by
  have : ∀ d, (Op.equalIn (d + 1) t .nilIface .nilIface).run P w = .ok true w := fun d => by simp [Op.equalIn, run_underlying ht]
  exact this 9999
theorem eq_nil_iface {t : TypeId} {ms} (ht : P.underlying t = some (.interface ms)) (u : TypeId) (v : Value) : (Op.equal t .nilIface (.iface u v)).run P w = .ok false w := by
  have : ∀ d, (Op.equalIn (d + 1) t .nilIface (.iface u v)).run P w = .ok false w := fun d => by simp [Op.equalIn, run_underlying ht]
  exact this 9999
theorem eq_iface_nil {t : TypeId} {ms} (ht : P.underlying t = some (.interface ms)) (u : TypeId) (v : Value) : (Op.equal t (.iface u v) .nilIface).run P w = .ok false w := by
  have : ∀ d, (Op.equalIn (d + 1) t (.iface u v) .nilIface).run P w = .ok false w := fun d => by simp [Op.equalIn, run_underlying ht]
  exact this 9999
theorem eq_struct {t : TypeId} {fs : Array Field} (ht : P.underlying t = some (.struct fs)) (hst : P.stoodInHeld t = false) (xs' ys' : Array Value) (b : Bool)
    (hrun : ∀ d, ((forIn fs.toList ((none, ()) : Option Bool × Unit) fun f _ => (do
        if f.name ≠ "_" then
          if !(← Op.equalIn d f.type (← part f.type xs' f.offset) (← part f.type ys' f.offset)) then return ForInStep.done (some false, ())
        return ForInStep.yield (none, ()) : Sem (ForInStep (Option Bool × Unit))))).run P w = .ok (if b then none else some false, ()) w ∨ d = 0) :
    (Op.equal t (.agg xs') (.agg ys')).run P w = .ok b w := by
  have : ∀ d, d ≠ 0 → (Op.equalIn (d + 1) t (.agg xs') (.agg ys')).run P w = .ok b w := fun d hd => by
    have h1 := (hrun d).resolve_right hd
    unfold Op.equalIn
    simp only [Sem.run_bind, run_underlying ht, Result.andThen_ok, run_program, hst, Bool.false_eq_true, if_false]
    rw [← Array.forIn_toList]
    refine (congrArg (fun x => Result.andThen x _) h1).trans ?_
    cases b <;> rfl
  exact this 9999 (by decide)
theorem depth_pos (P : Program) : ∃ d, P.depth = d + 2 := ⟨2 * (P.types.size + Made.depth), rfl⟩

/-- What '==' finds, ahead of 'not'. -/
def EqOK (P : Program) (w : World) (op : BinOp) (t : TypeId) (x y : Operand) (x' y' : Value) (b : Bool) : Prop :=
  (eqGuard op t x y x' y').run P w = .ok () w ∧ (Op.equal t x' y').run P w = .ok b w

theorem eqGuard_plain {op : BinOp} {t : TypeId} {x y : Operand} {x' y' : Value} (h1 : x' ≠ .nilIface ∨ y' ≠ .nilIface) (h2 : (∀ cs, x' ≠ .agg cs) ∨ (∀ cs, y' ≠ .agg cs)) :
    (eqGuard op t x y x' y').run P w = .ok () w := by
  unfold eqGuard
  cases op <;> first | rfl | skip
  all_goals
    cases x' <;> cases y' <;> first | rfl | (rcases h1 with h1 | h1 <;> exact (h1 rfl).elim) | (rcases h2 with h2 | h2 <;> exact (h2 _ rfl).elim)

theorem eTab_ok {op : BinOp} (hop : op = .eql ∨ op = .neq) {t : TypeId} {x y : Operand} {xv yv : AV} {c : Bool → Option R} {r : R} (h : eTab (compEK P t x y) xv yv c = some r) {x' y' : Value} (hx : VR ι xv x') (hy : VR ι yv y') :
    ∃ b, c b = some r ∧ EqOK P w op t x y x' y' b ∧ (∀ k n, x' ≠ .int k n) ∧ (∀ s, x' ≠ .string s) := by
  unfold compEK at h
  split at h
  · -- bool
    rename_i ht
    obtain ⟨p, e1, h1⟩ := vB_some h
    obtain ⟨q, e2, h2⟩ := vB_some h1
    obtain ⟨b, hb, hbb⟩ := eqCell_ok (ι := ι) (kind := 0) h
    subst e1 e2
    have hx' : x' = .bool p := hx
    have hy' : y' = .bool q := hy
    refine ⟨b, hb, ⟨eqGuard_plain (.inl (by rw [hx']; simp)) (.inl (by rw [hx']; simp)), hbb x' y' hx hy P w 9999 t (.inl ⟨rfl, ht⟩)⟩, by rw [hx']; simp, by rw [hx']; simp⟩
  · -- pointer
    rename_i e ht
    split at h
    · rename_i n hn
      rcases vP_some h with ⟨e1, h1⟩ | ⟨pa, o, e1, h1⟩
      · subst e1
        have hx' : x' = .pointer none := hx
        subst hx'
        rcases vP_some h1 with ⟨e2, h2⟩ | ⟨pb, o', e2, h2⟩
        · subst e2
          have hy' : y' = .pointer none := hy
          subst hy'
          exact ⟨_, h2, ⟨eqGuard_plain (.inl (by simp)) (.inl (by simp)), eq_nil_ptr ht _⟩, by simp, by simp⟩
        · subst e2
          obtain ⟨j, _, rfl⟩ := hy
          exact ⟨_, h2, ⟨eqGuard_plain (.inl (by simp)) (.inl (by simp)), eq_nil_ptr ht _⟩, by simp, by simp⟩
      · subst e1
        obtain ⟨j, hj, rfl⟩ := hx
        rcases vP_some h1 with ⟨e2, h2⟩ | ⟨pb, o', e2, h2⟩
        · subst e2
          have hy' : y' = .pointer none := hy
          subst hy'
          exact ⟨_, h2, ⟨eqGuard_plain (.inl (by simp)) (.inl (by simp)), eq_ptr_nil ht _⟩, by simp, by simp⟩
        · subst e2
          obtain ⟨j', hj', rfl⟩ := hy
          obtain ⟨hsame, h3⟩ := guardK_some h2
          have := Pa.same_eq hsame
          subst this
          rw [hj] at hj'; cases hj'
          rw [forceB_eq] at h3
          refine ⟨_, h3, ⟨eqGuard_plain (.inl (by simp)) (.inl (by simp)), ?_⟩, by simp, by simp⟩
          have : ((⟨j.blk, j.d + o, none⟩ : Addr) == ⟨j.blk, j.d + o', none⟩) = Nat.beq o o' := by
            rw [Bool.eq_iff_iff, beq_iff_eq, Nat.beq_eq]; simp
          rw [← this]
          exact eq_ptr_same ht hn _ _ _
    · cases h
  · -- slice
    rename_i e ht
    rcases vL_some h with ⟨e1, h1⟩ | ⟨_, _, _, _, _, e1, h1⟩
    · subst e1
      have hx' : x' = .slice none 0 0 := hx
      subst hx'
      rcases vL_some h1 with ⟨e2, h2⟩ | ⟨_, _, _, _, _, e2, h2⟩
      · subst e2
        have hy' : y' = .slice none 0 0 := hy
        subst hy'
        exact ⟨_, h2, ⟨eqGuard_plain (.inl (by simp)) (.inl (by simp)), eq_nil_slice ht _ _ _⟩, by simp, by simp⟩
      · subst e2
        obtain ⟨ad, cp, j, rfl, _⟩ := hy
        exact ⟨_, h2, ⟨eqGuard_plain (.inl (by simp)) (.inl (by simp)), eq_nil_slice ht _ _ _⟩, by simp, by simp⟩
    · subst e1
      obtain ⟨ad, cp, j, rfl, _⟩ := hx
      rcases vL_some h1 with ⟨e2, h2⟩ | ⟨_, _, _, _, _, e2, h2⟩
      · subst e2
        have hy' : y' = .slice none 0 0 := hy
        subst hy'
        exact ⟨_, h2, ⟨eqGuard_plain (.inl (by simp)) (.inl (by simp)), eq_slice_nil ht _ _ _⟩, by simp, by simp⟩
      · cases h2
  · -- func
    rename_i ht
    rcases vF_some h with ⟨e1, h1⟩ | ⟨_, _, _, e1, h1⟩
    · subst e1
      have hx' : x' = .nilFunc := hx
      subst hx'
      rcases vF_some h1 with ⟨e2, h2⟩ | ⟨_, _, _, e2, h2⟩
      · subst e2
        have hy' : y' = .nilFunc := hy
        subst hy'
        exact ⟨_, h2, ⟨eqGuard_plain (.inl (by simp)) (.inl (by simp)), eq_nil_nil_func ht⟩, by simp, by simp⟩
      · subst e2
        obtain ⟨_, _, rfl, _⟩ := hy
        exact ⟨_, h2, ⟨eqGuard_plain (.inl (by simp)) (.inl (by simp)), eq_nil_func ht _ _ _⟩, by simp, by simp⟩
    · subst e1
      obtain ⟨_, _, rfl, _⟩ := hx
      rcases vF_some h1 with ⟨e2, h2⟩ | ⟨_, _, _, e2, h2⟩
      · subst e2
        have hy' : y' = .nilFunc := hy
        subst hy'
        exact ⟨_, h2, ⟨eqGuard_plain (.inl (by simp)) (.inl (by simp)), eq_func_nil ht _ _ _⟩, by simp, by simp⟩
      · cases h2
  · -- interface
    rename_i ms ht
    rcases vE_some h with ⟨e1, h1⟩ | ⟨_, _, e1, h1⟩
    · subst e1
      have hx' : x' = .nilIface := hx
      subst hx'
      rcases vE_some h1 with ⟨e2, h2⟩ | ⟨_, _, e2, h2⟩
      · subst e2
        have hy' : y' = .nilIface := hy
        subst hy'
        obtain ⟨hl, h3⟩ := guardK_some h2
        refine ⟨_, h3, ⟨?_, eq_nil_nil_iface ht⟩, by simp, by simp⟩
        unfold eqGuard
        rcases hop with rfl | rfl <;>
        · rw [Bool.or_eq_true] at hl
          rcases hl with hl | hl
          · cases x <;> first | (cases hl; done) | rfl
          · cases y <;> first | (cases hl; done) | (cases x <;> rfl)
      · subst e2
        obtain ⟨_, rfl, _⟩ := hy
        exact ⟨_, h2, ⟨eqGuard_plain (.inr (by simp)) (.inl (by simp)), eq_nil_iface ht _ _⟩, by simp, by simp⟩
    · subst e1
      obtain ⟨_, rfl, _⟩ := hx
      rcases vE_some h1 with ⟨e2, h2⟩ | ⟨_, _, e2, h2⟩
      · subst e2
        have hy' : y' = .nilIface := hy
        subst hy'
        exact ⟨_, h2, ⟨eqGuard_plain (.inl (by simp)) (.inl (by simp)), eq_iface_nil ht _ _⟩, by simp, by simp⟩
      · cases h2
  · -- struct
    rename_i fs ht
    split at h
    · cases h
    · rename_i hst
      split at h
      · rename_i ks hks
        split at h
        · rename_i hoffs
          obtain ⟨xs, e1, h1⟩ := vA_some h
          obtain ⟨ys, e2, h2⟩ := vA_some h1
          subst e1 e2
          obtain ⟨xs', rfl, hxs⟩ := hx
          obtain ⟨ys', rfl, hys⟩ := hy
          have ho : ∀ i f, fs.toList[i]? = some f → f.offset = 0 + i := by
            intro i f hf
            have : (fs.toList.map (·.offset))[i]? = (List.range fs.size)[i]? := by rw [hoffs]
            rw [List.getElem?_map, hf] at this
            have hi : i < fs.size := by
              have := List.getElem?_eq_some_iff.mp hf
              obtain ⟨h, _⟩ := this
              simpa using h
            rw [List.getElem?_range hi] at this
            simp at this; omega
          obtain ⟨b, hb, hrun⟩ := flat_loop P w fs.toList ks xs ys xs' ys' 0 c r hks ho (by simpa using hxs) (by simpa using hys) h2
          refine ⟨b, hb, ⟨?_, ?_⟩, by simp, by simp⟩
          · unfold eqGuard
            obtain ⟨d, hd⟩ := depth_pos P
            have hg : P.eqGuardType P.depth t = false := by
              rw [hd]
              simp only [Program.eqGuardType, ht]
              rw [← Array.any_toList]
              exact eqGuardIn_flat P w fs.toList ks hks d
            rcases hop with rfl | rfl <;> simp [hg]
          · have hst : P.stoodInHeld t = false := by simpa using hst
            refine eq_struct ht hst xs' ys' b fun d => ?_
            cases d with
            | zero => exact .inr rfl
            | succ d => exact .inl (hrun d)
        · cases h
      · cases h
  · cases h
end
end Go.Vai
