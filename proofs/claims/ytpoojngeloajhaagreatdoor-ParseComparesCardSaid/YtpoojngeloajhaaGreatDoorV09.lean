/- VAI, part I: more operations that turn no memory. -/
import Derived.Test.YtpoojngeloajhaaGreatDoorV08
namespace Go.Vai
section
variable {R : Type} {P : Program} {pr : Pr} {ι : Emb} {H : Heap} {fr : Tr AV} {a : Act} {w : World}
variable {k : HK R} {r : R} {call : CallK R}

theorem run_isAgg {t : TypeId} {g : Bool} (h : aggOf P t = some g) : (isAgg t).run P w = .ok g w := by
  simp only [aggOf, Option.map_eq_some_iff] at h
  obtain ⟨d, hd, rfl⟩ := h
  cases d <;> simp [isAgg, run_underlying hd]

theorem VRi {k : IntKind} {n : Int} {v : Value} (h : VR ι (.i k n) v) : v = .int k n := h
theorem VRb {b : Bool} {v : Value} (h : VR ι (.b b) v) : v = .bool b := h

theorem ok_cvi {kd : IntKind} {x : Operand} {x' : Opd} {s d : TypeId} {k0 : IntKind} (hs : P.underlying s = some (.int k0)) (hd : P.underlying d = some (.int kd)) (C : Ctx P pr ι H fr a w) (hx : compOpd P x = some x') (h : xCvi kd x' call fr H k = some r) :
    PureOK P ι w H k r (convert s d (a.eval x)) := by
  unfold xCvi at h; rw [evK_eq] at h
  obtain ⟨k1, n, e, h1⟩ := vI_some h
  have hv := C.opd hx
  rw [e] at hv
  have hv := VRi hv
  rw [intK_eq] at h1
  exact ⟨_, h1, _, rfl, by rw [hv]; simp [convert, run_underlying hs, run_underlying hd, Conv.intToInt]⟩

theorem isS_some {v : AV} (h : isS v = true) : ∃ l n, v = .s l n := by cases v <;> first | (cases h; done) | exact ⟨_, _, rfl⟩

theorem ok_cvs {x : Operand} {x' : Opd} {s d : TypeId} (hs : P.underlying s = some .string) (hd : P.underlying d = some .string) (C : Ctx P pr ι H fr a w) (hx : compOpd P x = some x') (h : xCvs x' call fr H k = some r) :
    PureOK P ι w H k r (convert s d (a.eval x)) := by
  unfold xCvs at h; rw [evK_eq] at h
  obtain ⟨h1, h2⟩ := guardK_some h
  obtain ⟨l, n, e⟩ := isS_some h1
  have hv := C.opd hx
  refine ⟨_, h2, _, hv, ?_⟩
  rw [e] at hv
  obtain ⟨s, hs', _⟩ := hv
  rw [hs']
  simp [convert, run_underlying hs, run_underlying hd]

theorem ok_mkif {t : TypeId} {x : Operand} {x' : Opd} {d : TypeDesc} (ht : P.underlying t = some d) (hd : ∀ ms, d ≠ .interface ms) (C : Ctx P pr ι H fr a w) (hx : compOpd P x = some x') (h : xMkif t x' call fr H k = some r) :
    PureOK P ι w H k r (Instr.makeInterface t (a.eval x)) := by
  unfold xMkif at h; rw [evK_eq] at h
  have h1 : k (.ifc t (ev fr x')) H = some r := by
    unfold cellsK at h
    cases ho : oneC (ev fr x') with
    | true => rw [ho] at h; exact h
    | false => rw [ho] at h; obtain ⟨_, _, h2⟩ := vA_some h; exact h2
  refine ⟨_, h1, .iface t (a.eval x), ⟨_, rfl, C.opd hx⟩, ?_⟩
  cases d <;> first | (exact (hd _ rfl).elim) | simp [Instr.makeInterface, run_underlying ht]

theorem ok_mkfn {f : Fn} {first caps : Array Operand} {first' caps' : List Opd} (C : Ctx P pr ι H fr a w) (h1 : compOpds P first = some first') (h2 : compOpds P caps = some caps') (h : xMkfn f first' caps' call fr H k = some r) :
    PureOK P ι w H k r (Instr.makeFunc f (first.map a.eval) (caps.map a.eval)) := by
  unfold xMkfn at h; rw [evsK_eq, evsK_eq] at h
  exact ⟨_, h, _, ⟨_, _, rfl, C.opds h1, C.opds h2⟩, rfl⟩

theorem ok_nilck {o : Oper} {x : Operand} {x' : Opd} (C : Ctx P pr ι H fr a w) (hx : compOpd P x = some x') (h : xNilck x' call fr H k = some r) (ho : o.op = .nilCheck x) :
    ∃ v, k v H = some r ∧ ∃ v', VR ι v v' ∧ (execOp a.eval o).run P w = .ok (.value v') w := by
  unfold xNilck at h; rw [evK_eq] at h
  obtain ⟨h1, h2⟩ := guardK_some h
  have hv := C.opd hx
  refine ⟨_, h2, _, hv, ?_⟩
  unfold execOp
  rw [ho]
  cases e : ev fr x' with
  | p pa off => rw [e] at hv; obtain ⟨j, _, hj⟩ := hv; simp [hj]
  | ifc t y => rw [e] at hv; obtain ⟨y', hy, _⟩ := hv; simp [hy]
  | fn f fs cs =>
    rw [e] at hv h1
    obtain ⟨_, _, hf, _⟩ := hv
    cases f <;> first | (cases h1; done) | simp [hf]
  | _ => rw [e] at h1; cases h1

theorem bndK_some {o : Option AV} {d : Nat} {f : Nat → Option R} {r : R} (h : bndK o d f = some r) : ∃ n, f n = some r ∧ ((o = none ∧ n = d) ∨ ∃ kd, o = some (.i kd (.ofNat n))) := by
  cases o with
  | none => exact ⟨d, h, .inl ⟨rfl, rfl⟩⟩
  | some v => obtain ⟨kd, n, e, h1⟩ := vN_some h; exact ⟨n, h1, .inr ⟨kd, by rw [e]⟩⟩

theorem run_bound {n m : Nat} {kd : IntKind} {code : BoundsCode} (h : n ≤ m) : (Instr.sliceBound (.int kd (n : Int)) m code).run P w = .ok n w := by
  simp [Instr.sliceBound, asIntOf, h]

/-- A bound as the model has it: not given, or a number. -/
def Bd (o : Option Value) (d n : Nat) : Prop := (o = none ∧ n = d) ∨ ∃ kd, o = some (.int kd (n : Int))
theorem Ctx.bnd (C : Ctx P pr ι H fr a w) {x : Option Operand} {x' : Option Opd} (h : compOpdo P x = some x') {d : Nat} {f : Nat → Option R} {r : R} (hb : bndK (x'.map (ev fr)) d f = some r) :
    ∃ n, f n = some r ∧ Bd (x.map a.eval) d n := by
  obtain ⟨n, h1, h2⟩ := bndK_some hb
  refine ⟨n, h1, ?_⟩
  cases x with
  | none =>
    cases h
    rcases h2 with ⟨_, e⟩ | ⟨_, e⟩
    · exact .inl ⟨rfl, e⟩
    · cases e
  | some x =>
    obtain ⟨o, ho, rfl⟩ := map_some h
    rcases h2 with ⟨e, _⟩ | ⟨kd, e⟩
    · cases e
    · have hv := C.opd ho
      simp only [Option.map_some, Option.some.injEq] at e
      rw [e] at hv
      exact .inr ⟨kd, by simp only [Option.map_some]; rw [VRi hv]; rfl⟩

theorem run_bounds {s : Bool} {len cap l h m : Nat} {lo hi mx : Option Value} (hl : Bd lo 0 l) (hh : Bd hi len h) (hm : Bd mx cap m) (hx : mx = none ∨ hi ≠ none) (h1 : l ≤ h) (h2 : h ≤ m) (h3 : m ≤ cap) :
    (Instr.sliceBounds s len cap lo hi mx).run P w = .ok (l, h, m) w := by
  rcases hl with ⟨rfl, rfl⟩ | ⟨kl, rfl⟩ <;> rcases hh with ⟨rfl, rfl⟩ | ⟨kh, rfl⟩ <;> rcases hm with ⟨rfl, rfl⟩ | ⟨km, rfl⟩
  all_goals first
    | (rcases hx with hx | hx <;> first | (cases hx; done) | (exact (hx rfl).elim))
    | (simp only [Instr.sliceBounds, Sem.run_bind, Sem.run_pure, Result.andThen_ok, run_bound h1, run_bound h2, run_bound h3]; done)
    | skip

theorem SR.extract {len n l h : Nat} {s : ByteArray} (hs : SR len n s) (h1 : l ≤ h) (h2 : h ≤ len) : SR (h - l) (subS n len l h) (s.extract l h) := by
  obtain ⟨e1, e2⟩ := hs
  have ed : (s.extract l h).data.toList = (s.data.toList.take h).drop l := by
    rw [ByteArray.data_extract, Array.toList_extract]
    simp [List.take_drop]
    congr 2; omega
  have hl : ((s.data.toList.take h).drop l).length = h - l := by
    rw [List.length_drop, List.length_take, e1]; omega
  refine ⟨by rw [ed, hl], ?_⟩
  rw [ed, pk_drop, pk_take _ _ (by omega), List.length_take, e1, e2]
  have : min h len = h := by omega
  rw [this]
  rfl

theorem ok_sls {t : TypeId} {x : Operand} {lo hi : Option Operand} {x' : Opd} {lo' hi' : Option Opd} (ht : P.underlying t = some .string) (C : Ctx P pr ι H fr a w)
    (hx : compOpd P x = some x') (hlo : compOpdo P lo = some lo') (hhi : compOpdo P hi = some hi') (h : xSls x' lo' hi' call fr H k = some r) :
    PureOK P ι w H k r (Instr.sliceAt t (a.eval x) (lo.map a.eval) (hi.map a.eval) none) := by
  unfold xSls at h; rw [evK_eq, evoK_eq, evoK_eq] at h
  unfold sliceSK at h
  obtain ⟨len, n, e, h1⟩ := vS_some h
  obtain ⟨hh, h2, bh⟩ := C.bnd hhi h1
  obtain ⟨l, h3, bl⟩ := C.bnd hlo h2
  obtain ⟨g1, h4⟩ := guardK_some h3
  obtain ⟨g2, h5⟩ := guardK_some h4
  have g1 := Nat.le_of_ble_eq_true g1
  have g2 := Nat.le_of_ble_eq_true g2
  rw [strV_eq] at h5
  have hv := C.opd hx
  rw [e] at hv
  obtain ⟨s, hs, hsr⟩ := hv
  refine ⟨_, h5, _, ⟨_, rfl, hsr.extract g1 g2⟩, ?_⟩
  rw [hs]
  have hsz := hsr.size
  rw [← hsz] at bh g2
  have hb := run_bounds (P := P) (w := w) (s := false) (cap := s.size) bl bh (.inl ⟨rfl, rfl⟩) (.inl rfl) g1 g2 (Nat.le_refl _)
  simp only [Instr.sliceAt, Sem.run_bind, run_underlying ht, Result.andThen_ok, Instr.slice, Option.isSome_none, Bool.false_eq_true, if_false, hb, Sem.run_pure]
end
end Go.Vai
